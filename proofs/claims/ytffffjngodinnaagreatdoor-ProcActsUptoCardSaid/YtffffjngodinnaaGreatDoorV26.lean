/-
  Parts of the proof.
-/
import Derived.Test.YtffffjngodinnaaGreatDoorV12
import Derived.Test.YtffffjngodinnaaGreatDoorV18
namespace Go.Proofs.YtffffjngodinnaaGreatDoor
section
open Go.RowKit Go.Shelf
def numsOf (l : List UInt8) : List Int := l.map fun b => (b.toNat : Int)
theorem bytesOf_nums (l : List UInt8) : Lib.bytesOf (numsOf l) = l := by
 unfold Lib.bytesOf numsOf
 rw [List.map_map]
 refine (List.map_congr_left fun b _ => ?_).trans (List.map_id l)
 simp
theorem str_nums (l : List UInt8) : strOfNums (numsOf l) = ⟨l.toArray⟩ := by
 have h := Lib.strOfNums_toList (numsOf l)
 rw [bytesOf_nums, Lib.toList_data] at h
 apply ByteArray.ext
 apply Array.ext'
 rw [h]
theorem bytes_equal (w : World) (B B' : Nat) (A1 A2 : Option Addr) (c1 c2 n1 n2 : Nat) (l1 l2 : List UInt8) (h1 : l1.length = n1) (h2 : l2.length = n2) (r1 : Reads w B 1 A1 n1 (bytesC l1)) (r2 : Reads w B' 1 A2 n2 (bytesC l2)) :
 Calls Tryz.prog 92 #[.slice A1 n1 c1, .slice A2 n2 c2] w fun e w' => e = .returned (.bool (l1 == l2)) /\ w' = w := by
 subst h1 h2
 have h := Tryz.bytes_Equal (.slice A1 l1.length c1) (.slice A2 l2.length c2) (numsOf l1) (numsOf l2) w
  (by rw [str_nums]; exact convert_string Tryz.underlying23 Tryz.underlying5 Tryz.underlying9 r1) (by rw [str_nums]; exact convert_string Tryz.underlying23 Tryz.underlying5 Tryz.underlying9 r2)
 rwa [bytesOf_nums, bytesOf_nums] at h
end
end Go.Proofs.YtffffjngodinnaaGreatDoor
