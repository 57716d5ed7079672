/-
  Parts of the proof: strings.Split at a stroke, in a world of which nothing is asked: the pieces of a path.
-/
import Derived.Test.YtlncmknikjloeaaGreatDoorV26
import Derived.Test.YtlncmknikjloeaaGreatDoorV07
import Derived.Test.YtlncmknikjloeaaGreatDoorV02
import Derived.WalkKit

section
namespace Go.Proofs.YtlncmknikjloeaaGreatDoor
open Go.RowKit

theorem segs_split (s : List UInt8) : Lib.splitK [47] 0 (s.count 47) s = Abs.segs s := by
  induction s with
  | nil => rfl
  | cons c l ih =>
    unfold Abs.segs
    by_cases hc : c = 47
    · subst hc
      rw [if_pos rfl, List.count_cons_self]
      unfold Lib.splitK
      have h0 : Lib.index (47 :: l) [47] = 0 := by rw [Lib.index_one]; simp [Lib.indexByte]
      rw [h0, if_neg (by decide)]
      simp [ih]
    · rw [if_neg hc, List.count_cons_of_ne hc, ← ih]
      cases hk : l.count 47 with
      | zero => simp [Lib.splitK]
      | succ k =>
        have hm : (47 : UInt8) ∈ l := List.count_pos_iff.1 (by omega)
        have hne : Lib.indexByte l 47 ≠ -1 := by
          intro h
          obtain ⟨i, hi⟩ := List.mem_iff_getElem?.1 hm
          exact Lib.indexByte_none h i hi
        have hge := Lib.indexByte_ge l 47
        obtain ⟨o, ho⟩ : ∃ o : Nat, Lib.indexByte l 47 = o := ⟨(Lib.indexByte l 47).toNat, by omega⟩
        have hcb : (c == 47) = false := beq_eq_false_iff_ne.2 hc
        have h1 : Lib.index (c :: l) [47] = ((o + 1 : Nat) : Int) := by
          rw [Lib.index_one]
          unfold Lib.indexByte
          rw [hcb, ho]
          have : ((o : Int) == -1) = false := beq_eq_false_iff_ne.2 (by omega)
          simp [this]
        have h2 : Lib.index l [47] = (o : Int) := by rw [Lib.index_one, ho]
        unfold Lib.splitK
        rw [h1, h2, if_neg (by simp; omega), if_neg (by simp)]
        simp

/-- the pieces, as strings -/
def segsB (s : ByteArray) : List ByteArray := (Abs.segs s.data.toList).map fun l => ⟨l.toArray⟩
theorem segsB_split (s : ByteArray) : Lib.splitB ⟨#[47]⟩ 0 (Lib.countB s ⟨#[47]⟩) s = segsB s := by
  have h := Lib.splitB_data ⟨#[47]⟩ 0 (Lib.countB s ⟨#[47]⟩) s
  have hc : Lib.countB s ⟨#[47]⟩ = s.data.toList.count 47 := Lib.count_one 47 s.data.toList
  have h2 : (Lib.splitB ⟨#[47]⟩ 0 (Lib.countB s ⟨#[47]⟩) s).map (·.data.toList) = Abs.segs s.data.toList := by
    rw [h, hc]
    exact segs_split s.data.toList
  unfold segsB
  rw [← h2, List.map_map]
  refine (List.map_id _).symm.trans (List.map_congr_left fun b _ => ?_)
  cases b
  rfl

theorem splitSlash (s : ByteArray) (w : World) (hs : s.size < 4294967281) :
    Calls Tryz.prog 99 #[.string s, .string ⟨#[47]⟩] w fun e w' =>
      e = .returned (.slice (some ⟨w.heap.size, 0, none⟩) (segsB s).length (segsB s).length) ∧ w' = w.alloc (.cells ((segsB s).map Value.string).toArray 9) := by
  have hsz : (⟨#[47]⟩ : ByteArray).size = 1 := rfl
  have hC : Calls Tryz.prog 134 #[.string s, .string ⟨#[47]⟩] w fun e w' => e = .returned (.int .i64 (Lib.countB s ⟨#[47]⟩)) ∧ w' = w := by
    refine (Tryz.strings_Count_one s 47 w).mono fun e w' ⟨he, hw⟩ => ⟨?_, hw⟩
    rw [he]
    show _ = Ending.returned (Value.int .i64 ((Lib.count s.data.toList [47] : Nat) : Int))
    rw [Lib.count_one]
    rfl
  have hI : ∀ (x : ByteArray) (c : Array Value), x.size ≤ s.size → Calls Tryz.prog 135 #[.string x, .string ⟨#[47]⟩] (w.alloc (.cells c 9)) fun e w' => e = .returned (.int .i64 (Lib.indexB x ⟨#[47]⟩)) ∧ w' = w.alloc (.cells c 9) := by
    intro x c _
    refine (Tryz.strings_Index_one x 47 _).mono fun e w' ⟨he, hw⟩ => ⟨?_, hw⟩
    rw [he]
    show _ = Ending.returned (Value.int .i64 (Lib.index x.data.toList [47]))
    rw [Lib.index_one]
  have hle := Lib.countB_le ⟨#[47]⟩ (by decide) s.size s (Nat.le_refl _)
  have hlen := Lib.splitB_all ⟨#[47]⟩ (by decide) 0 _ s rfl
  have c := Any.strings_genSplit_core Tryz.lays221 (by kernel_rfl) s ⟨#[47]⟩ 0 (-1) (Lib.countB s ⟨#[47]⟩ + 1) w hs (by decide) (by decide) hI hC (by decide) (by decide) (by rw [if_pos (by decide)]; omega)
  rw [Nat.add_sub_cancel, hlen] at c
  have e2 : Lib.cellsOf (Lib.splitB ⟨#[47]⟩ 0 (Lib.countB s ⟨#[47]⟩) s) (Lib.countB s ⟨#[47]⟩ + 1) = ((Lib.splitB ⟨#[47]⟩ 0 (Lib.countB s ⟨#[47]⟩) s).map Value.string).toArray := by rw [← hlen]; exact Lib.cellsOf_full _
  rw [e2] at c
  have hl2 : Lib.countB s ⟨#[47]⟩ + 1 = (segsB s).length := by rw [← hlen, segsB_split]
  rw [segsB_split, hl2] at c
  go_enter Tryz.func99, Tryz.ntmps99
  go_wp2_with (go_at_call 119; refine c.mono ?_; rintro e w' ⟨rfl, hw⟩; rw [hw])
  go_ret
  exact ⟨rfl, rfl⟩

end Go.Proofs.YtlncmknikjloeaaGreatDoor
end
