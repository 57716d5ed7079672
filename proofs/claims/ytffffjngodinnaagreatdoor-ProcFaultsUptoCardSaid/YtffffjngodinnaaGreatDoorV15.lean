/-
  Parts of the proof: A walk over slices.Clone at []string; Strings of bytes that are read: conversions, and tests of two such strings.
-/
import Derived.Test.YtffffjngodinnaaGreatDoorV10
import Derived.Lib.SliceRun
import Derived.Test.YtffffjngodinnaaGreatDoorV07
import Derived.Test.YtffffjngodinnaaGreatDoorV05
import Derived.Laws.IdiomStrings
import Derived.Lib.Strings
import Derived.Lib.ConvBytes

section
namespace Go.Proofs.YtffffjngodinnaaGreatDoor
open Go.RowKit

theorem Tryz.infoStrC : (Tryz.prog.info? 9).map (fun i => (i.zero, i.size, i.bytes)) = some (some (.string ⟨#[]⟩), 1, 16) := by kernel_rfl
theorem strsC_length (l : List ByteArray) : (strsC l).length = l.length := by simp [strsC]
theorem strsC_oneCell (l : List ByteArray) : ∀ u ∈ strsC l, u.oneCell' = true := by
  intro u hu
  obtain ⟨s, _, rfl⟩ := List.mem_map.1 hu
  rfl

set_option maxHeartbeats 400000 in
theorem cloneS_any (A : Option Addr) (n cap : Nat) (l : List ByteArray) (w : World) (B : Nat) (hn : n = l.length) (hr : Reads w B 1 A n (strsC l)) (hB : B ≤ w.heap.size) (hl : n ≤ 2097152) :
    Calls Tryz.prog 59 #[.slice A n cap] w fun e w' => ∃ v, e = .returned v ∧ w'.ownsRow w.heap.size 9 1 v n (strsC l) ∧ Below w.heap.size w w' := by
  have heq := fun (W : World) => Lib.run_eql_slice_nil (P := Tryz.prog) W 22 9 A n cap 0 0 Tryz.underlying22
  have hR := Lib.hid hr
  have hN := Lib.hid hn
  clear hr hn
  cases A with
  | none =>
    go_enter Tryz.func59, Tryz.ntmps59
    go_wp2
    go_returns
    have h0 : n = 0 := by
      rcases Nat.eq_zero_or_pos n with h | h
      · exact h
      · obtain ⟨ad, h, _⟩ := hR.out.2 h
        cases h
    have hnil : l = [] := List.eq_nil_of_length_eq_zero (hN.out.symm.trans h0)
    subst hnil h0
    exact ⟨_, rfl, World.ownsRow_nil _ _ _ _, Below.refl _ _⟩
  | some ad =>
    obtain ⟨iS, hiS, hS0, hS1, hS2⟩ := info_parts Tryz.infoStrC
    have HI := Lib.hid hiS
    have H0 := Lib.hid hS0
    have H1 := Lib.hid hS1
    have H2 := Lib.hid hS2
    clear hiS hS0 hS1 hS2
    go_enter Tryz.func59, Tryz.ntmps59
    go_wp2_with (at_builtin; refine wpList_append_any _ rfl _ _ 22 rfl w.heap.size 9 iS (.string ⟨#[]⟩) 1 16 Tryz.underlying22 HI.out H0.out H1.out H2.out rfl (by decide) (.slice (some ⟨w.heap.size, 0, none⟩) 0 0) 0 [] rfl (World.ownsRow_made w #[] 0 (Nat.le_refl _) (by decide) rfl) w.heap.size (some ad) n cap (strsC l) rfl ((hR.out.more hB).alloc (Nat.le_refl _) _) (strsC_oneCell l) (by simp only [maxLen]; omega) (by omega) (by simp) ?_; intro v1 w1 hown1 hg1 hat1)
    go_returns
    refine ⟨v1, rfl, by simpa using hown1, ((Below.refl _ _).alloc (Nat.le_refl _) _).grown hg1 (by simp) (fun k hk => ?_)⟩
    simp [Value.ownBlock] at hk
    omega
end Go.Proofs.YtffffjngodinnaaGreatDoor
end

section
namespace Go.Proofs.YtffffjngodinnaaGreatDoor
open Go.RowKit

/-- a string of these bytes -/
def strB (l : List UInt8) : ByteArray := ⟨l.toArray⟩
theorem strB_toList (l : List UInt8) : (strB l).toList = l := by rw [ByteArray.toList_eq]; rfl
theorem strB_size (l : List UInt8) : (strB l).size = l.length := by simp [strB, ByteArray.size]
theorem strB_eq (a b : List UInt8) : ((strB a).toList == (strB b).toList) = decide (a = b) := by
  rw [strB_toList, strB_toList, Bool.eq_iff_iff, beq_iff_eq, decide_eq_true_eq]
theorem strB_inj {a b : List UInt8} (h : strB a = strB b) : a = b := by rw [← strB_toList a, h, strB_toList]

/-- the bytes that a slice reads as, as a string -/
theorem convert_string {P : Program} {src dst e : TypeId} (hs : P.underlying src = some (.slice e)) (he : P.underlying e = some (.int .u8)) (hd : P.underlying dst = some .string) {W : World} {B cap : Nat} {A : Option Addr} {l : List UInt8} (hr : Reads W B 1 A l.length (bytesC l)) :
    (convert src dst (.slice A l.length cap)).run P W = .ok (.string ⟨l.toArray⟩) W := by
  rcases A with _ | ad
  · have h0 : l = [] := by
      rcases l with _ | ⟨c, l⟩
      · rfl
      · obtain ⟨ad, h, _⟩ := hr.2 (by simp); cases h
    subst h0
    exact run_convert_bytes_nil W src e hs he 0 cap dst hd
  · refine run_convert_bytes_back W src dst e ad cap l hs he hd fun j hj => ?_
    obtain ⟨ad', h, _, hc⟩ := hr.2 (by omega)
    cases h
    exact hc j _ (by simp [bytesC, List.getElem?_eq_getElem hj])


theorem convOut {W : World} {B cap n : Nat} {A : Option Addr} {l : List UInt8} {S : ByteArray} (hS : strB l = S) (hn : l.length = n) (hr : Reads W B 1 A l.length (bytesC l)) : (convert 23 9 (.slice A n cap)).run Tryz.prog W = .ok (.string S) W := by
  subst hS hn
  exact convert_string Tryz.underlying23 Tryz.underlying5 Tryz.underlying9 hr

end Go.Proofs.YtffffjngodinnaaGreatDoor
end
