/-
  A walk over slices.Clone at []string.
-/
import Derived.Test.YtnagiphjlfiifaaOptSame
import Derived.Lib.SliceRun
namespace Go.Proofs.Ytnagiphjlfiifaa
open Go.RowKit

theorem strs_length (l : List ByteArray) : (strs l).length = l.length := by simp [strs]
theorem strs_oneCell (l : List ByteArray) : ∀ u ∈ strs l, u.oneCell' = true := by
  intro u hu
  obtain ⟨s, _, rfl⟩ := List.mem_map.1 hu
  rfl

set_option maxHeartbeats 400000 in
theorem clone_any (A : Option Addr) (n cap : Nat) (l : List ByteArray) (w : World) (B : Nat) (hn : n = l.length) (hr : Reads w B 1 A n (strs l)) (hB : B ≤ w.heap.size) (hl : n ≤ 2097152) :
    Calls Try.prog 14 #[.slice A n cap] w fun e w' => ∃ v, e = .returned v ∧ w'.ownsRow w.heap.size 9 1 v n (strs l) ∧ Below w.heap.size w w' := by
  have heq := fun (W : World) => Lib.run_eql_slice_nil (P := Try.prog) W 22 9 A n cap 0 0 Try.underlying22
  have hR := Lib.hid hr
  have hN := Lib.hid hn
  clear hr hn
  cases A with
  | none =>
    go_enter Try.func14, Try.ntmps14
    go_wp2
    go_returns
    have h0 : n = 0 := by
      rcases Nat.eq_zero_or_pos n with h | h
      · exact h
      · obtain ⟨ad, h, _⟩ := hR.out.2 h
        cases h
    have hnil : l = [] := List.eq_nil_of_length_eq_zero (hN.out.symm.trans h0)
    subst hnil h0
    exact ⟨_, rfl, World.ownsRow_nil _ _ _ _, Below.refl _ _⟩
  | some ad =>
    obtain ⟨iS, hiS, hS0, hS1, hS2⟩ := info_parts Try.infoStr
    have HI := Lib.hid hiS
    have H0 := Lib.hid hS0
    have H1 := Lib.hid hS1
    have H2 := Lib.hid hS2
    clear hiS hS0 hS1 hS2
    go_enter Try.func14, Try.ntmps14
    go_wp2_with (at_builtin; refine wpList_append_any _ rfl _ _ 22 rfl w.heap.size 9 iS (.string ⟨#[]⟩) 1 16 Try.underlying22 HI.out H0.out H1.out H2.out rfl (by decide) (.slice (some ⟨w.heap.size, 0, none⟩) 0 0) 0 [] rfl (World.ownsRow_made w #[] 0 (Nat.le_refl _) (by decide) rfl) w.heap.size (some ad) n cap (strs l) rfl ((hR.out.more hB).alloc (Nat.le_refl _) _) (strs_oneCell l) (by simp only [maxLen]; omega) (by omega) (by simp) ?_; intro v1 w1 hown1 hg1 hat1)
    go_returns
    refine ⟨v1, rfl, by simpa using hown1, ((Below.refl _ _).alloc (Nat.le_refl _) _).grown hg1 (by simp) (fun k hk => ?_)⟩
    simp [Value.ownBlock] at hk
    omega
end Go.Proofs.Ytnagiphjlfiifaa
