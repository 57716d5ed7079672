/-
  Parts of the proof: A walk over slices.Clone at []string; A walk over Said of a sink.
-/
import Derived.Test.YtlncmknikjloeaaGreatDoorV09
import Derived.Lib.SliceRun
import Derived.Test.YtlncmknikjloeaaGreatDoorV06

section
namespace Go.Proofs.YtlncmknikjloeaaGreatDoor
open Go.RowKit

theorem Tryz.infoStrC : (Tryz.prog.info? 9).map (fun i => (i.zero, i.size, i.bytes)) = some (some (.string ⟨#[]⟩), 1, 16) := by kernel_rfl
theorem strsC_length (l : List ByteArray) : (strsC l).length = l.length := by simp [strsC]
theorem strsC_oneCell (l : List ByteArray) : ∀ u ∈ strsC l, u.oneCell' = true := by
  intro u hu
  obtain ⟨s, _, rfl⟩ := List.mem_map.1 hu
  rfl

set_option maxHeartbeats 400000 in
theorem cloneS_any (A : Option Addr) (n cap : Nat) (l : List ByteArray) (w : World) (B : Nat) (hn : n = l.length) (hr : Reads w B 1 A n (strsC l)) (hB : B ≤ w.heap.size) (hl : n ≤ 2097152) :
    Calls Tryz.prog 31 #[.slice A n cap] w fun e w' => ∃ v, e = .returned v ∧ w'.ownsRow w.heap.size 9 1 v n (strsC l) ∧ Below w.heap.size w w' := by
  have heq := fun (W : World) => Lib.run_eql_slice_nil (P := Tryz.prog) W 23 9 A n cap 0 0 Tryz.underlying23
  have hR := Lib.hid hr
  have hN := Lib.hid hn
  clear hr hn
  cases A with
  | none =>
    go_enter Tryz.func31, Tryz.ntmps31
    go_wp2
    go_returns
    have h0 : n = 0 := by
      rcases Nat.eq_zero_or_pos n with h | h
      · exact h
      · obtain ⟨ad, h, _⟩ := hR.out.2 h
        cases h
    have hnil : l = [] := List.eq_nil_of_length_eq_zero (hN.out.symm.trans h0)
    subst hnil h0
    exact ⟨_, rfl, World.ownsRow_nil _ _ _ _, Below.refl _ _⟩
  | some ad =>
    obtain ⟨iS, hiS, hS0, hS1, hS2⟩ := info_parts Tryz.infoStrC
    have HI := Lib.hid hiS
    have H0 := Lib.hid hS0
    have H1 := Lib.hid hS1
    have H2 := Lib.hid hS2
    clear hiS hS0 hS1 hS2
    go_enter Tryz.func31, Tryz.ntmps31
    go_wp2_with (at_builtin; refine wpList_append_any _ rfl _ _ 23 rfl w.heap.size 9 iS (.string ⟨#[]⟩) 1 16 Tryz.underlying23 HI.out H0.out H1.out H2.out rfl (by decide) (.slice (some ⟨w.heap.size, 0, none⟩) 0 0) 0 [] rfl (World.ownsRow_made w #[] 0 (Nat.le_refl _) (by decide) rfl) w.heap.size (some ad) n cap (strsC l) rfl ((hR.out.more hB).alloc (Nat.le_refl _) _) (strsC_oneCell l) (by simp only [maxLen]; omega) (by omega) (by simp) ?_; intro v1 w1 hown1 hg1 hat1)
    go_returns
    refine ⟨v1, rfl, by simpa using hown1, ((Below.refl _ _).alloc (Nat.le_refl _) _).grown hg1 (by simp) (fun k hk => ?_)⟩
    simp [Value.ownBlock] at hk
    omega
end Go.Proofs.YtlncmknikjloeaaGreatDoor
end

section
namespace Go.Proofs.YtlncmknikjloeaaGreatDoor
open Go.RowKit Go.Maps

set_option maxRecDepth 100000 in
set_option maxHeartbeats 1000000 in
theorem kSaid (w : World) (k : Nat) (K : KS) (h : KernOf w k K) (n : Nat) (hn : n < 4611686018427387904) (p : Nat) (hx : K.tf (numK n) = some (sinkV p)) (base : Nat) (v : Value) (bs : List UInt8) (hp : SinkAt w p v) (hv : OffRow w base 5 v bs.length (bytesC bs)) (hl : bs.length ≤ 140737488355328) :
    Calls Tryz.prog 14 #[.pointer (some ⟨k, 0, none⟩), .int .i64 (n : Int)] w fun e w' => ∃ u, e = .returned u ∧ w'.ownsRow w.heap.size 5 1 u bs.length (bytesC bs) ∧ Below w.heap.size w w' := by
  have hcl := cloneB w v bs (Bytes.of_off hv) hl
  have c0 : w.cell? ⟨p, 0, none⟩ = some v := hp.cell 0
  have c5 : w.cell? ⟨k, 5, none⟩ = some (.map (some K.tb)) := h.blk.cell 5
  obtain ⟨A, cp, hvf, _⟩ := hv.form
  subst hvf
  go_enter Tryz.func14, Tryz.ntmps14
  go_wp2_with (first
    | (go_at_call 39; refine hcl.mono ?_; rintro e w1 ⟨u, rfl, hown, hbel⟩)
    | (at_lookup; refine wpList_look1_of _ rfl _ _ 65 rfl 3 95 intKeys Tryz.underlying65 .nilIface (by kernel_rfl) K.tb K.tn K.tf rfl h.things _ (numK n) rfl (keyOf_int_mk Tryz.underlying3 (WalkArith.wf_i64 (by omega))) ?_; rw [hx]; unfold sinkV))
  go_returns
  exact ⟨_, rfl, hown, hbel⟩

end Go.Proofs.YtlncmknikjloeaaGreatDoor
end
