/-
  Walks over opt.Has: a closure handed to slices.ContainsFunc.
-/
import Derived.Test.YtnagiphjlfiifaaOptParse
namespace Go.Proofs.Ytnagiphjlfiifaa
open Go.RowKit

/-- the closure: is it that letter -/
theorem has1_any (x : UInt8) (t : ByteArray) (c : UInt8) (b : Nat) (w : World) (hc : w.cell? ⟨b, 0, none⟩ = some (.int .u8 c.toNat)) (hb : b < w.heap.size) :
    Calls Try.prog 17 #[.agg #[.int .u8 x.toNat, .string t], .pointer (some ⟨b, 0, none⟩)] w fun e w' => e = .returned (.bool (x == c)) ∧ Below w.heap.size w w' := by
  have hx := Lib.hid (Pl.u8_beq x c)
  have hc' := fun (o : Obj) => (World.cell?_alloc_lt w o ⟨b, 0, none⟩ hb).trans hc
  clear hc
  go_enter Try.func17, Try.ntmps17
  go_wp2
  go_returns
  exact ⟨by rw [← hx.out]; rfl, (Below.refl _ _).alloc (Nat.le_refl _) _⟩

set_option maxHeartbeats 400000 in
theorem indexFunc_any (A : Option Addr) (cap : Nat) (l : List Pl.Opt) (c : UInt8) (b : Nat) (w : World) (B : Nat) (hr : Reads w B 2 A l.length (optCells l)) (hB : B ≤ w.heap.size) (hl : l.length ≤ 2097152)
    (hc : w.cell? ⟨b, 0, none⟩ = some (.int .u8 c.toNat)) (hb : b < w.heap.size) :
    Calls Try.prog 19 #[.slice A l.length cap, .func (.func 17) #[] #[.pointer (some ⟨b, 0, none⟩)]] w fun e w' =>
      ∃ n : Int, e = .returned (.int .i64 n) ∧ (hasOpt l c = decide (0 ≤ n)) ∧ Below w.heap.size w w' := by
  have hR := Lib.hid (hr.more hB)
  have hC := Lib.hid hc
  clear hr hc
  go_enter Try.func19, Try.ntmps19
  go_wp2_with fail
  go_loopw [8] (fun i wr => ∃ k : Nat, k ≤ l.length ∧ i = .int .i64 k ∧ Below w.heap.size w wr ∧ Hid (hasOpt l c = hasOpt (l.drop k) c)) (fun i _ => l.length - (intOf i).toNat)
  case atStart => exact ⟨0, Nat.zero_le _, rfl, Below.refl _ _, Lib.hid (by simp)⟩
  case round =>
    obtain ⟨k, hk, rfl, hbl, hs⟩ := hrel
    by_cases hlt : k < l.length
    · obtain ⟨ad, rfl, _, hc1, hc2⟩ := reads_opt (hR.out.below hbl) hlt
      have hdr := Lib.hid (List.drop_eq_getElem_cons hlt)
      have hcb := Lib.hid ((hbl.cell (p := ⟨b, 0, none⟩) hb).trans hC.out)
      by_cases hx : (l[k]).1 = c
      · have hfin := Lib.hid (hs.out.trans (by rw [hdr.out, hasOpt_cons, beq_iff_eq.2 hx]; rfl : _ = true))
        have hcall := Lib.hid (by simpa only [beq_iff_eq.2 hx] using has1_any (l[k]).1 (l[k]).2 c b wr hcb.out (by have := hbl.size; omega))
        clear hx
        go_wp2_with (go_at_call 17; refine hcall.out.mono ?_; rintro e w1 ⟨rfl, hb1⟩)
        go_returns
        exact ⟨k, rfl, by rw [hfin.out]; simp, hbl.trans (hb1.mono hbl.size)⟩
      · have hfin := Lib.hid (hs.out.trans (by rw [hdr.out, hasOpt_cons, beq_eq_false_iff_ne.2 hx]; rfl : _ = hasOpt (l.drop (k + 1)) c))
        have hcall := Lib.hid (by simpa only [beq_eq_false_iff_ne.2 hx] using has1_any (l[k]).1 (l[k]).2 c b wr hcb.out (by have := hbl.size; omega))
        clear hx
        go_wp2_with (go_at_call 17; refine hcall.out.mono ?_; rintro e w1 ⟨rfl, hb1⟩)
        go_roundw
        case rel => exact ⟨k + 1, by omega, by go_num, hbl.trans (hb1.mono hbl.size), hfin⟩
        case measure => simp [intOf]; omega
    · go_wp2_with fail
      go_returns
      exact ⟨-1, rfl, by rw [hs.out, List.drop_eq_nil_of_le (by omega)]; rfl, hbl⟩

set_option maxHeartbeats 400000 in
theorem containsFunc_any (A : Option Addr) (cap : Nat) (l : List Pl.Opt) (c : UInt8) (b : Nat) (w : World) (B : Nat) (hr : Reads w B 2 A l.length (optCells l)) (hB : B ≤ w.heap.size) (hl : l.length ≤ 2097152)
    (hc : w.cell? ⟨b, 0, none⟩ = some (.int .u8 c.toNat)) (hb : b < w.heap.size) :
    Calls Try.prog 16 #[.slice A l.length cap, .func (.func 17) #[] #[.pointer (some ⟨b, 0, none⟩)]] w fun e w' =>
      e = .returned (.bool (hasOpt l c)) ∧ Below w.heap.size w w' := by
  have hcall := Lib.hid (indexFunc_any A cap l c b w B hr hB hl hc hb)
  clear hr hc
  go_enter Try.func16, Try.ntmps16
  go_wp2_with (go_at_call 19; refine hcall.out.mono ?_; rintro e w1 ⟨n, rfl, hn, hb1⟩; have hn' := Lib.hid hn; clear hn)
  go_returns
  exact ⟨by rw [hn'.out]; rfl, hb1⟩

set_option maxHeartbeats 400000 in
theorem has_any (A : Option Addr) (cap : Nat) (l : List Pl.Opt) (c : UInt8) (w : World) (hr : Reads w w.heap.size 2 A l.length (optCells l)) (hl : l.length ≤ 2097152) :
    Calls Try.prog 9 #[.slice A l.length cap, .int .u8 c.toNat] w fun e w' => e = .returned (.bool (hasOpt l c)) ∧ Below w.heap.size w w' := by
  have hcall := Lib.hid (containsFunc_any A cap l c w.heap.size (w.alloc (.cells #[.int .u8 c.toNat] 5)) w.heap.size (hr.alloc (Nat.le_refl _) _) (by simp) hl (by simp) (by simp))
  clear hr
  go_enter Try.func9, Try.ntmps9
  go_wp2_with (go_at_call 16; refine hcall.out.mono ?_; rintro e w1 ⟨rfl, hb1⟩)
  go_returns
  exact ⟨rfl, ((Below.refl _ _).alloc (Nat.le_refl _) _).trans (hb1.mono (by simp))⟩
end Go.Proofs.Ytnagiphjlfiifaa
