/-
  What the listed tables give; strconv.FormatInt at the three bases, and text.Digits.
-/
import Derived.Test.YtnagiphjlfiifaaDoorTextDigits
import Derived.Test.YtnagiphjlfiifaaDoorTextFinds
import Derived.Test.YtnagiphjlfiifaaDoorShelf
import Derived.WalkSmall
namespace Go.Proofs.YtnagiphjlfiifaaDoor
open Go.RowKit

/-- what the tables hold -/
structure Tabs (w : World) : Prop where
  tz8 : w.cell? ⟨5, 7, none⟩ = some (.int .u8 3)
  tz16 : w.cell? ⟨5, 15, none⟩ = some (.int .u8 4)
  pow : Lib.TabIs Tryd.prog w "internal/strconv.uint64pow10" .u64 Lib.pow10Tab
  utf8 : Lib.Utf8Tabs (Tryd.lays7n55_ren.g 2) (Tryd.lays7n55_ren.g 3) w
  errS : ∃ tp p, w.cell? ⟨2, 0, none⟩ = some (.iface tp p)
  errR : ∃ tp p, w.cell? ⟨3, 0, none⟩ = some (.iface tp p)

theorem cell_lt {w : World} {a : Addr} {v : Value} (h : w.cell? a = some v) : a.block < w.heap.size := World.block_lt_of_cell? w _ h
theorem Tabs.below {w w' : World} (h : Tabs w) (hb : Below w.heap.size w w') : Tabs w' where
  tz8 := (hb.cell (cell_lt h.tz8)).trans h.tz8
  tz16 := (hb.cell (cell_lt h.tz16)).trans h.tz16
  pow := var?_below (g := 1) hb (by kernel_rfl) (by have : 5 < w.heap.size := cell_lt h.tz8; omega) h.pow
  utf8 := Utf8Tabs_below h.utf8 hb
  errS := by obtain ⟨tp, p, h1⟩ := h.errS; exact ⟨tp, p, (hb.cell (cell_lt h1)).trans h1⟩
  errR := by obtain ⟨tp, p, h1⟩ := h.errR; exact ⟨tp, p, (hb.cell (cell_lt h1)).trans h1⟩

theorem below_growN (w : World) (k : Nat) (os : Array Obj) : Below w.heap.size w (Sort.grow (w.drewN k) os) :=
  ⟨rfl, rfl, rfl, by simp [Sort.grow], fun j hj => by
    show (w.heap ++ os)[j]? = w.heap[j]?
    rw [Array.getElem?_append_left hj]⟩

namespace Pl
theorem digs_ten : ∀ (n : Nat), Lib.decDigits n = digs 10 n := by
  intro n
  induction n using Nat.strongRecOn with
  | _ n ih =>
    rw [Lib.decDigits]
    split
    · rename_i h
      rw [digs_small h]
      simp [sign, h]
    · rename_i h
      rw [digs_step (by omega) (by omega), ih (n / 10) (by omega)]
      simp [sign, Nat.mod_lt n (show 0 < 10 by omega)]
theorem itoa_text (n : Int) : Lib.itoa n = text 10 n := by
  unfold Lib.itoa text
  by_cases h : n < 0
  · rw [if_pos h, if_pos h, digs_ten]; rfl
  · rw [if_neg h, if_neg h, digs_ten, show n.toNat = n.natAbs by omega]; rfl
end Pl

/-- FormatInt at a base -/
def Fmt (b : Nat) : Prop := ∀ (n : Int) (w : World), -9223372036854775808 ≤ n → n ≤ 9223372036854775807 → Tabs w →
  Calls Tryd.prog 25 #[.int .i64 n, .int .i64 b] w fun e w' => e = .returned (.string ⟨(Pl.text b n).toArray⟩) ∧ Below w.heap.size w w'

theorem fmt10 : Fmt 10 := fun n w h0 h1 ht => (Tryd.strconv_FormatInt_10 n h0 h1 w ht.pow).mono fun e w' ⟨he, k, os, hw⟩ => ⟨by rw [he, Pl.itoa_text], hw ▸ below_growN w k os⟩

set_option maxHeartbeats 1000000 in
theorem fmti8 (n : Int) (w : World) (h0 : -9223372036854775808 ≤ n) (h1 : n ≤ 9223372036854775807) (ht : Tabs w) :
    Calls Tryd.prog 32 #[.int .i64 n, .int .i64 8] w fun e w' => e = .returned (.string ⟨(Pl.text 8 n).toArray⟩) ∧ Below w.heap.size w w' := by
  have hz := ht.tz8
  clear ht
  by_cases hn : 0 ≤ n
  · obtain ⟨m, rfl⟩ := Int.eq_ofNat_of_zero_le hn
    have hc := bits8p m (by omega) w hz
    have ht : Pl.digs 8 m = Pl.text 8 m := by unfold Pl.text; rw [if_neg (by omega)]; rfl
    rw [ht] at hc
    clear hz ht hn
    go_enter Tryd.func32, Tryd.ntmps32
    go_wp2_with (go_at_call 41; refine hc.mono ?_; rintro e w' ⟨rfl, hbe⟩)
    go_ret
    exact ⟨rfl, hbe⟩
  · obtain ⟨U, hU⟩ : ∃ U : Nat, (U : Int) = 18446744073709551616 + n := ⟨(18446744073709551616 + n).toNat, by omega⟩
    have hc := bits8n n.natAbs (by omega) U (by omega) w hz
    have ht : 45 :: Pl.digs 8 n.natAbs = Pl.text 8 n := by unfold Pl.text; rw [if_pos (by omega)]; rfl
    rw [ht] at hc
    have hneg : n < 0 := by omega
    have hw : IntKind.u64.wrap n = (U : Int) := by
      have h1 : IntKind.u64.wrap n = n % 18446744073709551616 := rfl
      omega
    clear hz ht hn hU
    go_enter Tryd.func32, Tryd.ntmps32
    go_wp2_with (go_at_call 41; refine hc.mono ?_; rintro e w' ⟨rfl, hbe⟩)
    go_ret
    exact ⟨rfl, hbe⟩
theorem fmt8 : Fmt 8 := by
  intro n w h0 h1 ht
  have hc := fmti8 n w h0 h1 ht
  clear ht
  show Calls Tryd.prog 25 #[.int .i64 n, .int .i64 8] w _
  go_enter Tryd.func25, Tryd.ntmps25
  go_wp2_with (go_at_call 32; refine hc.mono ?_; rintro e w' ⟨rfl, hbe⟩)
  go_ret
  exact ⟨rfl, hbe⟩

set_option maxHeartbeats 1000000 in
theorem fmti16 (n : Int) (w : World) (h0 : -9223372036854775808 ≤ n) (h1 : n ≤ 9223372036854775807) (ht : Tabs w) :
    Calls Tryd.prog 32 #[.int .i64 n, .int .i64 16] w fun e w' => e = .returned (.string ⟨(Pl.text 16 n).toArray⟩) ∧ Below w.heap.size w w' := by
  have hz := ht.tz16
  clear ht
  by_cases hn : 0 ≤ n
  · obtain ⟨m, rfl⟩ := Int.eq_ofNat_of_zero_le hn
    have hc := bits16p m (by omega) w hz
    have ht : Pl.digs 16 m = Pl.text 16 m := by unfold Pl.text; rw [if_neg (by omega)]; rfl
    rw [ht] at hc
    clear hz ht hn
    go_enter Tryd.func32, Tryd.ntmps32
    go_wp2_with (go_at_call 41; refine hc.mono ?_; rintro e w' ⟨rfl, hbe⟩)
    go_ret
    exact ⟨rfl, hbe⟩
  · obtain ⟨U, hU⟩ : ∃ U : Nat, (U : Int) = 18446744073709551616 + n := ⟨(18446744073709551616 + n).toNat, by omega⟩
    have hc := bits16n n.natAbs (by omega) U (by omega) w hz
    have ht : 45 :: Pl.digs 16 n.natAbs = Pl.text 16 n := by unfold Pl.text; rw [if_pos (by omega)]; rfl
    rw [ht] at hc
    have hneg : n < 0 := by omega
    have hw : IntKind.u64.wrap n = (U : Int) := by
      have h1 : IntKind.u64.wrap n = n % 18446744073709551616 := rfl
      omega
    clear hz ht hn hU
    go_enter Tryd.func32, Tryd.ntmps32
    go_wp2_with (go_at_call 41; refine hc.mono ?_; rintro e w' ⟨rfl, hbe⟩)
    go_ret
    exact ⟨rfl, hbe⟩
theorem fmt16 : Fmt 16 := by
  intro n w h0 h1 ht
  have hc := fmti16 n w h0 h1 ht
  clear ht
  show Calls Tryd.prog 25 #[.int .i64 n, .int .i64 16] w _
  go_enter Tryd.func25, Tryd.ntmps25
  go_wp2_with (go_at_call 32; refine hc.mono ?_; rintro e w' ⟨rfl, hbe⟩)
  go_ret
  exact ⟨rfl, hbe⟩

/-- the text of a number to a base -/
def textOf (b n : Int) : ByteArray := if b = 8 ∨ b = 10 ∨ b = 16 then ⟨(Pl.text b.toNat n).toArray⟩ else ⟨#[]⟩

set_option maxHeartbeats 1000000 in
theorem digits_any (n b : Int) (w : World) (h0 : -9223372036854775808 ≤ n) (h1 : n ≤ 9223372036854775807) (ht : Tabs w) :
    Calls Tryd.prog 16 #[.int .i64 n, .int .i64 b] w fun e w' => e = .returned (.string (textOf b n)) ∧ Below w.heap.size w w' := by
  by_cases hb : b = 8 ∨ b = 10 ∨ b = 16
  · rcases hb with rfl | rfl | rfl
    · have hc : Calls Tryd.prog 25 #[.int .i64 n, .int .i64 8] w fun e w' => e = .returned (.string (textOf 8 n)) ∧ Below w.heap.size w w' := fmt8 n w h0 h1 ht
      clear ht
      go_enter Tryd.func16, Tryd.ntmps16
      go_wp2_with (go_at_call 25; refine hc.mono ?_; rintro e w' ⟨rfl, hbe⟩)
      go_ret
      exact ⟨rfl, hbe⟩
    · have hc : Calls Tryd.prog 25 #[.int .i64 n, .int .i64 10] w fun e w' => e = .returned (.string (textOf 10 n)) ∧ Below w.heap.size w w' := fmt10 n w h0 h1 ht
      clear ht
      go_enter Tryd.func16, Tryd.ntmps16
      go_wp2_with (go_at_call 25; refine hc.mono ?_; rintro e w' ⟨rfl, hbe⟩)
      go_ret
      exact ⟨rfl, hbe⟩
    · have hc : Calls Tryd.prog 25 #[.int .i64 n, .int .i64 16] w fun e w' => e = .returned (.string (textOf 16 n)) ∧ Below w.heap.size w w' := fmt16 n w h0 h1 ht
      clear ht
      go_enter Tryd.func16, Tryd.ntmps16
      go_wp2_with (go_at_call 25; refine hc.mono ?_; rintro e w' ⟨rfl, hbe⟩)
      go_ret
      exact ⟨rfl, hbe⟩
  · have h8 : (b == 8) = false := by rw [beq_eq_false_iff_ne]; omega
    have h10 : (b == 10) = false := by rw [beq_eq_false_iff_ne]; omega
    have h16 : (b == 16) = false := by rw [beq_eq_false_iff_ne]; omega
    have g8 : (b != 8) = true := by rw [bne, h8]; rfl
    have g10 : (b != 10) = true := by rw [bne, h10]; rfl
    have g16 : (b != 16) = true := by rw [bne, h16]; rfl
    have he : textOf b n = ⟨#[]⟩ := by unfold textOf; rw [if_neg hb]
    rw [he]
    clear ht he hb
    go_enter Tryd.func16, Tryd.ntmps16
    go_wp2
    go_ret
    exact ⟨rfl, Below.refl _ _⟩

end Go.Proofs.YtnagiphjlfiifaaDoor
