/-
  A walk over awake: the chapter's examples.
-/
import Derived.Test.YtnagiphjlfiifaaDoorTextBased
import Derived.Test.YtnagiphjlfiifaaDoorTextPieces
import Derived.Test.YtnagiphjlfiifaaDoorTextRefPlain
import Derived.Lib.SlBytesConst
namespace Go.Proofs.YtnagiphjlfiifaaDoor
open Go.RowKit

theorem rows_at {W : World} {base : Nat} {v : Value} {ls : List (List UInt8)} (h : RowsOf W base v ls) (hpos : 0 < ls.length) :
    ∃ g cap, v = .slice (some ⟨g, 0, none⟩) ls.length cap ∧ base ≤ g ∧ g < W.heap.size ∧ ∀ (i : Nat) (l : List UInt8), ls[i]? = some l → ∃ A ci, W.cell? ⟨g, i, none⟩ = some (.slice A l.length ci) ∧ Reads W W.heap.size 1 A l.length (bytesC l) := by
  obtain ⟨vs, h1, h2⟩ := h
  obtain ⟨g, cap, hv, hb, hlt⟩ := h1.form hpos
  refine ⟨g, cap, hv, hb, hlt, fun i l hl => ?_⟩
  obtain ⟨vi, h3, h4⟩ := h2 i l hl
  obtain ⟨A, ci, rfl, _, h5⟩ := own_slice h4
  have hc := h1.cells (g := g) (by rw [hv]; rfl) i _ h3
  have e : (⟨g, 0, none⟩ : Addr).add i = ⟨g, i, none⟩ := by unfold Addr.add; split <;> simp_all
  rw [e] at hc
  exact ⟨A, ci, hc, h5⟩

def awakeIn : List UInt8 := [97, 10, 10, 98]
theorem awake_pieces : Pl.pieces isLine awakeIn = [[97], [], [98]] := by
  unfold awakeIn
  rw [Pl.pieces_cut (n := 1) (by decide) (by decide)]
  show [97] :: Pl.pieces isLine [10, 98] = _
  rw [Pl.pieces_cut (n := 0) (by decide) (by decide)]
  show [97] :: [] :: Pl.pieces isLine [98] = _
  rw [Pl.pieces_last (by decide) (by decide)]

theorem reads_marked (w : World) (t : TypeId) (l : List UInt8) (m : Nat × Nat) : Reads (w.alloc (.cells (bytesC l).toArray t m)) (w.alloc (.cells (bytesC l).toArray t m)).heap.size 1 (some ⟨w.heap.size, 0, none⟩) l.length (bytesC l) := by
  refine ⟨by simp [bytesC], fun _ => ⟨_, rfl, by simp, fun j u hu => ?_⟩⟩
  have e : (⟨w.heap.size, 0, none⟩ : Addr).add j = ⟨w.heap.size, j, none⟩ := by unfold Addr.add; split <;> simp_all
  rw [e, cell_of_row _ _ j _ t m (heap_alloc_new w _)]
  simpa using hu

theorem num007 : numRes 10 9 [48, 48, 55] = .tuple #[.int .i64 7, .bool true] := by
  rw [numRes_yes (by decide) (by decide) (by decide)]; rfl
theorem num10 : numRes 10 9 [49, 48] = .tuple #[.int .i64 0, .bool false] := numRes_no (.inr (.inr (by decide)))
theorem textFF : textOf 16 255 = ⟨#[102, 102]⟩ := by
  unfold textOf Pl.text
  rw [if_pos (by decide), if_neg (by decide), show (255 : Int).natAbs = 255 from rfl, show (16 : Int).toNat = 16 from rfl, Pl.digs_step (by decide) (by decide), Pl.digs_small (by decide)]
  rfl
theorem text10 : textOf 8 (-8) = ⟨#[45, 49, 48]⟩ := by
  unfold textOf Pl.text
  rw [if_pos (by decide), if_pos (by decide), show (-8 : Int).natAbs = 8 from rfl, show (8 : Int).toNat = 8 from rfl, Pl.digs_step (by decide) (by decide), Pl.digs_small (by decide)]
  rfl
def catB : ByteArray := ⟨#[99, 97, 116]⟩
def xB : ByteArray := ⟨#[120]⟩
theorem diagCat : (diagOf catB xB 1).data.toList = [99, 97, 116, 58, 32, 120, 58, 32, 110, 111, 32, 115, 117, 99, 104, 32, 102, 105, 108, 101, 10] := by
  unfold diagOf wordOf
  decide

set_option maxRecDepth 100000 in
set_option maxHeartbeats 1000000 in
theorem awake_any (w : World) (ht : Tabs w) : Calls Tryd.prog 7 #[] w fun e w' => e = .returned (.bool true) ∧ Below w.heap.size w w' := by
  have kc := fun (w : World) (C : Array Value) (n c : Nat) => Lib.run_convert_bytes_const (P := Tryd.prog) w 25 5 C n c Tryd.underlying25 Tryd.underlying5
  have HT := Lib.hid ht
  clear ht
  go_enter Tryd.func7, Tryd.ntmps7
  go_wp2_with fail
  have hr := reads_marked w 5 awakeIn (4, 5)
  have hb0 : Below w.heap.size w (w.alloc (.cells (bytesC awakeIn).toArray 5 (4, 5))) := (Below.refl _ w).alloc (Nat.le_refl _) _
  refine (show Calls Tryd.prog 18 #[.slice (some ⟨w.heap.size, 0, none⟩) 4 4] (w.alloc (.cells (bytesC awakeIn).toArray 5 (4, 5))) _ from lines_any (some ⟨w.heap.size, 0, none⟩) 4 awakeIn _ (by decide) (by decide) hr (HT.out.below hb0).utf8).mono ?_
  rintro e w1 ⟨v, rfl, hrows, hb1⟩
  rw [awake_pieces] at hrows
  obtain ⟨g, cap, rfl, hbg, hlg, hcl⟩ := rows_at hrows (by decide)
  obtain ⟨A0, c0, hc0, hr0⟩ := hcl 0 [97] rfl
  obtain ⟨A2, c2, hc2, hr2⟩ := hcl 2 [98] rfl
  have hB1 : Below w.heap.size w w1 := hb0.trans (hb1.mono hb0.size)
  clear hr hb0 hb1 hrows hcl kc
  have T1 := Lib.hid (HT.out.below hB1)
  go_wp2_with fail
  refine (show Calls Tryd.prog 12 #[.string ⟨#[48, 48, 55]⟩, .int .i64 9] w1 _ from text10_any ⟨#[48, 48, 55]⟩ 9 w1 (by decide) (by decide) T1.out).mono ?_
  rintro e w2 ⟨rfl, hb2⟩
  rw [show (⟨#[48, 48, 55]⟩ : ByteArray).data.toList = [48, 48, 55] from rfl, num007]
  have T2 := Lib.hid (T1.out.below hb2)
  go_wp2_with fail
  refine (show Calls Tryd.prog 12 #[.string ⟨#[49, 48]⟩, .int .i64 9] w2 _ from text10_any ⟨#[49, 48]⟩ 9 w2 (by decide) (by decide) T2.out).mono ?_
  rintro e w3 ⟨rfl, hb3⟩
  rw [show (⟨#[49, 48]⟩ : ByteArray).data.toList = [49, 48] from rfl, num10]
  have T3 := Lib.hid (T2.out.below hb3)
  have hb13 : Below w1.heap.size w1 w3 := hb2.trans (hb3.mono hb2.size)
  have k0 : w3.cell? ⟨g, 0, none⟩ = some (.slice A0 1 c0) := (hb13.cell (p := ⟨g, 0, none⟩) hlg).trans hc0
  have k2 : w3.cell? ⟨g, 2, none⟩ = some (.slice A2 1 c2) := (hb13.cell (p := ⟨g, 2, none⟩) hlg).trans hc2
  have s0 : (convert 25 9 (.slice A0 1 c0)).run Tryd.prog w3 = .ok (.string ⟨#[97]⟩) w3 := convert_string (P := Tryd.prog) Tryd.underlying25 Tryd.underlying5 Tryd.underlying9 (hr0.below hb13)
  have s2 : (convert 25 9 (.slice A2 1 c2)).run Tryd.prog w3 = .ok (.string ⟨#[98]⟩) w3 := convert_string (P := Tryd.prog) Tryd.underlying25 Tryd.underlying5 Tryd.underlying9 (hr2.below hb13)
  have hB3 : Below w.heap.size w w3 := hB1.trans (hb13.mono hB1.size)
  clear hc0 hc2 hr0 hr2 hb2 hb3 hb13 hB1 T1 T2
  go_wp2_with fail
  refine (show Calls Tryd.prog 16 #[.int .i64 255, .int .i64 16] w3 _ from digits_any 255 16 w3 (by decide) (by decide) T3.out).mono ?_
  rintro e w4 ⟨rfl, hb4⟩
  rw [textFF]
  have T4 := Lib.hid (T3.out.below hb4)
  clear k0 k2 s0 s2
  go_wp2_with fail
  refine (show Calls Tryd.prog 16 #[.int .i64 (-8), .int .i64 8] w4 _ from digits_any (-8) 8 w4 (by decide) (by decide) T4.out).mono ?_
  rintro e w5 ⟨rfl, hb5⟩
  rw [text10]
  have hB5 : Below w.heap.size w w5 := hB3.trans ((hb4.trans (hb5.mono hb4.size)).mono hB3.size)
  clear hb4 hb5 hB3 T3 T4
  go_wp2_with fail
  refine (show Calls Tryd.prog 10 #[.string ⟨#[99, 97, 116]⟩, .string ⟨#[120]⟩, .int .i64 1] w5 _ from diag_any catB xB 1 w5 (by decide) (by decide)).mono ?_
  rintro e w6 ⟨v6, rfl, g6, c6, rfl, hr6, hb6⟩
  rw [diagCat] at hr6 ⊢
  have s6 : (convert 25 9 (.slice (some ⟨g6, 0, none⟩) 21 c6)).run Tryd.prog w6 = .ok (.string ⟨#[99, 97, 116, 58, 32, 120, 58, 32, 110, 111, 32, 115, 117, 99, 104, 32, 102, 105, 108, 101, 10]⟩) w6 := convert_string (P := Tryd.prog) Tryd.underlying25 Tryd.underlying5 Tryd.underlying9 hr6
  clear hr6
  go_wp2_with fail
  go_returns
  exact ⟨rfl, hB5.trans (hb6.mono hB5.size)⟩

end Go.Proofs.YtnagiphjlfiifaaDoor
