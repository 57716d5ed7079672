/-
  The walk of TextWords: for every input the call returns true, and nothing that lay has turned.
-/
import Derived.Test.YtnagiphjlfiifaaDoorTextAwake
import Derived.Deep.RegionWith
import Derived.Deep.DrawnRows
import Derived.BigRegion
namespace Go.Proofs.YtnagiphjlfiifaaDoor
open Go.RowKit
attribute [local go_sem ↓] Go.wp_at_zero Go.wp_at_succ

/-- what a world gives the calls of the region -/
def Says (w W : World) : Prop := WordTab W ∧ Below w.heap.size w W
theorem Says.step {w W W' : World} (h : Says w W) (hsz : 0 < w.heap.size) (hb : Below W.heap.size W W') : Says w W' :=
  ⟨h.1.below hb (Nat.lt_of_lt_of_le hsz h.2.size), h.2.trans (hb.mono h.2.size)⟩
/-- a slice's bytes as a string -/
def Told (A : Value) (l : List UInt8) (W : World) : Prop := (convert 25 9 A).run Tryd.prog W = .ok (.string ⟨l.toArray⟩) W
def Made (A : Value) (l : List UInt8) (W : World) : Prop := ∃ g cap, A = .slice (some ⟨g, 0, none⟩) l.length cap ∧ Reads W W.heap.size 1 (some ⟨g, 0, none⟩) l.length (bytesC l)
theorem Made.step {A : Value} {l : List UInt8} {W W' : World} (h : Made A l W) (hb : Below W.heap.size W W') : Made A l W' := by
  obtain ⟨g, cap, rfl, hr⟩ := h
  exact ⟨g, cap, rfl, (hr.below hb).more hb.size⟩
theorem Made.told {A : Value} {l : List UInt8} {W : World} (h : Made A l W) : (convert 25 9 A).run Tryd.prog W = .ok (.string ⟨l.toArray⟩) W := by
  obtain ⟨g, cap, rfl, hr⟩ := h
  exact convert_string (P := Tryd.prog) Tryd.underlying25 Tryd.underlying5 Tryd.underlying9 hr

set_option maxRecDepth 100000 in
set_option maxHeartbeats 4000000 in
theorem textWords_any (tag op : ByteArray) (e : Int) (w : World) (htag : tag.size ≤ 140737488351232) (hop : op.size ≤ 140737488351232) (ht : Tabs w) (hw : WordTab w) :
    Calls Tryd.prog 3 #[.string tag, .string op, .int .i64 e] w fun e' w' => e' = .returned (.bool true) ∧ Below w.heap.size w w' := by
  have HT := Lib.hid ht
  have hsz : 0 < w.heap.size := cell_lt (hw 0 (by omega))
  have HW := Lib.hid hw
  clear ht hw
  go_enter Tryd.func3, Tryd.ntmps3
  go_wp2_with fail
  refine (awake_any w HT.out).mono ?_
  rintro e' w1 ⟨rfl, hB1⟩
  go_wp2_with fail
  have hS1 : Says w w1.drew := ⟨(HW.out.below hB1 hsz : WordTab w1), below_drewN hB1 1⟩
  have hword := wordOf_size e
  obtain ⟨L, hL⟩ : ∃ L, (diagOf tag op e).data.toList = L := ⟨_, rfl⟩
  have hdiag : ∀ W, Calls Tryd.prog 10 #[.string tag, .string op, .int .i64 e] W fun e' w' => ∃ v, e' = .returned v ∧ MadeBytes W L v w' := fun W => hL ▸ diag_any tag op e W htag hop
  have hrdiag : ∀ W, WordTab W → Calls Tryd.prog 11 #[.string tag, .string op, .int .i64 e] W fun e' w' => ∃ v, e' = .returned v ∧ MadeBytes W L v w' := fun W h => hL ▸ refdiag_any tag op e W htag hop h
  clear HT HW hB1 hL
  go_region_with (first
    | (go_at_call 8; refine (word_any _ _).mono ?_; rintro e' w2 ⟨rfl, hb2⟩; have hS2 := Says.step (by assumption) hsz hb2)
    | (go_at_call 9; refine (refword_any _ _ ?_).mono ?_; exact And.left (by assumption : Says w _); rintro e' w2 ⟨rfl, rfl⟩)
    | (go_at_call 10; refine (hdiag _).mono ?_; rintro e' w4 ⟨v, rfl, g, cap, rfl, hr, hb⟩; have hS4 := Says.step (by assumption) hsz hb; have hm : Made (.slice (some ⟨g, 0, none⟩) L.length cap) L w4 := ⟨g, cap, rfl, hr⟩; have hk := hm.told; try (have hm2 := Made.step (by assumption) hb; have hk2 := hm2.told))
    | (go_at_call 11; refine (hrdiag _ ?_).mono ?_; exact And.left (by assumption : Says w _); rintro e' w4 ⟨v, rfl, g, cap, rfl, hr, hb⟩; have hS4 := Says.step (by assumption) hsz hb; have hm : Made (.slice (some ⟨g, 0, none⟩) L.length cap) L w4 := ⟨g, cap, rfl, hr⟩; have hk := hm.told; try (have hm2 := Made.step (by assumption) hb; have hk2 := hm2.told)))
  all_goals go_wp2
  all_goals go_returns
  all_goals exact ⟨rfl, And.right (by assumption : Says w _)⟩

end Go.Proofs.YtnagiphjlfiifaaDoor
