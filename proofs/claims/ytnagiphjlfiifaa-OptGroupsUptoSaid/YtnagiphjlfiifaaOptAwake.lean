/-
  A walk over awake: the chapter's examples.
-/
import Derived.Test.YtnagiphjlfiifaaOptLast
namespace Go.Proofs.Ytnagiphjlfiifaa
open Go.RowKit

/-- a row that is owned: the slice's value, and what it reads as -/
theorem own_slice {w : World} {base : Nat} {e : TypeId} {size n : Nat} {v : Value} {xs : List Value} (h : w.ownsRow base e size v n xs) :
    ∃ A cap, v = .slice A n cap ∧ n ≤ cap ∧ Reads w w.heap.size size A n xs := by
  rcases h.2 with ⟨rfl, rfl⟩ | ⟨g, cap, cur, rfl, _, _, hn, _⟩
  · exact ⟨none, 0, rfl, Nat.le_refl _, Reads.of_own h⟩
  · exact ⟨_, cap, rfl, hn, Reads.of_own h⟩

theorem reads_new (w : World) (t : TypeId) (cs : List Value) : Reads (w.alloc (.cells cs.toArray t)) (w.alloc (.cells cs.toArray t)).heap.size 1 (some ⟨w.heap.size, 0, none⟩) cs.length cs := by
  refine ⟨by simp, fun _ => ⟨_, rfl, by simp, fun j u hu => ?_⟩⟩
  have e : (⟨w.heap.size, 0, none⟩ : Addr).add j = ⟨w.heap.size, j, none⟩ := by unfold Addr.add; split <;> simp_all
  rw [e, (Blk.new w t cs.toArray).cell j]
  simpa using hu

def sp1 : ByteArray := ⟨#[97, 98, 110, 58]⟩
def ar1 : List ByteArray := [⟨#[45, 97, 98]⟩, ⟨#[45, 110, 53]⟩, ⟨#[120]⟩, ⟨#[45, 97]⟩]
def ar2 : List ByteArray := [⟨#[45, 110]⟩, ⟨#[45, 97]⟩, ⟨#[45, 45]⟩, ⟨#[45, 98]⟩]
def ar3 : List ByteArray := [⟨#[45, 97, 110]⟩]

def ol1 : List Pl.Opt := [(97, ⟨#[]⟩), (98, ⟨#[]⟩), (110, ⟨#[53]⟩)]
theorem parse1 : Pl.outer (Pl.kind sp1.data.toList) ar1 0 = some (ol1, 2) := by
  simp [Pl.outer, Pl.inner, Pl.kind, Pl.kindFrom, sp1, ar1, ol1, ByteArray.size]
theorem parse2 : Pl.outer (Pl.kind sp1.data.toList) ar2 0 = some ([(110, ⟨#[45, 97]⟩)], 3) := by
  simp [Pl.outer, Pl.inner, Pl.kind, Pl.kindFrom, sp1, ar2, ByteArray.size]
theorem parse3 : Pl.outer (Pl.kind sp1.data.toList) ar3 0 = none := by
  simp [Pl.outer, Pl.inner, Pl.kind, Pl.kindFrom, sp1, ar3, ByteArray.size]


theorem own_form {w : World} {base : Nat} {e : TypeId} {size n : Nat} {v : Value} {xs : List Value} (h : w.ownsRow base e size v n xs) (hn : 0 < n) :
    ∃ g cap, v = .slice (some ⟨g, 0, none⟩) n cap ∧ base ≤ g ∧ g < w.heap.size ∧ (∀ j u, xs[j]? = some u → w.cell? ⟨g, j, none⟩ = some u) := by
  obtain ⟨g, cap, hv, hb, hlt⟩ := h.form hn
  refine ⟨g, cap, hv, hb, hlt, fun j u hu => ?_⟩
  have hc := h.cells (g := g) (by rw [hv]; rfl) j u hu
  have e : (⟨g, 0, none⟩ : Addr).add j = ⟨g, j, none⟩ := by unfold Addr.add; split <;> simp_all
  rwa [e] at hc

theorem small_args {l : List ByteArray} (h : l.all (fun a => a.size ≤ 2000000) = true) : ∀ (k : Nat) (a : ByteArray), l[k]? = some a → a.size ≤ 2000000 := by
  intro k a ha
  have := List.all_eq_true.1 h a (List.mem_of_getElem? ha)
  simpa using this

set_option maxRecDepth 100000 in
set_option maxHeartbeats 1000000 in
theorem awake_any (w : World) : Calls Try.prog 5 #[] w fun e w' => e = .returned (.bool true) ∧ Below w.heap.size w w' := by
  go_enter Try.func5, Try.ntmps5
  go_wp2_with fail
  have hr1 := reads_new w 9 (strs ar1)
  refine (parse_any (some ⟨w.heap.size, 0, none⟩) 4 ar1 sp1 _ (by decide) (by decide) hr1 (by decide) (by decide) (small_args (by decide))).mono ?_
  rintro e w1 ⟨hb1, h1⟩
  rw [parse1] at h1
  obtain ⟨v1, v2, rfl, ho1, ho2⟩ := h1
  obtain ⟨g1, c1, rfl, hg1, hl1, hc1⟩ := own_form (n := 3) ho1 (by decide)
  obtain ⟨g2, c2, rfl, hg2, hl2, hc2⟩ := own_form (n := 2) ho2 (by decide)
  have hB1 : Below w.heap.size w w1 := ((Below.refl _ w).alloc (Nat.le_refl _) _).trans (hb1.mono (by simp))
  clear hr1 hb1
  go_wp2_with fail
  have hr2 := reads_new w1 9 (strs ar2)
  refine (parse_any (some ⟨w1.heap.size, 0, none⟩) 4 ar2 sp1 _ (by decide) (by decide) hr2 (by decide) (by decide) (small_args (by decide))).mono ?_
  rintro e w2 ⟨hb2, h2⟩
  rw [parse2] at h2
  obtain ⟨v3, v4, rfl, ho3, ho4⟩ := h2
  obtain ⟨g3, c3, rfl, hg3, hl3, hc3⟩ := own_form (n := 1) ho3 (by decide)
  obtain ⟨g4, c4, rfl, hg4, hl4, hc4⟩ := own_form (n := 1) ho4 (by decide)
  have hB2 : Below w1.heap.size w1 w2 := ((Below.refl _ w1).alloc (Nat.le_refl _) _).trans (hb2.mono (by simp))
  clear hr2 hb2
  go_wp2_with fail
  have hr3 := reads_new w2 9 (strs ar3)
  refine (parse_any (some ⟨w2.heap.size, 0, none⟩) 1 ar3 sp1 _ (by decide) (by decide) hr3 (by decide) (by decide) (small_args (by decide))).mono ?_
  rintro e w3 ⟨hb3, h3⟩
  rw [parse3] at h3
  obtain rfl := h3
  have hB3 : Below w2.heap.size w2 w3 := ((Below.refl _ w2).alloc (Nat.le_refl _) _).trans (hb3.mono (by simp))
  clear hr3 hb3
  have hB13 : Below w1.heap.size w1 w3 := hB2.trans (hB3.mono hB2.size)
  have hR1 : Reads w3 w3.heap.size 2 (some ⟨g1, 0, none⟩) 3 (optCells ol1) := ((Reads.of_own ho1).below hB13).more hB13.size
  have k1 : w3.cell? ⟨g1, 4, none⟩ = some (.int .u8 110) := (hB13.cell (p := ⟨g1, 4, none⟩) hl1).trans (hc1 4 _ rfl)
  have k2 : w3.cell? ⟨g1, 5, none⟩ = some (.string ⟨#[53]⟩) := (hB13.cell (p := ⟨g1, 5, none⟩) hl1).trans (hc1 5 _ rfl)
  have k3 : w3.cell? ⟨g3, 1, none⟩ = some (.string ⟨#[45, 97]⟩) := (hB3.cell (p := ⟨g3, 1, none⟩) hl3).trans (hc3 1 _ rfl)
  have k4 : w3.cell? ⟨g2, 1, none⟩ = some (.string ⟨#[45, 97]⟩) := (hB13.cell (p := ⟨g2, 1, none⟩) hl2).trans (hc2 1 _ rfl)
  have k5 : w3.cell? ⟨g4, 0, none⟩ = some (.string ⟨#[45, 98]⟩) := (hB3.cell (p := ⟨g4, 0, none⟩) hl4).trans (hc4 0 _ rfl)
  have l1 : g1 < w3.heap.size := Nat.lt_of_lt_of_le hl1 hB13.size
  have l2 : g2 < w3.heap.size := Nat.lt_of_lt_of_le hl2 hB13.size
  have l3 : g3 < w3.heap.size := Nat.lt_of_lt_of_le hl3 hB3.size
  have l4 : g4 < w3.heap.size := Nat.lt_of_lt_of_le hl4 hB3.size
  have hB03 : Below w.heap.size w w3 := hB1.trans (hB13.mono hB1.size)
  clear ho1 ho2 ho3 ho4 hc1 hc2 hc3 hc4 hB1 hB2 hB3 hB13 hg1 hg2 hg3 hg4 hl1 hl2 hl3 hl4
  have HR := Lib.hid hR1
  clear hR1
  go_wp2_with fail
  refine (last_any (some ⟨g1, 0, none⟩) c1 ol1 110 w3 (by decide) HR.out).mono ?_
  rintro e w4 ⟨rfl, hb4⟩
  have m1 := (hb4.cell (p := ⟨g1, 4, none⟩) l1).trans k1
  have m2 := (hb4.cell (p := ⟨g1, 5, none⟩) l1).trans k2
  have m3 := (hb4.cell (p := ⟨g3, 1, none⟩) l3).trans k3
  have m4 := (hb4.cell (p := ⟨g2, 1, none⟩) l2).trans k4
  have m5 := (hb4.cell (p := ⟨g4, 0, none⟩) l4).trans k5
  have HR4 := Lib.hid ((HR.out.below hb4).more hb4.size)
  have hB04 : Below w.heap.size w w4 := hB03.trans (hb4.mono hB03.size)
  clear k1 k2 k3 k4 k5 hB03 hb4
  rw [show lastPair (lastOpt ol1 110) = .tuple #[.string ⟨#[53]⟩, .bool true] from rfl]
  go_wp2_with fail
  refine (show Calls Try.prog 9 #[.slice (some ⟨g1, 0, none⟩) 3 c1, .int .u8 98] w4 _ from has_any (some ⟨g1, 0, none⟩) c1 ol1 98 w4 HR4.out (by decide)).mono ?_
  rintro e w5 ⟨rfl, hb5⟩
  rw [show hasOpt ol1 98 = true from rfl]
  have HR5 := Lib.hid ((HR4.out.below hb5).more hb5.size)
  have hB05 : Below w.heap.size w w5 := hB04.trans (hb5.mono hB04.size)
  clear m1 m2 m3 m4 m5 hb5 hB04 HR4 HR
  go_wp2_with fail
  refine (show Calls Try.prog 9 #[.slice (some ⟨g1, 0, none⟩) 3 c1, .int .u8 120] w5 _ from has_any (some ⟨g1, 0, none⟩) c1 ol1 120 w5 HR5.out (by decide)).mono ?_
  rintro e w6 ⟨rfl, hb6⟩
  rw [show hasOpt ol1 120 = false from rfl]
  have hB06 : Below w.heap.size w w6 := hB05.trans (hb6.mono hB05.size)
  go_wp2_with fail
  go_returns
  exact ⟨rfl, hB06⟩

end Go.Proofs.Ytnagiphjlfiifaa
