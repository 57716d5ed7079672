/-
  The walk of TextParts: for every input of bounded bulk the call returns true, and nothing that lay has turned.
-/
import Derived.Test.YtnagiphjlfiifaaDoorTextSame
import Derived.Test.YtnagiphjlfiifaaDoorTextAwake
namespace Go.Proofs.YtnagiphjlfiifaaDoor
open Go.RowKit

namespace Pl
theorem pieces_each (p : UInt8 → Bool) : ∀ (m : Nat) (l : List UInt8), l.length ≤ m → (pieces p l).length ≤ l.length ∧ ∀ x ∈ pieces p l, x.length ≤ l.length := by
  intro m
  induction m with
  | zero =>
    intro l hl
    obtain rfl := List.eq_nil_of_length_eq_zero (show l.length = 0 by omega)
    rw [pieces_nil]
    exact ⟨by simp, fun x hx => by cases hx⟩
  | succ m ih =>
    intro l hl
    by_cases hne : l = []
    · subst hne; rw [pieces_nil]
      exact ⟨by simp, fun x hx => by cases hx⟩
    · have hpos := List.length_pos_iff.2 hne
      cases h : first p l with
      | none =>
        rw [pieces_last hne h]
        exact ⟨by simp; omega, fun x hx => by obtain rfl := List.mem_singleton.1 hx; exact Nat.le_refl _⟩
      | some n =>
        have hn := first_lt h
        obtain ⟨h1, h2⟩ := ih (l.drop (n + 1)) (by rw [List.length_drop]; omega)
        rw [List.length_drop] at h1 h2
        rw [pieces_cut hne h]
        refine ⟨by rw [List.length_cons]; omega, fun x hx => ?_⟩
        rcases List.mem_cons.1 hx with rfl | hx
        · rw [List.length_take]; omega
        · have := h2 x hx; omega
theorem full_each (ls : List (List UInt8)) : ∀ x ∈ full ls, x ∈ ls := fun _ hx => (List.mem_filter.1 hx).1
end Pl

theorem RowsOf.below {W W' : World} {base : Nat} {v : Value} {ls : List (List UInt8)} (h : RowsOf W base v ls) (hb : Below W.heap.size W W') : RowsOf W' base v ls := by
  obtain ⟨vs, h1, h2⟩ := h
  refine ⟨vs, own_below h1 hb (Nat.le_refl _), fun i l hi => ?_⟩
  obtain ⟨vi, h3, h4⟩ := h2 i l hi
  exact ⟨vi, h3, own_below h4 hb (Nat.le_refl _)⟩
theorem RowsRead.now {W W0 : World} {base : Nat} {v : Value} {ls : List (List UInt8)} (h : RowsRead W base W0 v ls) (hb : Below W0.heap.size W0 W) : RowsRead W base W v ls := by
  obtain ⟨vs, h1, h2⟩ := h
  refine ⟨vs, h1, fun i l hi => ?_⟩
  obtain ⟨A, ci, h3, h4⟩ := h2 i l hi
  exact ⟨A, ci, h3, (h4.below hb).more hb.size⟩

set_option maxRecDepth 100000 in
set_option maxHeartbeats 4000000 in
theorem textParts_any (A : Option Addr) (cap : Nat) (bs : List UInt8) (w : World) (hb : bs.length ≤ 1048576) (hcap : bs.length ≤ cap) (hr : Reads w w.heap.size 1 A bs.length (bytesC bs)) (ht : Tabs w) :
    Calls Tryd.prog 6 #[.slice A bs.length cap] w fun e w' => e = .returned (.bool true) ∧ Below w.heap.size w w' := by
  have HT := Lib.hid ht
  have HR := Lib.hid hr
  obtain ⟨iB, hiB, hB0, hB1, hB2⟩ := info_parts Tryd.infoByte
  have HI := Lib.hid hiB
  have H0 := Lib.hid hB0
  have H1 := Lib.hid hB1
  have H2 := Lib.hid hB2
  have HPL := Lib.hid (Pl.pieces_each isLine bs.length bs (Nat.le_refl _))
  have HPB := Lib.hid (Pl.pieces_each isBlank bs.length bs (Nat.le_refl _))
  clear ht hr hiB hB0 hB1 hB2
  go_enter Tryd.func6, Tryd.ntmps6
  go_wp2_with fail
  refine (awake_any w HT.out).mono ?_
  rintro e w1 ⟨rfl, hB1⟩
  have R1 := Lib.hid ((HR.out.below hB1).more hB1.size)
  have hsz1 := hB1.size
  go_wp2_with (at_builtin; refine wpList_append_any _ rfl _ _ 25 rfl w1.heap.size 5 iB (.int .u8 0) 1 1 Tryd.underlying25 HI.out H0.out H1.out H2.out rfl (by decide) (.slice none 0 0) 0 [] rfl ⟨rfl, .inl ⟨rfl, rfl⟩⟩ w1.heap.size A bs.length cap (bytesC bs) rfl R1.out (bytesC_oneCell bs) (by simp only [maxLen]; omega) (by omega) (Nat.le_refl _) ?_; intro vo w2 hown2 hg2 hat2)
  rw [Nat.zero_add, List.nil_append] at hown2
  obtain ⟨Ao, co, rfl, hco, hRo⟩ := own_slice hown2
  have hB2 : Below w.heap.size w w2 := hB1.grown hg2 hsz1 (fun q hq => by simp [Value.ownBlock] at hq)
  have T2 := Lib.hid (HT.out.below hB2)
  have RO := Lib.hid hRo
  clear hRo hown2 hg2 hat2 hB1 R1
  go_wp2_with fail
  refine (lines_any Ao co bs w2 (by omega) hco RO.out T2.out.utf8).mono ?_
  rintro e w3 ⟨v1, rfl, hrows3, hb3⟩
  have hB3 : Below w.heap.size w w3 := hB2.trans (hb3.mono hB2.size)
  have R3 := Lib.hid ((HR.out.below hB3).more hB3.size)
  have HROW3 := Lib.hid hrows3
  clear hrows3
  go_wp2_with fail
  refine (reflines_any A cap bs w3 (by omega) hcap R3.out).mono ?_
  rintro e w4 ⟨v2, rfl, hrows4, hb4⟩
  have hB4 : Below w.heap.size w w4 := hB3.trans (hb4.mono hB3.size)
  have hsame := same_any w2.heap.size w3.heap.size (Pl.pieces isLine bs) v1 v2 w4 (HROW3.out.below hb4) (hrows4.now hb4) (by have := HPL.out.1; omega) (fun l hl => by have := HPL.out.2 l hl; omega)
  clear hrows4
  go_wp2_with fail
  refine hsame.mono ?_
  rintro e w5 ⟨rfl, hb5⟩
  have hb25 : Below w2.heap.size w2 w5 := (hb3.trans (hb4.mono hb3.size)).trans hb5
  have hB5 : Below w.heap.size w w5 := hB2.trans (hb25.mono hB2.size)
  have T5 := Lib.hid (HT.out.below hB5)
  have RO5 := Lib.hid ((RO.out.below hb25).more hb25.size)
  clear hsame hb3 hb4 hb5 HROW3 R3 hB3 hB4
  go_wp2_with fail
  refine (fields_any Ao co bs w5 (by omega) hco RO5.out T5.out.utf8).mono ?_
  rintro e w6 ⟨v6, rfl, hrows6, hb6⟩
  have hB6 : Below w.heap.size w w6 := hB5.trans (hb6.mono hB5.size)
  have R6 := Lib.hid ((HR.out.below hB6).more hB6.size)
  have HROW6 := Lib.hid hrows6
  clear hrows6
  go_wp2_with fail
  refine (reffields_any A cap bs w6 (by omega) hcap R6.out).mono ?_
  rintro e w7 ⟨v7, rfl, hrows7, hb7⟩
  have hB7 : Below w.heap.size w w7 := hB6.trans (hb7.mono hB6.size)
  have hsame := same_any w5.heap.size w6.heap.size (Pl.full (Pl.pieces isBlank bs)) v6 v7 w7 (HROW6.out.below hb7) (hrows7.now hb7) (by have := HPB.out.1; have := Pl.full_length (Pl.pieces isBlank bs); omega) (fun l hl => by have := HPB.out.2 l (Pl.full_each _ l hl); omega)
  clear hrows7
  go_wp2_with fail
  refine hsame.mono ?_
  rintro e w8 ⟨rfl, hb8⟩
  have hb28 : Below w2.heap.size w2 w8 := hb25.trans (((hb6.trans (hb7.mono hb6.size)).trans hb8).mono hb25.size)
  have hB8 : Below w.heap.size w w8 := hB2.trans (hb28.mono hB2.size)
  have so : (convert 25 9 (.slice Ao bs.length co)).run Tryd.prog w8 = .ok (.string ⟨bs.toArray⟩) w8 := convert_string (P := Tryd.prog) Tryd.underlying25 Tryd.underlying5 Tryd.underlying9 (RO.out.below hb28)
  have sb : (convert 25 9 (.slice A bs.length cap)).run Tryd.prog w8 = .ok (.string ⟨bs.toArray⟩) w8 := convert_string (P := Tryd.prog) Tryd.underlying25 Tryd.underlying5 Tryd.underlying9 (HR.out.below hB8)
  clear hsame hb6 hb7 hb8 HROW6 R6
  go_wp2_with fail
  go_returns
  exact ⟨rfl, hB8⟩

end Go.Proofs.YtnagiphjlfiifaaDoor
