/-
  The plain law of the reference's Lines: piece by piece.
-/
import Derived.Test.YtnagiphjlfiifaaDoorTextDecode
namespace Go.Proofs.YtnagiphjlfiifaaDoor.Pl

theorem first_at (p : UInt8 → Bool) (l : List UInt8) (a i : Nat) (hai : a ≤ i) (hn : ∀ j, a ≤ j → j < i → ∃ c, l[j]? = some c ∧ p c = false) (c : UInt8) (hc : l[i]? = some c) (hp : p c = true) : first p (l.drop a) = some (i - a) := by
  have h := first_skip p l (i - a) a (fun j hj => hn (a + j) (by omega) (by omega))
  rw [show a + (i - a) = i by omega] at h
  obtain ⟨hlt, hce⟩ := List.getElem?_eq_some_iff.1 hc
  rw [h, List.drop_eq_getElem_cons hlt, first_cons, hce, hp]
  simp

theorem first_none (p : UInt8 → Bool) (l : List UInt8) (a : Nat) (ha : a ≤ l.length) (hn : ∀ j, a ≤ j → j < l.length → ∃ c, l[j]? = some c ∧ p c = false) : first p (l.drop a) = none := by
  have h := first_skip p l (l.length - a) a (fun j hj => hn (a + j) (by omega) (by omega))
  rw [show a + (l.length - a) = l.length by omega, List.drop_eq_nil_of_le (Nat.le_refl _)] at h
  rw [h]
  rfl

theorem pieces_at (p : UInt8 → Bool) (l : List UInt8) (a i : Nat) (hai : a ≤ i) (hn : ∀ j, a ≤ j → j < i → ∃ c, l[j]? = some c ∧ p c = false) (c : UInt8) (hc : l[i]? = some c) (hp : p c = true) :
    pieces p (l.drop a) = (l.drop a).take (i - a) :: pieces p (l.drop (i + 1)) := by
  have hlt := (List.getElem?_eq_some_iff.1 hc).1
  have hne : l.drop a ≠ [] := fun e => by
    have h := congrArg List.length e
    rw [List.length_drop] at h
    simp at h
    omega
  rw [pieces_cut hne (first_at p l a i hai hn c hc hp), List.drop_drop, show a + (i - a + 1) = i + 1 by omega]

theorem pieces_end (p : UInt8 → Bool) (l : List UInt8) (a : Nat) (ha : a ≤ l.length) (hn : ∀ j, a ≤ j → j < l.length → ∃ c, l[j]? = some c ∧ p c = false) :
    pieces p (l.drop a) = if a < l.length then [l.drop a] else [] := by
  split
  · have hne : l.drop a ≠ [] := fun e => by
      have h := congrArg List.length e
      rw [List.length_drop] at h
      simp at h
      omega
    exact pieces_last hne (first_none p l a ha hn)
  · rw [List.drop_eq_nil_of_le (by omega), pieces_nil]

end Go.Proofs.YtnagiphjlfiifaaDoor.Pl
