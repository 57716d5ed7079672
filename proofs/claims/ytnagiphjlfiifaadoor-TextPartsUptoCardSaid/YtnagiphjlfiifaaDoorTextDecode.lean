/-
  The plain law of bytes.IndexFunc at a question that only ASCII bytes answer yes: the first byte for which it is so.
-/
import Derived.Test.YtnagiphjlfiifaaDoorTextFinds
namespace Go.Proofs.YtnagiphjlfiifaaDoor.Pl
open Go.Lib

theorem decodeN_hi (n b0 b1 b2 b3 : Nat) (hn : 1 ≤ n) (h : ¬ b0 < 128) : 128 ≤ (decodeN n b0 b1 b2 b3).1 ∧ 1 ≤ (decodeN n b0 b1 b2 b3).2 ∧ (decodeN n b0 b1 b2 b3).2 ≤ n ∧
    (2 ≤ (decodeN n b0 b1 b2 b3).2 → 128 ≤ b1) ∧ (3 ≤ (decodeN n b0 b1 b2 b3).2 → 128 ≤ b2) ∧ (4 ≤ (decodeN n b0 b1 b2 b3).2 → 128 ≤ b3) ∧ (decodeN n b0 b1 b2 b3).2 ≤ 4 := by
  unfold decodeN
  rw [if_neg h]
  repeat' split
  all_goals (refine ⟨?_, ?_, ?_, ?_, ?_, ?_, ?_⟩ <;> simp only <;> omega)

theorem first_cons (p : UInt8 → Bool) (c : UInt8) (l : List UInt8) : first p (c :: l) = if p c then some 0 else (first p l).map (· + 1) := by
  simp [first, List.findIdx?_cons]

theorem first_skip (p : UInt8 → Bool) (l : List UInt8) : ∀ (k pos : Nat), (∀ j, j < k → ∃ c, l[pos + j]? = some c ∧ p c = false) → first p (l.drop pos) = (first p (l.drop (pos + k))).map (· + k) := by
  intro k
  induction k with
  | zero => intro pos _; simp
  | succ k ih =>
    intro pos h
    obtain ⟨c, hc, hp⟩ := h 0 (by omega)
    obtain ⟨hlt, hce⟩ := List.getElem?_eq_some_iff.1 hc
    rw [Nat.add_zero] at hlt
    rw [List.drop_eq_getElem_cons hlt, first_cons]
    have hce' : l[pos] = c := by simpa using hce
    rw [hce', hp]
    have := ih (pos + 1) (fun j hj => by
      obtain ⟨c', h1, h2⟩ := h (j + 1) (by omega)
      exact ⟨c', by rw [show pos + 1 + j = pos + (j + 1) from by omega]; exact h1, h2⟩)
    rw [show pos + 1 + k = pos + (k + 1) from by omega] at this
    simp only [Bool.false_eq_true, if_false, this, Option.map_map]
    congr 1

theorem get_at (s : ByteArray) {j : Nat} (h : j < s.size) : s.data.toList[j]? = some (s.get! j) := by
  have h' : j < s.data.size := h
  simp [ByteArray.get!, Array.getElem?_eq_getElem h']
  exact (getElem!_pos s.data j h').symm

theorem askRune_lo (p : UInt8 → Bool) (c : UInt8) (h : c.toNat < 128) : askRune p c.toNat = p c := by simp [askRune, h]
theorem askRune_hi (p : UInt8 → Bool) {r : Nat} (h : 128 ≤ r) : askRune p r = false := by simp [askRune, show ¬ r < 128 by omega]

theorem idx_from (p : UInt8 → Bool) (hp : ∀ c : UInt8, 128 ≤ c.toNat → p c = false) (s : ByteArray) : ∀ (f pos : Nat), s.size ≤ pos + f →
    idxFuncFrom (askRune p) true s f pos = match first p (s.data.toList.drop pos) with | none => -1 | some n => ((pos + n : Nat) : Int) := by
  have hlen : s.data.toList.length = s.size := Array.length_toList
  intro f
  induction f with
  | zero =>
    intro pos h
    rw [List.drop_eq_nil_of_le (by omega)]
    rfl
  | succ f ih =>
    intro pos h
    by_cases hlt : pos < s.size
    · have hc := get_at s hlt
      have hd : s.data.toList.drop pos = s.get! pos :: s.data.toList.drop (pos + 1) := by
        rw [List.drop_eq_getElem_cons (by omega)]
        have := List.getElem?_eq_getElem (l := s.data.toList) (i := pos) (by omega)
        rw [this] at hc
        rw [Option.some.inj hc]
      unfold idxFuncFrom
      rw [if_pos hlt, decode_at]
      by_cases hlo : (s.get! pos).toNat < 128
      · have hdn : decodeN (s.size - pos) (s.get! pos).toNat (s.get! (pos + 1)).toNat (s.get! (pos + 2)).toNat (s.get! (pos + 3)).toNat = ((s.get! pos).toNat, 1) := by unfold decodeN; rw [if_pos hlo]
        rw [hdn, hd, first_cons]
        simp only [askRune_lo p _ hlo]
        cases hpc : p (s.get! pos) with
        | true => simp
        | false =>
          simp only [Bool.false_eq_true, if_false]
          rw [ih (pos + 1) (by omega)]
          cases first p (s.data.toList.drop (pos + 1)) with
          | none => rfl
          | some n => exact congrArg (fun x : Nat => (x : Int)) (by omega : pos + 1 + n = pos + (n + 1))
      · obtain ⟨h1, h2, h3, h4, h5, h6, h7⟩ := decodeN_hi (s.size - pos) (s.get! pos).toNat (s.get! (pos + 1)).toNat (s.get! (pos + 2)).toNat (s.get! (pos + 3)).toNat (by omega) hlo
        revert h1 h2 h3 h4 h5 h6 h7
        generalize decodeN (s.size - pos) (s.get! pos).toNat (s.get! (pos + 1)).toNat (s.get! (pos + 2)).toNat (s.get! (pos + 3)).toNat = rk
        obtain ⟨r, k⟩ := rk
        intro h1 h2 h3 h4 h5 h6 h7
        simp only at h1 h2 h3 h4 h5 h6 h7
        simp only [askRune_hi p h1, Bool.false_eq_true, if_false]
        have hskip := first_skip p s.data.toList k pos (fun j hj => by
          refine ⟨s.get! (pos + j), get_at s (by omega), hp _ ?_⟩
          rcases (by omega : j = 0 ∨ j = 1 ∨ j = 2 ∨ j = 3) with rfl | rfl | rfl | rfl
          · exact Nat.le_of_not_lt hlo
          · exact h4 (by omega)
          · exact h5 (by omega)
          · exact h6 (by omega))
        rw [ih (pos + k) (by omega), hskip]
        cases first p (s.data.toList.drop (pos + k)) with
        | none => rfl
        | some n => exact congrArg (fun x : Nat => (x : Int)) (by omega : pos + k + n = pos + (n + k))
    · rw [List.drop_eq_nil_of_le (by omega)]
      unfold idxFuncFrom
      rw [if_neg hlt]
      rfl

theorem idx_is (p : UInt8 → Bool) (hp : ∀ c : UInt8, 128 ≤ c.toNat → p c = false) (s : ByteArray) : idxFunc (askRune p) true s = firstInt p s.data.toList := by
  unfold idxFunc firstInt
  rw [idx_from p hp s s.size 0 (by omega), List.drop_zero]
  cases first p s.data.toList <;> simp

end Go.Proofs.YtnagiphjlfiifaaDoor.Pl
