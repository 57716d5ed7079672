/-
  The plain laws of TextBack: lines put together again; digits read again.
-/
import Derived.Test.YtnagiphjlfiifaaDoorTextPieces
import Derived.Test.YtnagiphjlfiifaaDoorTextRefDigits
import Derived.Test.YtnagiphjlfiifaaDoorTextBased
namespace Go.Proofs.YtnagiphjlfiifaaDoor

namespace Pl
/-- what the last line lacks -/
def tail10 (l : List UInt8) : List UInt8 := if l = [] then [] else if l.getLast? = some 10 then [] else [10]
/-- lines, each with a line feed -/
def joined (ls : List (List UInt8)) : List UInt8 := ls.flatMap (· ++ [10])
theorem joined_cons (x : List UInt8) (ls : List (List UInt8)) : joined (x :: ls) = x ++ 10 :: joined ls := by simp [joined]
theorem joined_snoc (ls : List (List UInt8)) (x : List UInt8) : joined (ls ++ [x]) = joined ls ++ x ++ [10] := by simp [joined]

theorem first_none_all {p : UInt8 → Bool} {l : List UInt8} (h : first p l = none) : ∀ c ∈ l, p c = false := by
  intro c hc
  have := List.findIdx?_eq_none_iff.1 h c hc
  simpa using this
theorem first_some_at {p : UInt8 → Bool} {l : List UInt8} {n : Nat} (h : first p l = some n) : ∃ hn : n < l.length, p (l[n]) = true ∧ ∀ c ∈ l.take n, p c = false := by
  obtain ⟨hn, h1, h2⟩ := List.findIdx?_eq_some_iff_getElem.1 h
  refine ⟨hn, h1, fun c hc => ?_⟩
  obtain ⟨j, hj, rfl⟩ := List.getElem_of_mem hc
  rw [List.length_take] at hj
  have := h2 j (by omega)
  simpa [List.getElem_take] using this

theorem join_pieces : ∀ (m : Nat) (l : List UInt8), l.length ≤ m → joined (pieces isLine l) = l ++ tail10 l := by
  intro m
  induction m with
  | zero =>
    intro l hl
    obtain rfl := List.eq_nil_of_length_eq_zero (show l.length = 0 by omega)
    rw [pieces_nil]; rfl
  | succ m ih =>
    intro l hl
    by_cases hne : l = []
    · subst hne; rw [pieces_nil]; rfl
    · cases h : first isLine l with
      | none =>
        rw [pieces_last hne h]
        have hall := first_none_all h
        have ht : tail10 l = [10] := by
          unfold tail10
          rw [if_neg hne, if_neg]
          intro e
          have := hall 10 (List.mem_of_getLast? e)
          simp [isLine] at this
        rw [ht]
        simp [joined]
      | some n =>
        obtain ⟨hn, hp, _⟩ := first_some_at h
        rw [pieces_cut hne h, joined_cons, ih (l.drop (n + 1)) (by rw [List.length_drop]; omega)]
        have h10 : l[n] = 10 := by simpa [isLine] using hp
        have hl' : l = l.take n ++ 10 :: l.drop (n + 1) := by
          rw [← h10, ← List.drop_eq_getElem_cons hn, List.take_append_drop]
        have ht : tail10 l = tail10 (l.drop (n + 1)) := by
          unfold tail10
          rw [if_neg hne]
          by_cases hd : l.drop (n + 1) = []
          · rw [if_pos hd, if_pos]
            rw [hl', hd]; simp
          · rw [if_neg hd]
            have : l.getLast? = (l.drop (n + 1)).getLast? := by
              obtain ⟨y, hy⟩ : ∃ y, (l.drop (n + 1)).getLast? = some y := ⟨_, List.getLast?_eq_some_getLast hd⟩
              rw [hy]
              have h2 : (l.take n ++ 10 :: l.drop (n + 1)).getLast? = some y := by
                rw [List.getLast?_append, List.getLast?_cons, hy]; rfl
              rw [← hl'] at h2
              exact h2
            rw [this]
        rw [ht]
        generalize tail10 (l.drop (n + 1)) = T
        rw [show l ++ T = (l.take n ++ 10 :: l.drop (n + 1)) ++ T from congrArg (· ++ T) hl']
        simp

theorem pieces_no : ∀ (m : Nat) (l : List UInt8), l.length ≤ m → ∀ x ∈ pieces isLine l, ∀ c ∈ x, c ≠ 10 := by
  intro m
  induction m with
  | zero =>
    intro l hl
    obtain rfl := List.eq_nil_of_length_eq_zero (show l.length = 0 by omega)
    rw [pieces_nil]; intro x hx; cases hx
  | succ m ih =>
    intro l hl
    by_cases hne : l = []
    · subst hne; rw [pieces_nil]; intro x hx; cases hx
    · cases h : first isLine l with
      | none =>
        rw [pieces_last hne h]
        intro x hx c hc e
        obtain rfl := List.mem_singleton.1 hx
        have := first_none_all h c hc
        rw [e] at this
        simp [isLine] at this
      | some n =>
        obtain ⟨hn, hp, hpre⟩ := first_some_at h
        rw [pieces_cut hne h]
        intro x hx c hc e
        rcases List.mem_cons.1 hx with rfl | hx
        · have := hpre c hc
          rw [e] at this
          simp [isLine] at this
        · exact ih (l.drop (n + 1)) (by rw [List.length_drop]; omega) x hx c hc e

theorem sign_toNat {d : Nat} (h : d < 10) : (sign d).toNat = 48 + d := by
  unfold sign
  rw [if_pos h, UInt8.toNat_ofNat']
  omega
theorem val_digs {b : Nat} (h2 : 2 ≤ b) (h10 : b ≤ 10) : ∀ n, val b (digs b n) = n := by
  intro n
  induction n using Nat.strongRecOn with
  | _ n ih =>
    by_cases h : n < b
    · rw [digs_small h]
      have := sign_toNat (d := n) (by omega)
      simp [val, this]
    · rw [digs_step h2 (by omega), val_snoc, ih (n / b) (Nat.div_lt_self (by omega) (by omega)), sign_toNat (by have := Nat.mod_lt n (show 0 < b by omega); omega)]
      have := Nat.div_add_mod n b
      rw [Nat.mul_comm] at this
      omega
theorem allDig_digs {b : Nat} (h2 : 2 ≤ b) (h10 : b ≤ 10) : ∀ n, allDig b (digs b n) = true := by
  intro n
  induction n using Nat.strongRecOn with
  | _ n ih =>
    by_cases h : n < b
    · rw [digs_small h]
      have := sign_toNat (d := n) (by omega)
      simp [allDig, isDig, this]; omega
    · have h3 := Nat.mod_lt n (show 0 < b by omega)
      have h4 := sign_toNat (d := n % b) (by omega)
      rw [digs_step h2 (by omega)]
      have h5 := ih (n / b) (Nat.div_lt_self (by omega) (by omega))
      unfold allDig at h5 ⊢
      rw [List.all_append, h5]
      simp [isDig, h4]; omega
theorem digs_ne (b n : Nat) : digs b n ≠ [] := by
  rw [digs]
  split <;> simp
end Pl

theorem num_back {b n : Nat} (h2 : 2 ≤ b) (h10 : b ≤ 10) : numRes b n (Pl.digs b n) = .tuple #[.int .i64 n, .bool true] := by
  rw [numRes_yes (Pl.digs_ne b n) (Pl.allDig_digs h2 h10 n) (by rw [Pl.val_digs h2 h10]; exact Int.le_refl _), Pl.val_digs h2 h10]
theorem num_less {b n : Nat} (h2 : 2 ≤ b) (h10 : b ≤ 10) : numRes b ((n : Int) - 1) (Pl.digs b n) = .tuple #[.int .i64 0, .bool false] :=
  numRes_no (.inr (.inr (by rw [Pl.val_digs h2 h10]; omega)))
theorem text_nat {b n : Nat} : Pl.text b (n : Int) = Pl.digs b n := by
  unfold Pl.text
  rw [if_neg (by omega)]; rfl

end Go.Proofs.YtnagiphjlfiifaaDoor
