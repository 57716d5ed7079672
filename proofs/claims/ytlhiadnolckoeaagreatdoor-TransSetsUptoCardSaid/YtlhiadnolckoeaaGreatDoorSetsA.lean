/-
  Walks over the reference's Sign: the byte that stands at a place, and how long it is (printed by wip/tools/refsign.py).
-/
import Derived.Test.YtlhiadnolckoeaaGreatDoorR11
import Derived.Test.YtlhiadnolckoeaaGreatDoorR10
import Derived.LoopN
import Derived.BigQuiet
import Derived.Deep.QuietTactic

section
namespace Go.Proofs.YtlhiadnolckoeaaGreatDoor
open Go.RowKit Go.Maps

namespace Pl
theorem octs_end {t : List UInt8} {j : Nat} (hj : j ≤ 3) (hd : ∀ c ∈ t.take j, isDig 8 c = true) (hs : j = 3 ∨ t.length = j ∨ ∃ c, t[j]? = some c ∧ isDig 8 c = false) : octs t = t.take j := by
  unfold octs
  have e : t.take 3 = t.take j ++ (t.take 3).drop j := by
    conv => lhs; rw [← List.take_append_drop j (t.take 3)]
    rw [List.take_take, Nat.min_eq_left hj]
  rw [e, List.takeWhile_append_of_pos hd]
  have h0 : ((t.take 3).drop j).takeWhile (isDig 8) = [] := by
    rcases hs with rfl | h | ⟨c, hc, h⟩
    · simp
    · rw [List.drop_eq_nil_of_le (by rw [List.length_take]; omega)]; rfl
    · cases hd2 : (t.take 3).drop j with
      | nil => rfl
      | cons x r =>
        have h1 : ((t.take 3).drop j)[0]? = some x := by rw [hd2]; rfl
        rw [List.getElem?_drop, Nat.add_zero, List.getElem?_take] at h1
        split at h1
        · rw [hc] at h1
          obtain rfl := Option.some.inj h1
          simp [h]
        · cases h1
  rw [h0, List.append_nil]
theorem signC_esc {t : List UInt8} {j : Nat} (hj : 1 ≤ j) (hl : j ≤ t.length) (ho : octs t = t.take j) : signC (92 :: t) = UInt8.ofNat (val 8 (t.take j)) ∧ signN (92 :: t) = j + 1 := by
  have h0 : t ≠ [] := fun e => by rw [e] at hl; simp at hl; omega
  have h1 : t.take j ≠ [] := fun e => by have := congrArg List.length e; rw [List.length_take, List.length_nil] at this; omega
  constructor
  · show (if (92 : UInt8) ≠ 92 ∨ t = [] then (92 : UInt8) else if octs t ≠ [] then UInt8.ofNat (val 8 (octs t)) else (escB (t.headD 0)).getD (t.headD 0)) = _
    rw [if_neg (by simp [h0]), ho, if_pos h1]
  · rw [signN_cons, if_neg (by simp [h0]), ho, if_pos h1, List.length_take]
    omega
theorem signC_esc0 {t : List UInt8} {c : UInt8} (hc : t[0]? = some c) (ho : octs t = []) : signC (92 :: t) = (escB c).getD c ∧ signN (92 :: t) = 2 := by
  have h0 : t ≠ [] := fun e => by rw [e] at hc; simp at hc
  have h1 : t.headD 0 = c := by cases t with
    | nil => simp at hc
    | cons x r => simpa using hc
  constructor
  · show (if (92 : UInt8) ≠ 92 ∨ t = [] then (92 : UInt8) else if octs t ≠ [] then UInt8.ofNat (val 8 (octs t)) else (escB (t.headD 0)).getD (t.headD 0)) = _
    rw [if_neg (by simp [h0]), if_neg (by rw [ho]; simp), h1]
  · rw [signN_cons, if_neg (by simp [h0]), if_neg (by rw [ho]; simp)]
theorem signC_plain {c : UInt8} {t : List UInt8} (h : c ≠ 92 ∨ t = []) : signC (c :: t) = c ∧ signN (c :: t) = 1 := by
  constructor
  · show (if c ≠ 92 ∨ t = [] then c else _) = c
    rw [if_pos h]
  · rw [signN_cons, if_pos h]
theorem val8_lt {t : List UInt8} : ∀ {j : Nat}, (∀ c ∈ t.take j, isDig 8 c = true) → j ≤ 3 → val 8 (t.take j) < 512 := by
  have hd : ∀ c : UInt8, isDig 8 c = true → c.toNat - 48 ≤ 7 := by
    intro c h
    have := of_decide_eq_true h
    omega
  intro j h hj
  have h1 : ∀ (l : List UInt8), l.length ≤ 3 → (∀ c ∈ l, isDig 8 c = true) → val 8 l < 512 := by
    intro l hl hc
    match l, hl with
    | [], _ => decide
    | [a], _ =>
      have := hd a (hc a (by simp))
      simp only [val, List.foldl]; omega
    | [a, b], _ =>
      have h1 := hd a (hc a (by simp))
      have h2 := hd b (hc b (by simp))
      simp only [val, List.foldl]; omega
    | [a, b, c], _ =>
      have h1 := hd a (hc a (by simp))
      have h2 := hd b (hc b (by simp))
      have h3 := hd c (hc c (by simp))
      simp only [val, List.foldl]; omega
  exact h1 _ (by rw [List.length_take]; omega) h
end Pl

theorem drop_at {S : ByteArray} {a : Nat} (h : a < S.size) : S.data.toList.drop a = (S[a]'h) :: S.data.toList.drop (a + 1) := by
  have hl : S.data.toList.length = S.size := Array.length_toList
  rw [List.drop_eq_getElem_cons (by omega)]
  congr 1

set_option maxRecDepth 100000 in
set_option maxHeartbeats 1000000 in
theorem refSign_plain (S : ByteArray) (a : Nat) (ha : a < S.size) (hs : S.size ≤ 1048576) (w : World) (h : (S[a]'ha) ≠ 92 ∨ a + 1 = S.size) :
    Calls Tryz.prog 21 #[.string S, .int .i64 a] w fun e w' => e = .returned (.tuple #[.int .u8 (Pl.signC (S.data.toList.drop a)).toNat, .int .i64 (Pl.signN (S.data.toList.drop a))]) ∧ Below w.heap.size w w' := by
  have hl : S.data.toList.length = S.size := Array.length_toList
  have hh := Pl.signC_plain (c := S[a]'ha) (t := S.data.toList.drop (a + 1)) (h.imp id fun e => List.drop_eq_nil_of_le (by omega))
  rw [drop_at ha, hh.1, hh.2]
  clear hh hl
  obtain ⟨x, hx⟩ : ∃ x : Int, ((S[a]'ha).toNat : Int) = x := ⟨_, rfl⟩
  have hx0 : 0 ≤ x := by omega
  have hx1 : x < 256 := by have := (S[a]'ha).toNat_lt; omega
  have hor : x ≠ 92 ∨ (a : Int) + 1 = S.size := h.imp (fun e e2 => e (UInt8.toNat_inj.1 (by show _ = 92; omega))) (fun e => by omega)
  clear h
  rw [hx]
  by_cases h92 : x = 92
  · subst h92
    have he : (a : Int) + 1 = S.size := by omega
    clear hor
    go_enter Tryz.func21, Tryz.ntmps21
    go_wp2_with fail
    go_returns
    exact ⟨rfl, Below.refl _ _⟩
  · have hn : (x != 92) = true := by simpa using h92
    clear hor h92
    go_enter Tryz.func21, Tryz.ntmps21
    go_wp2_with fail
    go_returns
    exact ⟨rfl, Below.refl _ _⟩

set_option maxRecDepth 100000 in
set_option maxHeartbeats 4000000 in
theorem refSign_esc (S : ByteArray) (a : Nat) (ha : a + 1 < S.size) (hs : S.size ≤ 1048576) (w : World) (h : (S[a]'(Nat.lt_of_succ_lt ha)) = 92) :
    Calls Tryz.prog 21 #[.string S, .int .i64 a] w fun e w' => e = .returned (.tuple #[.int .u8 (Pl.signC (S.data.toList.drop a)).toNat, .int .i64 (Pl.signN (S.data.toList.drop a))]) ∧ Below w.heap.size w w' := by
  have hl : S.data.toList.length = S.size := Array.length_toList
  obtain ⟨t, ht⟩ : ∃ t, S.data.toList.drop (a + 1) = t := ⟨_, rfl⟩
  have htl : t.length = S.size - (a + 1) := by rw [← ht, List.length_drop, hl]
  have hta : ∀ (j : Nat) (hj : a + 1 + j < S.size), t[j]? = some (S[a + 1 + j]'hj) := by
    intro j hj
    rw [← ht, List.getElem?_drop, Array.getElem?_toList]
    exact Array.getElem?_eq_getElem hj
  rw [drop_at (show a < S.size by omega), h, ht]
  have h92 : ((S[a]'(Nat.lt_of_succ_lt ha)).toNat : Int) = 92 := by rw [h]; rfl
  obtain ⟨C, hC⟩ : ∃ C, Pl.signC (92 :: t) = C := ⟨_, rfl⟩
  obtain ⟨N, hN⟩ : ∃ N, Pl.signN (92 :: t) = N := ⟨_, rfl⟩
  rw [hC, hN]
  have HC := Lib.hid hC
  have HN := Lib.hid hN
  have HTA := Lib.hid hta
  have HTL := Lib.hid htl
  obtain ⟨g, hg⟩ : ∃ g, w.heap.size = g := ⟨_, rfl⟩
  rw [hg]
  have hne1 : ((a : Int) + 1 == (S.size : Int)) = false := by rw [beq_eq_false_iff_ne]; omega
  clear hC hN hta htl ht h hl
  go_enter Tryz.func21, Tryz.ntmps21
  go_wp2_with fail
  go_loopw [6, 7] (fun n k wr => ∃ (j v : Nat), j ≤ 3 ∧ a + 1 + j ≤ S.size ∧ v < 512 ∧ Hid ((∀ c ∈ t.take j, Pl.isDig 8 c = true) ∧ Pl.val 8 (t.take j) = v) ∧ n = .int .i64 v ∧ k = .int .i64 ((a : Int) + 1 + j) ∧ Hid (wr = w)) (fun _ k _ => S.size + 1 - (intOf k).toNat)
  case atStart => exact ⟨0, 0, by omega, by omega, by omega, Lib.hid ⟨by simp, rfl⟩, rfl, by simp, Lib.hid rfl⟩
  case round =>
    obtain ⟨j, v, hj, hjs, hv, hrel, rfl, rfl, hwr⟩ := hrel
    obtain rfl := hwr.out
    clear hwr
    by_cases hlt : a + 1 + j < S.size
    · by_cases hj3 : j < 3
      · obtain ⟨x, hx⟩ : ∃ x : Int, ((S[a + 1 + j]'hlt).toNat : Int) = x := ⟨_, rfl⟩
        have hx0 : 0 ≤ x := by omega
        have hx1 : x < 256 := by have := (S[a + 1 + j]'hlt).toNat_lt; omega
        have hat := HTA.out j hlt
        by_cases hd : Pl.isDig 8 (S[a + 1 + j]'hlt) = true
        · have hcr := of_decide_eq_true hd
          have hxl : 48 ≤ x := by omega
          have hxh : x ≤ 55 := by omega
          have hall : ∀ c ∈ t.take (j + 1), Pl.isDig 8 c = true := by
            rw [List.take_add_one, hat]
            intro c hc
            rcases List.mem_append.1 hc with h | h
            · exact hrel.out.1 c h
            · simp at h; rw [h]; exact hd
          have hstep : Pl.val 8 (t.take (j + 1)) = v * 8 + ((S[a + 1 + j]'hlt).toNat - 48) := by rw [Pl.val_take hat, hrel.out.2]
          have hv2 := Pl.val8_lt hall (by omega)
          obtain ⟨V, hV⟩ : ∃ V, Pl.val 8 (t.take (j + 1)) = V := ⟨_, rfl⟩
          rw [hV] at hstep hv2
          have hVx : 8 * (v : Int) + (x - 48) = (V : Int) := by omega
          have HR := Lib.hid (show (∀ c ∈ t.take (j + 1), Pl.isDig 8 c = true) ∧ Pl.val 8 (t.take (j + 1)) = V from ⟨hall, hV⟩)
          clear hstep hall hV hat hcr hd
          go_wp2_with fail
          go_roundw
          case rel => exact ⟨j + 1, V, by omega, by omega, hv2, HR, rfl, by go_num, Lib.hid trivial⟩
          case measure => simp [intOf]; omega
        · have hoct : Pl.octs t = t.take j := Pl.octs_end (by omega) hrel.out.1 (.inr (.inr ⟨_, hat, by simpa using hd⟩))
          by_cases hj0 : j = 0
          · subst hj0
            have he := Pl.signC_esc0 hat (by rw [hoct]; rfl)
            rw [HC.out, HN.out] at he
            obtain ⟨he1, rfl⟩ := he
            have hnd : x < 48 ∨ 55 < x := by
              have : ¬ (48 ≤ (S[a + 1 + 0]'hlt).toNat ∧ (S[a + 1 + 0]'hlt).toNat < 48 + 8) := fun h => hd (decide_eq_true h)
              omega
            have hy : ((S[a + 1]'ha).toNat : Int) = x := hx
            have HE := Lib.hid (show Pl.escB (S[a + 1]'ha) = Pl.escB (S[a + 1 + 0]'hlt) from rfl)
            have hcx : C = (Pl.escB (S[a + 1]'ha)).getD (S[a + 1]'ha) := he1
            have hyy : ∀ n : Nat, (S[a + 1]'ha).toNat = n → S[a + 1]'ha = UInt8.ofNat n := fun n h => by rw [← h, UInt8.ofNat_toNat]
            have HYY := Lib.hid hyy
            have HCX := Lib.hid hcx
            clear hat hd hoct he1 hrel hx hyy hcx HE HC HN HTA HTL
            by_cases q97 : x = 97
            · subst q97
              obtain rfl : C = 7 := by rw [HCX.out, HYY.out 97 (by omega)]; decide
              clear HYY HCX hnd
              go_wp2_with fail
              refine wp_loop_rounds 1 ?_
              rw [rounds_succ]
              go_wp2_with fail
              go_quiet (fail)
              go_wp2_with fail
              go_returns
              exact ⟨rfl, by rw [← hg]; exact below_drewN (below_one wr _) _⟩
            have n97 : (x == 97) = false := by rw [beq_eq_false_iff_ne]; exact q97
            by_cases q98 : x = 98
            · subst q98
              obtain rfl : C = 8 := by rw [HCX.out, HYY.out 98 (by omega)]; decide
              clear HYY HCX hnd
              go_wp2_with fail
              refine wp_loop_rounds 2 ?_
              rw [rounds_succ]
              go_wp2_with fail
              go_quiet (fail)
              go_wp2_with fail
              rw [rounds_succ]
              go_wp2_with fail
              go_quiet (fail)
              go_wp2_with fail
              go_returns
              exact ⟨rfl, by rw [← hg]; exact below_drewN (below_one wr _) _⟩
            have n98 : (x == 98) = false := by rw [beq_eq_false_iff_ne]; exact q98
            by_cases q102 : x = 102
            · subst q102
              obtain rfl : C = 12 := by rw [HCX.out, HYY.out 102 (by omega)]; decide
              clear HYY HCX hnd
              go_wp2_with fail
              refine wp_loop_rounds 3 ?_
              rw [rounds_succ]
              go_wp2_with fail
              go_quiet (fail)
              go_wp2_with fail
              rw [rounds_succ]
              go_wp2_with fail
              go_quiet (fail)
              go_wp2_with fail
              rw [rounds_succ]
              go_wp2_with fail
              go_quiet (fail)
              go_wp2_with fail
              go_returns
              exact ⟨rfl, by rw [← hg]; exact below_drewN (below_one wr _) _⟩
            have n102 : (x == 102) = false := by rw [beq_eq_false_iff_ne]; exact q102
            by_cases q110 : x = 110
            · subst q110
              obtain rfl : C = 10 := by rw [HCX.out, HYY.out 110 (by omega)]; decide
              clear HYY HCX hnd
              go_wp2_with fail
              refine wp_loop_rounds 4 ?_
              rw [rounds_succ]
              go_wp2_with fail
              go_quiet (fail)
              go_wp2_with fail
              rw [rounds_succ]
              go_wp2_with fail
              go_quiet (fail)
              go_wp2_with fail
              rw [rounds_succ]
              go_wp2_with fail
              go_quiet (fail)
              go_wp2_with fail
              rw [rounds_succ]
              go_wp2_with fail
              go_quiet (fail)
              go_wp2_with fail
              go_returns
              exact ⟨rfl, by rw [← hg]; exact below_drewN (below_one wr _) _⟩
            have n110 : (x == 110) = false := by rw [beq_eq_false_iff_ne]; exact q110
            by_cases q114 : x = 114
            · subst q114
              obtain rfl : C = 13 := by rw [HCX.out, HYY.out 114 (by omega)]; decide
              clear HYY HCX hnd
              go_wp2_with fail
              refine wp_loop_rounds 5 ?_
              rw [rounds_succ]
              go_wp2_with fail
              go_quiet (fail)
              go_wp2_with fail
              rw [rounds_succ]
              go_wp2_with fail
              go_quiet (fail)
              go_wp2_with fail
              rw [rounds_succ]
              go_wp2_with fail
              go_quiet (fail)
              go_wp2_with fail
              rw [rounds_succ]
              go_wp2_with fail
              go_quiet (fail)
              go_wp2_with fail
              rw [rounds_succ]
              go_wp2_with fail
              go_quiet (fail)
              go_wp2_with fail
              go_returns
              exact ⟨rfl, by rw [← hg]; exact below_drewN (below_one wr _) _⟩
            have n114 : (x == 114) = false := by rw [beq_eq_false_iff_ne]; exact q114
            by_cases q116 : x = 116
            · subst q116
              obtain rfl : C = 9 := by rw [HCX.out, HYY.out 116 (by omega)]; decide
              clear HYY HCX hnd
              go_wp2_with fail
              refine wp_loop_rounds 6 ?_
              rw [rounds_succ]
              go_wp2_with fail
              go_quiet (fail)
              go_wp2_with fail
              rw [rounds_succ]
              go_wp2_with fail
              go_quiet (fail)
              go_wp2_with fail
              rw [rounds_succ]
              go_wp2_with fail
              go_quiet (fail)
              go_wp2_with fail
              rw [rounds_succ]
              go_wp2_with fail
              go_quiet (fail)
              go_wp2_with fail
              rw [rounds_succ]
              go_wp2_with fail
              go_quiet (fail)
              go_wp2_with fail
              rw [rounds_succ]
              go_wp2_with fail
              go_quiet (fail)
              go_wp2_with fail
              go_returns
              exact ⟨rfl, by rw [← hg]; exact below_drewN (below_one wr _) _⟩
            have n116 : (x == 116) = false := by rw [beq_eq_false_iff_ne]; exact q116
            by_cases q118 : x = 118
            · subst q118
              obtain rfl : C = 11 := by rw [HCX.out, HYY.out 118 (by omega)]; decide
              clear HYY HCX hnd
              go_wp2_with fail
              refine wp_loop_rounds 7 ?_
              rw [rounds_succ]
              go_wp2_with fail
              go_quiet (fail)
              go_wp2_with fail
              rw [rounds_succ]
              go_wp2_with fail
              go_quiet (fail)
              go_wp2_with fail
              rw [rounds_succ]
              go_wp2_with fail
              go_quiet (fail)
              go_wp2_with fail
              rw [rounds_succ]
              go_wp2_with fail
              go_quiet (fail)
              go_wp2_with fail
              rw [rounds_succ]
              go_wp2_with fail
              go_quiet (fail)
              go_wp2_with fail
              rw [rounds_succ]
              go_wp2_with fail
              go_quiet (fail)
              go_wp2_with fail
              rw [rounds_succ]
              go_wp2_with fail
              go_quiet (fail)
              go_wp2_with fail
              go_returns
              exact ⟨rfl, by rw [← hg]; exact below_drewN (below_one wr _) _⟩
            have n118 : (x == 118) = false := by rw [beq_eq_false_iff_ne]; exact q118
            have hcc : C = S[a + 1]'ha := by
              rw [HCX.out]
              have hne : ∀ (n : UInt8) (z : Int), (n.toNat : Int) = z → x ≠ z → S[a + 1]'ha ≠ n := fun n z hn h e => h (by rw [← hy, e, hn])
              unfold Pl.escB
              rw [if_neg (hne 97 97 rfl q97), if_neg (hne 98 98 rfl q98), if_neg (hne 102 102 rfl q102), if_neg (hne 110 110 rfl q110), if_neg (hne 114 114 rfl q114), if_neg (hne 116 116 rfl q116), if_neg (hne 118 118 rfl q118)]
              rfl
            subst hcc
            clear HYY HCX
            have e97 : (x == (((⟨#[97, 98, 102, 110, 114, 116, 118]⟩ : ByteArray)[0]'(by decide)).toNat : Int)) = false := n97
            have e98 : (x == (((⟨#[97, 98, 102, 110, 114, 116, 118]⟩ : ByteArray)[1]'(by decide)).toNat : Int)) = false := n98
            have e102 : (x == (((⟨#[97, 98, 102, 110, 114, 116, 118]⟩ : ByteArray)[2]'(by decide)).toNat : Int)) = false := n102
            have e110 : (x == (((⟨#[97, 98, 102, 110, 114, 116, 118]⟩ : ByteArray)[3]'(by decide)).toNat : Int)) = false := n110
            have e114 : (x == (((⟨#[97, 98, 102, 110, 114, 116, 118]⟩ : ByteArray)[4]'(by decide)).toNat : Int)) = false := n114
            have e116 : (x == (((⟨#[97, 98, 102, 110, 114, 116, 118]⟩ : ByteArray)[5]'(by decide)).toNat : Int)) = false := n116
            have e118 : (x == (((⟨#[97, 98, 102, 110, 114, 116, 118]⟩ : ByteArray)[6]'(by decide)).toNat : Int)) = false := n118
            rcases hnd with hnd | hnd
            · go_wp2_with fail
              refine wp_loop_rounds 8 ?_
              rw [rounds_succ]
              go_wp2_with fail
              go_quiet (fail)
              go_wp2_with fail
              rw [rounds_succ]
              go_wp2_with fail
              go_quiet (fail)
              go_wp2_with fail
              rw [rounds_succ]
              go_wp2_with fail
              go_quiet (fail)
              go_wp2_with fail
              rw [rounds_succ]
              go_wp2_with fail
              go_quiet (fail)
              go_wp2_with fail
              rw [rounds_succ]
              go_wp2_with fail
              go_quiet (fail)
              go_wp2_with fail
              rw [rounds_succ]
              go_wp2_with fail
              go_quiet (fail)
              go_wp2_with fail
              rw [rounds_succ]
              go_wp2_with fail
              go_quiet (fail)
              go_wp2_with fail
              rw [rounds_succ]
              go_wp2_with fail
              go_returns
              exact ⟨by rw [hy]; rfl, by rw [← hg]; exact below_drewN (below_one wr _) _⟩
            · go_wp2_with fail
              refine wp_loop_rounds 8 ?_
              rw [rounds_succ]
              go_wp2_with fail
              go_quiet (fail)
              go_wp2_with fail
              rw [rounds_succ]
              go_wp2_with fail
              go_quiet (fail)
              go_wp2_with fail
              rw [rounds_succ]
              go_wp2_with fail
              go_quiet (fail)
              go_wp2_with fail
              rw [rounds_succ]
              go_wp2_with fail
              go_quiet (fail)
              go_wp2_with fail
              rw [rounds_succ]
              go_wp2_with fail
              go_quiet (fail)
              go_wp2_with fail
              rw [rounds_succ]
              go_wp2_with fail
              go_quiet (fail)
              go_wp2_with fail
              rw [rounds_succ]
              go_wp2_with fail
              go_quiet (fail)
              go_wp2_with fail
              rw [rounds_succ]
              go_wp2_with fail
              go_returns
              exact ⟨by rw [hy]; rfl, by rw [← hg]; exact below_drewN (below_one wr _) _⟩
          · have he := Pl.signC_esc (by omega) (by rw [HTL.out]; omega) hoct
            rw [HC.out, HN.out, hrel.out.2] at he
            obtain ⟨rfl, rfl⟩ := he
            have hpos : 0 < j := by omega
            have hb : (v : Int).tmod 256 = ((UInt8.ofNat v).toNat : Int) := by rw [UInt8.toNat_ofNat', Int.ofNat_tmod]; rfl
            have hnd : x < 48 ∨ 55 < x := by
              have : ¬ (48 ≤ (S[a + 1 + j]'hlt).toNat ∧ (S[a + 1 + j]'hlt).toNat < 48 + 8) := fun h => hd (decide_eq_true h)
              omega
            clear hat hd hoct HC HN HTA hrel
            rcases hnd with hnd | hnd
            · go_wp2_with fail
              go_returns
              exact ⟨by simp; omega, Below.refl _ _⟩
            · go_wp2_with fail
              go_returns
              exact ⟨by simp; omega, Below.refl _ _⟩
      · obtain rfl : j = 3 := by omega
        have hoct : Pl.octs t = t.take 3 := Pl.octs_end (by omega) hrel.out.1 (.inl rfl)
        have he := Pl.signC_esc (by omega) (by rw [HTL.out]; omega) hoct
        rw [HC.out, HN.out, hrel.out.2] at he
        obtain ⟨rfl, rfl⟩ := he
        clear hoct HC HN HTA hrel
        go_wp2_with fail
        go_returns
        exact ⟨by simp; omega, Below.refl _ _⟩
    · have hoct : Pl.octs t = t.take j := Pl.octs_end (by omega) hrel.out.1 (.inr (.inl (by rw [HTL.out]; omega)))
      have he := Pl.signC_esc (by omega) (by rw [HTL.out]; omega) hoct
      rw [HC.out, HN.out, hrel.out.2] at he
      obtain ⟨rfl, rfl⟩ := he
      have hpos : 0 < j := by omega
      clear hoct HC HN HTA hrel
      go_wp2_with fail
      go_returns
      exact ⟨by simp; omega, Below.refl _ _⟩

theorem refSign_any (S : ByteArray) (a : Nat) (ha : a < S.size) (hs : S.size ≤ 1048576) (w : World) :
    Calls Tryz.prog 21 #[.string S, .int .i64 a] w fun e w' => e = .returned (.tuple #[.int .u8 (Pl.signC (S.data.toList.drop a)).toNat, .int .i64 (Pl.signN (S.data.toList.drop a))]) ∧ Below w.heap.size w w' := by
  by_cases h : (S[a]'ha) ≠ 92 ∨ a + 1 = S.size
  · exact refSign_plain S a ha hs w h
  · simp only [not_or, Decidable.not_not] at h
    exact refSign_esc S a (by omega) hs w h.1

end Go.Proofs.YtlhiadnolckoeaaGreatDoor
end
