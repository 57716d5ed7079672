/-
  Parts that the claims share: What a string of tr stands for: plain; Strings of given bytes: small facts; Walks over trans.in and trans.sign: the byte that a text begins with; A walk over trans.sign: a byte by its octal digits; A walk over trans.sign: a letter behind a backslash; trans.sign at any text; Plain facts for the walks over how a string of tr is read: two bytes that stand at a place, the classes by their names, the numbers of times; Walks over the classes of bytes, and over the map of them; A walk over the map of classes; A string of tr that is being read, as it stands in memory; walks over equal; Arrays of 256 c.
-/
import Derived.Test.YtlhiadnolckoeaaGreatDoorR10
import Derived.Lib.CutLaws
import Derived.Test.YtlhiadnolckoeaaGreatDoorR04
import Derived.Test.YtlhiadnolckoeaaGreatDoorChecked
import Derived.WalkKit
import Derived.WalkSpells
import Derived.WalkLawsBesides
import Derived.Lib.Hide
import Derived.IntWalk
import Derived.Handy
import Derived.Laws.IdiomStrings
import Derived.Lib.Strings
import Derived.Lib.TrimByte
import Derived.BigQuiet
import Derived.Deep.QuietTactic
import Derived.Laws.BitsAllLaws
import Derived.Test.YtlhiadnolckoeaaGreatDoorR01
import Derived.Test.YtlhiadnolckoeaaGreatDoorR05
import Derived.Test.YtlhiadnolckoeaaGreatDoorR03
import Derived.Deep.MidRow
import Derived.Laws.Rows
import Derived.Test.YtlhiadnolckoeaaGreatDoorR02

section
namespace Go.Proofs.YtlhiadnolckoeaaGreatDoor

namespace Pl
/-- the octal digits that a text begins with, three at most -/
def octs (s : List UInt8) : List UInt8 := (s.take 3).takeWhile (isDig 8)
def escB (c : UInt8) : Option UInt8 :=
  if c = 97 then some 7 else if c = 98 then some 8 else if c = 102 then some 12 else if c = 110 then some 10 else if c = 114 then some 13 else if c = 116 then some 9 else if c = 118 then some 11 else none
/-- the byte that a text begins with -/
def signC : List UInt8 → UInt8
  | [] => 0
  | c :: t => if c ≠ 92 ∨ t = [] then c else if octs t ≠ [] then UInt8.ofNat (val 8 (octs t)) else (escB (t.headD 0)).getD (t.headD 0)
/-- how long it is -/
def signN : List UInt8 → Nat
  | [] => 0
  | c :: t => if c ≠ 92 ∨ t = [] then 1 else if octs t ≠ [] then (octs t).length + 1 else 2
def between (c a b : UInt8) : Bool := decide (a.toNat ≤ c.toNat) && decide (c.toNat ≤ b.toNat)
def upperB (c : UInt8) : Bool := between c 65 90
def lowerB (c : UInt8) : Bool := between c 97 122
def digitB (c : UInt8) : Bool := between c 48 57
def alphaB (c : UInt8) : Bool := upperB c || lowerB c
def alnumB (c : UInt8) : Bool := alphaB c || digitB c
def graphB (c : UInt8) : Bool := between c 33 126
def blankB (c : UInt8) : Bool := c == 32 || c == 9
def spaceB (c : UInt8) : Bool := c == 32 || between c 9 13
def cntrlB (c : UInt8) : Bool := decide (c.toNat < 32) || c == 127
def printB (c : UInt8) : Bool := between c 32 126
def punctB (c : UInt8) : Bool := graphB c && !alnumB c
def xdigitB (c : UInt8) : Bool := digitB c || between c 97 102 || between c 65 70
/-- the classes, as they are made -/
def classTab : List (List UInt8 × (UInt8 → Bool)) := [
  ([97, 108, 112, 104, 97], alphaB), ([100, 105, 103, 105, 116], digitB), ([97, 108, 110, 117, 109], alnumB), ([117, 112, 112, 101, 114], upperB), ([108, 111, 119, 101, 114], lowerB), ([103, 114, 97, 112, 104], graphB),
  ([98, 108, 97, 110, 107], blankB), ([115, 112, 97, 99, 101], spaceB), ([99, 110, 116, 114, 108], cntrlB), ([112, 114, 105, 110, 116], printB), ([112, 117, 110, 99, 116], punctB), ([120, 100, 105, 103, 105, 116], xdigitB)]
def classOf (name : List UInt8) : Option (UInt8 → Bool) := (classTab.find? (fun p => p.1 == name)).map (·.2)
def allB : List UInt8 := (List.range 256).map UInt8.ofNat
/-- a string that is being read -/
structure TS where
  out : List UInt8
  rest : Int
  bad : Bool
def classS (s : List UInt8) (x : TS) : Option (List UInt8 × TS) :=
  if Lib.hasPrefix s [91, 58] = true ∧ (Lib.cut (s.drop 2) [58, 93]).2.2 = true then
    some ((Lib.cut (s.drop 2) [58, 93]).2.1, match classOf (Lib.cut (s.drop 2) [58, 93]).1 with
      | some f => { x with out := x.out ++ allB.filter f }
      | none => { x with bad := true })
  else none
def equalS (s : List UInt8) (x : TS) : Option (List UInt8 × TS) :=
  if Lib.hasPrefix s [91, 61] = true ∧ s.drop 2 ≠ [] ∧ Lib.hasPrefix (s.drop (2 + signN (s.drop 2))) [61, 93] = true then
    some (s.drop (4 + signN (s.drop 2)), { x with out := x.out ++ [signC (s.drop 2)] })
  else none
/-- the digits of a number of times -/
def timesD (s : List UInt8) : List UInt8 := (s.drop (2 + signN (s.drop 1))).takeWhile (isDig 10)
/-- how many times: none: it is not said well -/
def timesV (d : List UInt8) : Option Nat :=
  if d = [] then some 0
  else if d.head? = some 48 then (if allDig 8 d = true ∧ val 8 d ≤ 2147483647 then some (val 8 d) else none)
  else (if val 10 d ≤ 2147483647 then some (val 10 d) else none)
def timesX (s : List UInt8) (x : TS) : TS :=
  match timesV (timesD s) with
  | none => { x with bad := true }
  | some 0 => if 0 ≤ x.rest then { x with bad := true } else { out := x.out ++ [signC (s.drop 1)], rest := x.out.length, bad := x.bad }
  | some (n + 1) => { x with out := x.out ++ List.replicate (min (n + 1) 65536) (signC (s.drop 1)) }
def timesS (s : List UInt8) (x : TS) : Option (List UInt8 × TS) :=
  if Lib.hasPrefix s [91] = true ∧ s.drop 1 ≠ [] ∧ Lib.hasPrefix (s.drop (1 + signN (s.drop 1))) [42] = true ∧ Lib.hasPrefix (s.drop (2 + signN (s.drop 1) + (timesD s).length)) [93] = true then
    some (s.drop (3 + signN (s.drop 1) + (timesD s).length), timesX s x)
  else none
/-- bytes from one to another one -/
def span (c d : UInt8) : List UInt8 := ((List.range (d.toNat + 1)).drop c.toNat).map UInt8.ofNat
def plainS (s : List UInt8) (x : TS) : List UInt8 × TS :=
  if Lib.hasPrefix (s.drop (signN s)) [45] = true ∧ s.drop (signN s + 1) ≠ [] then
    (s.drop (signN s + 1 + signN (s.drop (signN s + 1))), { x with out := x.out ++ span (signC s) (signC (s.drop (signN s + 1))), bad := x.bad || decide ((signC (s.drop (signN s + 1))).toNat < (signC s).toNat) })
  else (s.drop (signN s), { x with out := x.out ++ [signC s] })
def stepS (s : List UInt8) (x : TS) : List UInt8 × TS := (classS s x).getD ((equalS s x).getD ((timesS s x).getD (plainS s x)))

theorem signN_cons (c : UInt8) (t : List UInt8) : signN (c :: t) = if c ≠ 92 ∨ t = [] then 1 else if octs t ≠ [] then (octs t).length + 1 else 2 := rfl
theorem signN_pos {s : List UInt8} (h : s ≠ []) : 1 ≤ signN s := by
  cases s with
  | nil => exact absurd rfl h
  | cons c t =>
    rw [signN_cons]
    split
    · omega
    · split <;> omega
theorem octs_le (s : List UInt8) : (octs s).length ≤ 3 ∧ (octs s).length ≤ s.length := by
  have h1 := (List.takeWhile_prefix (l := s.take 3) (isDig 8)).length_le
  rw [List.length_take] at h1
  unfold octs
  omega
theorem signN_le (s : List UInt8) : signN s ≤ s.length := by
  cases s with
  | nil => exact Nat.le_refl _
  | cons c t =>
    rw [signN_cons]
    split
    · simp
    · rename_i h
      have h1 : t ≠ [] := fun e => h (.inr e)
      have h2 := octs_le t
      have h3 : 1 ≤ t.length := List.length_pos_iff.2 h1
      split
      · simp; omega
      · simp; omega
theorem cut_lt {s sep : List UInt8} (h : (Lib.cut s sep).2.2 = true) : (Lib.cut s sep).2.1.length + sep.length ≤ s.length := by
  unfold Lib.cut at h ⊢
  split
  · rename_i h0
    have := Lib.index_room s sep h0
    simp only [List.length_drop]
    omega
  · rename_i h0
    rw [if_neg h0] at h
    cases h
theorem hasPrefix_len {s p : List UInt8} (h : Lib.hasPrefix s p = true) : p.length ≤ s.length := (List.isPrefixOf_iff_prefix.1 h).length_le
theorem step_lt {s : List UInt8} (h : s ≠ []) (x : TS) : (stepS s x).1.length < s.length := by
  have hp : 1 ≤ s.length := List.length_pos_iff.2 h
  unfold stepS
  cases hc : classS s x with
  | some y =>
    unfold classS at hc
    split at hc
    · rename_i h1
      have h2 := hasPrefix_len h1.1
      obtain rfl := (Option.some.inj hc).symm
      have h3 := cut_lt h1.2
      simp at h3 h2 ⊢
      omega
    · cases hc
  | none =>
    cases he : equalS s x with
    | some y =>
      unfold equalS at he
      split at he
      · obtain rfl := (Option.some.inj he).symm
        simp
        omega
      · cases he
    | none =>
      cases ht : timesS s x with
      | some y =>
        unfold timesS at ht
        split at ht
        · obtain rfl := (Option.some.inj ht).symm
          simp
          omega
        · cases ht
      | none =>
        have := signN_pos h
        simp only [Option.getD_none]
        unfold plainS
        split
        · simp; omega
        · simp; omega
/-- what a string stands for, behind what was read -/
def setFrom (s : List UInt8) (x : TS) : TS := if _h : s = [] then x else setFrom (stepS s x).1 (stepS s x).2
  termination_by s.length
  decreasing_by exact step_lt (by assumption) x
theorem setFrom_nil (x : TS) : setFrom [] x = x := by rw [setFrom, dif_pos rfl]
theorem setFrom_step {s : List UInt8} (h : s ≠ []) (x : TS) : setFrom s x = setFrom (stepS s x).1 (stepS s x).2 := by rw [setFrom, dif_neg h]
def setL (s : List UInt8) : TS := setFrom s ⟨[], -1, false⟩

/-- how much a string stands for, at most -/
theorem filter_allB (f : UInt8 → Bool) : (allB.filter f).length ≤ 256 := Nat.le_trans (List.length_filter_le _ _) (by simp [allB])
theorem span_len (c d : UInt8) : (span c d).length ≤ 256 := by
  have := d.toNat_lt
  simp [span]
  omega
theorem stepS_out (s : List UInt8) (x : TS) : (stepS s x).2.out.length ≤ x.out.length + 65536 := by
  unfold stepS
  cases hc : classS s x with
  | some y =>
    unfold classS at hc
    split at hc
    · obtain rfl := (Option.some.inj hc).symm
      simp only [Option.getD_some]
      split
      · have := filter_allB (by assumption)
        simp
        omega
      · simp
    · cases hc
  | none =>
    cases he : equalS s x with
    | some y =>
      unfold equalS at he
      split at he
      · obtain rfl := (Option.some.inj he).symm
        simp
      · cases he
    | none =>
      cases ht : timesS s x with
      | some y =>
        unfold timesS at ht
        split at ht
        · obtain rfl := (Option.some.inj ht).symm
          simp only [Option.getD_none, Option.getD_some]
          unfold timesX
          split
          · simp
          · split <;> simp
          · simp; omega
        · cases ht
      | none =>
        simp only [Option.getD_none]
        unfold plainS
        split
        · have := span_len (signC s) (signC (s.drop (signN s + 1)))
          simp
          omega
        · simp
end Pl

end Go.Proofs.YtlhiadnolckoeaaGreatDoor
end

section
namespace Go.Proofs.YtlhiadnolckoeaaGreatDoor
open Go.RowKit

/-- a string of these bytes -/
def strB (l : List UInt8) : ByteArray := ⟨l.toArray⟩
theorem strB_toList (l : List UInt8) : (strB l).toList = l := by rw [ByteArray.toList_eq]; rfl
theorem strB_data (l : List UInt8) : (strB l).data.toList = l := rfl
theorem strB_size (l : List UInt8) : (strB l).size = l.length := by simp [strB, ByteArray.size]
theorem strB_size' (l : List UInt8) : (⟨l.toArray⟩ : ByteArray).size = l.length := strB_size l
theorem w64' (n : Int) (h : -9223372036854775808 ≤ n ∧ n ≤ 9223372036854775807) : wrap64 n = n := (IntWalk.i64_left n).symm.trans (IntWalk.i64_in n h)
theorem strB_of (s : ByteArray) : strB s.data.toList = s := rfl
theorem isEmpty_of {l : List UInt8} (h : l = []) : l.isEmpty = true := by simp [h]
theorem isEmpty_no {l : List UInt8} (h : l ≠ []) : l.isEmpty = false := by simp [h]
theorem strB_head (c : UInt8) (s : List UInt8) (h : 0 < (strB (c :: s)).size) : (strB (c :: s))[0]'h = c := rfl
theorem strB_cons_size (c : UInt8) (s : List UInt8) : (strB (c :: s)).size = s.length + 1 := by rw [strB_size]; simp
theorem strB_ne (c : UInt8) (s : List UInt8) : (strB (c :: s)).toList.isEmpty = false := by rw [strB_toList]; rfl
/-- a string cut at its front -/
theorem strB_drop (l : List UInt8) (k n : Nat) (hn : n = l.length) : (strB l).extract k n = strB (l.drop k) := by
  subst hn
  rw [strB, Lib.extract_mk]
  have e : ((l.drop k).take (l.length - k)) = l.drop k := List.take_of_length_le (by simp)
  rw [e]; rfl
/-- a byte of a string -/
theorem strB_at {l : List UInt8} {k : Nat} {c : UInt8} (h : l[k]? = some c) (hk : k < (strB l).size) : (strB l)[k]'hk = c := by
  have h2 : l[k]? = some (l[k]'(by rw [strB_size] at hk; exact hk)) := List.getElem?_eq_getElem _
  exact Option.some.inj (h2.symm.trans h)
/-- how a text begins, as the walk asks -/
theorem strB_beq (l m : List UInt8) : ((strB l).toList == m) = decide (l = m) := by
  rw [strB_toList, Bool.eq_iff_iff]
  simp

end Go.Proofs.YtlhiadnolckoeaaGreatDoor
end

section
namespace Go.Proofs.YtlhiadnolckoeaaGreatDoor
open Go.RowKit

set_option maxHeartbeats 400000 in
theorem in_any (c a b : Int) (w : World) : Calls Tryz.prog 59 #[.int .u8 c, .int .u8 a, .int .u8 b] w fun e w' => e = .returned (.bool (decide (a ≤ c) && decide (c ≤ b))) ∧ w = w' := by
  by_cases h1 : a ≤ c
  · by_cases h2 : c ≤ b
    · rw [show (decide (a ≤ c) && decide (c ≤ b)) = true by simp [h1, h2]]
      go_enter Tryz.func59, Tryz.ntmps59
      go_wp2
      go_returns
      exact ⟨rfl, rfl⟩
    · rw [show (decide (a ≤ c) && decide (c ≤ b)) = false by simp [h2]]
      go_enter Tryz.func59, Tryz.ntmps59
      go_wp2
      go_returns
      exact ⟨rfl, rfl⟩
  · rw [show (decide (a ≤ c) && decide (c ≤ b)) = false by simp [h1]]
    go_enter Tryz.func59, Tryz.ntmps59
    go_wp2
    go_returns
    exact ⟨rfl, rfl⟩
theorem in_is {c a b : Int} {v : Bool} (h : (decide (a ≤ c) && decide (c ≤ b)) = v) (w : World) : Calls Tryz.prog 59 #[.int .u8 c, .int .u8 a, .int .u8 b] w fun e w' => e = .returned (.bool v) ∧ w = w' := h ▸ in_any c a b w

set_option maxRecDepth 100000 in
set_option maxHeartbeats 1000000 in
theorem sign_other (c : UInt8) (t : List UInt8) (h : c ≠ 92) (hl : t.length < 1000000000) (w : World) :
    Calls Tryz.prog 29 #[.string (strB (c :: t))] w fun e w' => e = .returned (.tuple #[.int .u8 c.toNat, .string (strB t)]) ∧ ∃ k, w' = w.drewN k := by
  have hh := strB_head c t
  have hsz := strB_cons_size c t
  have htl : (strB (c :: t)).extract 1 (t.length + 1) = strB t := strB_drop (c :: t) 1 (t.length + 1) (by simp)
  have hne : ((c.toNat : Int) != 92) = true := by
    simp only [bne_iff_ne, ne_eq]
    exact fun e => h (UInt8.toNat_inj.1 (by show _ = 92; omega))
  obtain ⟨S, hS⟩ : ∃ S, strB (c :: t) = S := ⟨_, rfl⟩
  simp only [hS] at hh hsz htl ⊢
  clear h
  go_enter Tryz.func29, Tryz.ntmps29
  go_wp2_with fail
  go_quiet (fail)
  go_wp2_with fail
  go_returns
  exact ⟨rfl, _, rfl⟩

set_option maxRecDepth 100000 in
set_option maxHeartbeats 1000000 in
theorem sign_last (w : World) :
    Calls Tryz.prog 29 #[.string (strB [92])] w fun e w' => e = .returned (.tuple #[.int .u8 (92 : UInt8).toNat, .string (strB [])]) ∧ ∃ k, w' = w.drewN k := by
  have hh := strB_head 92 []
  have hsz := strB_cons_size 92 []
  have htl : (strB [92]).extract 1 (0 + 1) = strB [] := strB_drop [92] 1 1 (by simp)
  obtain ⟨S, hS⟩ : ∃ S, strB [92] = S := ⟨_, rfl⟩
  simp only [hS] at hh hsz htl ⊢
  go_enter Tryz.func29, Tryz.ntmps29
  go_wp2_with fail
  go_quiet (fail)
  go_wp2_with fail
  go_returns
  exact ⟨rfl, _, rfl⟩

end Go.Proofs.YtlhiadnolckoeaaGreatDoor
end

section
namespace Go.Proofs.YtlhiadnolckoeaaGreatDoor
open Go.RowKit

namespace Pl
theorem octs_prefix (t : List UInt8) : octs t = t.take (octs t).length := by
  have h1 : octs t <+: t := List.IsPrefix.trans (List.takeWhile_prefix _) (List.take_prefix 3 t)
  exact (List.prefix_iff_eq_take.1 h1)
theorem octs_at (t : List UInt8) (j : Nat) (h : j < (octs t).length) : ∃ d, t[j]? = some d ∧ isDig 8 d = true := by
  obtain ⟨d, hd⟩ : ∃ d, (octs t)[j]? = some d := ⟨_, List.getElem?_eq_getElem h⟩
  refine ⟨d, ?_, ?_⟩
  · rw [octs_prefix, List.getElem?_take, if_pos h] at hd
    exact hd
  · have hm : d ∈ (t.take 3).takeWhile (isDig 8) := List.mem_of_getElem? hd
    have := List.all_takeWhile (p := isDig 8) (l := t.take 3)
    exact List.all_eq_true.1 this d hm
theorem takeWhile_stop {p : UInt8 → Bool} (l : List UInt8) (h : (l.takeWhile p).length < l.length) : ∃ d, l[(l.takeWhile p).length]? = some d ∧ p d = false := by
  induction l with
  | nil => cases h
  | cons c l ih =>
    cases hc : p c with
    | true =>
      rw [List.takeWhile_cons_of_pos hc] at h ⊢
      simpa using ih (by simpa using h)
    | false =>
      rw [List.takeWhile_cons_of_neg (by simp [hc])]
      exact ⟨c, rfl, hc⟩
theorem octs_stop (t : List UInt8) (h3 : (octs t).length < 3) (hl : (octs t).length < t.length) : ∃ d, t[(octs t).length]? = some d ∧ isDig 8 d = false := by
  obtain ⟨d, h1, h2⟩ := takeWhile_stop (p := isDig 8) (t.take 3) (by unfold octs at h3 hl; rw [List.length_take]; omega)
  refine ⟨d, ?_, h2⟩
  have e : (octs t).length = ((t.take 3).takeWhile (isDig 8)).length := rfl
  rw [← e, List.getElem?_take, if_pos h3] at h1
  exact h1
theorem val_lt8 : ∀ (l : List UInt8), (∀ c ∈ l, isDig 8 c = true) → val 8 l < 8 ^ l.length := by
  intro l h
  have : ∀ (l : List UInt8) (n : Nat), (∀ c ∈ l, isDig 8 c = true) → l.foldl (fun n c => n * 8 + (c.toNat - 48)) n < (n + 1) * 8 ^ l.length := by
    intro l
    induction l with
    | nil => intro n _; simp
    | cons c l ih =>
      intro n h
      have hc := of_decide_eq_true (h c (by simp))
      rw [List.foldl_cons]
      refine Nat.lt_of_lt_of_le (ih _ (fun x hx => h x (by simp [hx]))) ?_
      rw [List.length_cons, Nat.pow_succ, Nat.mul_comm (8 ^ l.length) 8, ← Nat.mul_assoc]
      exact Nat.mul_le_mul_right _ (by omega)
  have := this l 0 h
  simpa [val] using this
theorem octs_val (t : List UInt8) (k : Nat) (hk : k ≤ (octs t).length) : val 8 (t.take k) < 8 ^ k := by
  have h1 := octs_le t
  have h := val_lt8 (t.take k) (fun c hc => by
    obtain ⟨j, hj⟩ := List.getElem?_of_mem hc
    rw [List.getElem?_take] at hj
    split at hj
    · obtain ⟨d, h1, h2⟩ := octs_at t j (by omega)
      rw [h1] at hj
      cases hj
      exact h2
    · cases hj)
  rwa [List.length_take, Nat.min_eq_left (by omega)] at h
end Pl

theorem or_eight (V D : Nat) (hV : V < 64) (hD : D < 8) : bits BinOp.or IntKind.i64 ((V : Int) * 8) (D : Int) = (V : Int) * 8 + (D : Int) := by
  have h : (List.range 64).all (fun V => (List.range 8).all (fun D => bits BinOp.or IntKind.i64 ((V : Int) * 8) (D : Int) == (V : Int) * 8 + (D : Int))) = true := by decide +kernel
  have := List.all_eq_true.1 (List.all_eq_true.1 h V (List.mem_range.2 hV)) D (List.mem_range.2 hD)
  simpa using this

set_option maxRecDepth 100000 in
set_option maxHeartbeats 1000000 in
theorem sign_oct (t : List UInt8) (h : Pl.octs t ≠ []) (hl : t.length < 1000000000) (w : World) :
    Calls Tryz.prog 29 #[.string (strB (92 :: t))] w fun e w' => e = .returned (.tuple #[.int .u8 ((Pl.val 8 (Pl.octs t) % 256 : Nat) : Int), .string (strB (t.drop (Pl.octs t).length))]) ∧ ∃ k, w' = w.drewN k := by
  obtain ⟨S, hS, hh, hsz, htl⟩ : ∃ S, strB (92 :: t) = S ∧ (∀ h : 0 < S.size, S[0]'h = 92) ∧ S.size = t.length + 1 ∧ S.extract 1 (t.length + 1) = strB t :=
    ⟨_, rfl, strB_head 92 t, strB_cons_size 92 t, strB_drop (92 :: t) 1 (t.length + 1) (by simp)⟩
  rw [hS]
  have hmle := Pl.octs_le t
  have hm0 : 0 < (Pl.octs t).length := List.length_pos_iff.2 h
  have hat := Pl.octs_at t
  have hst := Pl.octs_stop t
  have hvl := Pl.octs_val t
  have hvm : Pl.val 8 (Pl.octs t) = Pl.val 8 (t.take (Pl.octs t).length) := by rw [← Pl.octs_prefix]
  rw [hvm]
  obtain ⟨m, hm⟩ : ∃ m, (Pl.octs t).length = m := ⟨_, rfl⟩
  rw [hm] at hmle hm0 hat hst hvl ⊢
  have hdr : (strB t).extract m t.length = strB (t.drop m) := strB_drop t m t.length rfl
  have hTs := strB_size t
  obtain ⟨T, hT, hTa⟩ : ∃ T, strB t = T ∧ ∀ k d, t[k]? = some d → ∀ hk : k < T.size, T[k]'hk = d := ⟨_, rfl, fun k d e hk => strB_at e hk⟩
  simp only [hT] at htl hdr hTs
  obtain ⟨n, hn⟩ : ∃ n, t.length = n := ⟨_, rfl⟩
  rw [hn] at hsz hl hmle hst htl hdr hTs
  have HAT := Lib.hid hat
  have HST := Lib.hid hst
  have HVL := Lib.hid hvl
  obtain ⟨Vm, hVm⟩ : ∃ Vm, Pl.val 8 (t.take m) = Vm := ⟨_, rfl⟩
  rw [hVm]
  have HVm := Lib.hid hVm
  clear h hat hst hvl hvm hS hm hT hVm
  have hne1 : ((n : Int) + 1 == 1) = false := by simp; omega
  go_enter Tryz.func29, Tryz.ntmps29
  go_wp2_with fail
  go_loopw [4, 5] (fun nv kv wr => ∃ k V : Nat, k ≤ m ∧ nv = .int .i64 V ∧ kv = .int .i64 k ∧ Hid (V = Pl.val 8 (t.take k)) ∧ w = wr) (fun _ kv _ => m - (intOf kv).toNat)
  case atStart => exact ⟨0, 0, by omega, rfl, rfl, Lib.hid rfl, rfl⟩
  case round =>
    obtain ⟨k, V, hk, rfl, rfl, hV, rfl⟩ := hrel
    by_cases hlt : k < m
    · obtain ⟨d, hd, h8⟩ := HAT.out k hlt
      have hTk := hTa k d hd
      have h48 := of_decide_eq_true h8
      obtain ⟨D, hD⟩ : ∃ D : Nat, d.toNat = D + 48 := ⟨d.toNat - 48, by omega⟩
      have hV' : Hid (V * 8 + D = Pl.val 8 (t.take (k + 1))) := Lib.hid (by rw [Pl.val_take hd, ← hV.out, hD]; omega)
      have hVb : V < 64 := by
        have h1 := HVL.out k (by omega)
        have h2 : 8 ^ k ≤ 8 ^ 2 := Nat.pow_le_pow_right (by omega) (by omega)
        have h3 := hV.out
        omega
      have hin : ∀ W, Calls Tryz.prog 59 #[.int .u8 ((D + 48 : Nat) : Int), .int .u8 48, .int .u8 55] W fun e w' => e = .returned (.bool true) ∧ W = w' := fun W => in_is (by simp; omega) W
      rw [hD] at h48
      have hor := or_eight V D hVb (by omega)
      clear h8 hd
      go_wp2_with (go_at_call 59; refine (hin _).mono ?_; rintro e w1 ⟨rfl, rfl⟩)
      go_roundw
      case rel => exact ⟨k + 1, V * 8 + D, by omega, by go_num, by go_num, hV', trivial⟩
      case measure => simp [intOf]; omega
    · obtain rfl : k = m := by omega
      obtain rfl : V = Vm := hV.out.trans HVm.out
      by_cases h3 : k = 3
      · subst h3
        go_wp2_with fail
        go_quiet (fail)
        go_wp2_with fail
        go_returns
        exact ⟨by simp, _, rfl⟩
      by_cases hkn : k = n
      · subst hkn
        go_wp2_with fail
        go_quiet (fail)
        go_wp2_with fail
        go_returns
        exact ⟨by rw [show t.drop k = [] from List.drop_eq_nil_of_le (by omega)]; simp [strB]; rfl, _, rfl⟩
      obtain ⟨d, hd, h8⟩ := HST.out (by omega) (by omega)
      have hTk := hTa k d hd
      have hin : ∀ W, Calls Tryz.prog 59 #[.int .u8 (d.toNat : Int), .int .u8 48, .int .u8 55] W fun e w' => e = .returned (.bool false) ∧ W = w' := fun W => in_is (by
        have := of_decide_eq_false h8
        simp
        omega) W
      clear h8 hd
      go_wp2_with (go_at_call 59; refine (hin _).mono ?_; rintro e w1 ⟨rfl, rfl⟩)
      go_quiet (fail)
      go_wp2_with fail
      go_returns
      exact ⟨by simp, _, rfl⟩

end Go.Proofs.YtlhiadnolckoeaaGreatDoor
end

section
namespace Go.Proofs.YtlhiadnolckoeaaGreatDoor
open Go.RowKit

namespace Pl
def escL : List UInt8 := [97, 98, 102, 110, 114, 116, 118]
def escV : List UInt8 := [7, 8, 12, 10, 13, 9, 11]
theorem esc_all (c : UInt8) : (escB c = none ∧ Lib.indexByte escL c = -1) ∨ ∃ i d, i < 7 ∧ escB c = some d ∧ Lib.indexByte escL c = (i : Nat) ∧ escV[i]? = some d := by
  have h : (List.range 256).all (fun n => (escB (UInt8.ofNat n) == none && Lib.indexByte escL (UInt8.ofNat n) == -1) || (List.range 7).any (fun i => escB (UInt8.ofNat n) == escV[i]? && Lib.indexByte escL (UInt8.ofNat n) == (i : Int))) = true := by decide +kernel
  have h1 := List.all_eq_true.1 h c.toNat (List.mem_range.2 c.toNat_lt)
  rw [show UInt8.ofNat c.toNat = c from UInt8.ofNat_toNat] at h1
  rw [Bool.or_eq_true] at h1
  rcases h1 with h2 | h2
  · exact .inl (by simpa using h2)
  · obtain ⟨i, hi, h3⟩ := List.any_eq_true.1 h2
    have hi' := List.mem_range.1 hi
    obtain ⟨d, hd⟩ : ∃ d, escV[i]? = some d := ⟨_, List.getElem?_eq_getElem (by simpa [escV] using hi')⟩
    rw [hd] at h3
    simp only [Bool.and_eq_true, beq_iff_eq] at h3
    exact .inr ⟨i, d, hi', h3.1, h3.2, hd⟩
theorem octs_nil {d : UInt8} {r : List UInt8} (h : octs (d :: r) = []) : isDig 8 d = false := by
  unfold octs at h
  cases hd : isDig 8 d with
  | false => rfl
  | true => rw [List.take_succ_cons, List.takeWhile_cons_of_pos hd] at h; cases h
end Pl

set_option maxRecDepth 100000 in
set_option maxHeartbeats 1000000 in
theorem sign_esc (c : UInt8) (r : List UInt8) (h : Pl.octs (c :: r) = []) (hl : r.length < 1000000000) (w : World) :
    Calls Tryz.prog 29 #[.string (strB (92 :: c :: r))] w fun e w' => e = .returned (.tuple #[.int .u8 ((Pl.escB c).getD c).toNat, .string (strB r)]) ∧ ∃ k, w' = w.drewN k := by
  obtain ⟨n, hn⟩ : ∃ n, r.length = n := ⟨_, rfl⟩
  obtain ⟨S, hS, hh, hsz, htl⟩ : ∃ S, strB (92 :: c :: r) = S ∧ (∀ h : 0 < S.size, S[0]'h = 92) ∧ S.size = n + 1 + 1 ∧ S.extract 1 (n + 1 + 1) = strB (c :: r) :=
    ⟨_, rfl, strB_head 92 (c :: r), by rw [strB_cons_size, List.length_cons, hn], strB_drop (92 :: c :: r) 1 (n + 1 + 1) (by simp [hn])⟩
  obtain ⟨T, hT, hTh, hTs, hTr⟩ : ∃ T, strB (c :: r) = T ∧ (∀ h : 0 < T.size, T[0]'h = c) ∧ T.size = n + 1 ∧ T.extract 1 (n + 1) = strB r :=
    ⟨_, rfl, strB_head c r, by rw [strB_cons_size, hn], strB_drop (c :: r) 1 (n + 1) (by simp [hn])⟩
  rw [hS]
  rw [hT] at htl
  have hin : ∀ W, Calls Tryz.prog 59 #[.int .u8 (c.toNat : Int), .int .u8 48, .int .u8 55] W fun e w' => e = .returned (.bool false) ∧ W = w' := fun W => in_is (by
    have := of_decide_eq_false (Pl.octs_nil h)
    simp
    omega) W
  have hidx := fun W => Tryz.strings_IndexByte ⟨#[97, 98, 102, 110, 114, 116, 118]⟩ (c.toNat : Int) W
  have hcb : (c.toNat : Int).toNat.toUInt8 = c := by simp
  have hne1 : ((n : Int) + 1 + 1 == 1) = false := by simp; omega
  rw [hcb] at hidx
  rcases Pl.esc_all c with ⟨he, hix⟩ | ⟨i, d, hi, he, hix, hv⟩
  · have hix' : Lib.indexByte (⟨#[97, 98, 102, 110, 114, 116, 118]⟩ : ByteArray).data.toList c = -1 := hix
    rw [hix'] at hidx
    rw [he]
    simp only [Option.getD_none]
    clear h hS hT hn hcb hix hix' he
    go_enter Tryz.func29, Tryz.ntmps29
    go_wp2_with fail
    refine wp_loop_rounds 1 ?_
    rw [rounds_succ]
    go_wp2_with (first
      | (go_at_call 59; refine (hin _).mono ?_; rintro e w1 ⟨rfl, rfl⟩)
      | (go_at_call 64; refine (hidx _).mono ?_; rintro e w1 ⟨rfl, rfl⟩))
    go_quiet (fail)
    go_wp2_with fail
    go_returns
    exact ⟨rfl, _, rfl⟩
  · have hix' : Lib.indexByte (⟨#[97, 98, 102, 110, 114, 116, 118]⟩ : ByteArray).data.toList c = (i : Nat) := hix
    rw [hix'] at hidx
    rw [he]
    simp only [Option.getD_some]
    obtain ⟨E, hE, hEs, hEi⟩ : ∃ E : ByteArray, (⟨#[7, 8, 12, 10, 13, 9, 11]⟩ : ByteArray) = E ∧ E.size = 7 ∧ ∀ h : i < E.size, E[i]'h = d := ⟨_, rfl, rfl, fun h => by
      have h2 : Pl.escV[i]? = some ((⟨#[7, 8, 12, 10, 13, 9, 11]⟩ : ByteArray)[i]'h) := by
        rw [List.getElem?_eq_getElem (by simpa [Pl.escV] using hi)]
        rfl
      exact Option.some.inj (h2.symm.trans hv)⟩
    clear h hS hT hn hcb hix hix' he
    go_enter Tryz.func29, Tryz.ntmps29
    go_wp2_with fail
    refine wp_loop_rounds 1 ?_
    rw [rounds_succ]
    go_wp2_with (first
      | (go_at_call 59; refine (hin _).mono ?_; rintro e w1 ⟨rfl, rfl⟩)
      | (go_at_call 64; refine (hidx _).mono ?_; rintro e w1 ⟨rfl, rfl⟩))
    simp only [hE]
    go_quiet (fail)
    go_wp2_with fail
    go_returns
    exact ⟨rfl, _, rfl⟩

/-- trans.sign: the byte that a text begins with, and what stands behind it -/
theorem sign_any (s : List UInt8) (hs : s ≠ []) (hl : s.length < 1000000000) (w : World) :
    Calls Tryz.prog 29 #[.string (strB s)] w fun e w' => e = .returned (.tuple #[.int .u8 (Pl.signC s).toNat, .string (strB (s.drop (Pl.signN s)))]) ∧ ∃ k, w' = w.drewN k := by
  cases s with
  | nil => exact absurd rfl hs
  | cons c t =>
    simp only [List.length_cons] at hl
    by_cases hc : c = 92
    · subst hc
      by_cases ht : t = []
      · subst ht
        exact sign_last w
      · have hcond : ¬ ((92 : UInt8) ≠ 92 ∨ t = []) := by simp [ht]
        by_cases ho : Pl.octs t = []
        · cases t with
          | nil => exact absurd rfl ht
          | cons d r =>
            have e1 : Pl.signC (92 :: d :: r) = (Pl.escB d).getD d := by
              show (if (92 : UInt8) ≠ 92 ∨ d :: r = [] then (92 : UInt8) else if Pl.octs (d :: r) ≠ [] then UInt8.ofNat (Pl.val 8 (Pl.octs (d :: r))) else (Pl.escB d).getD d) = _
              rw [if_neg hcond, if_neg (by simpa using ho)]
            have e2 : Pl.signN (92 :: d :: r) = 2 := by rw [Pl.signN_cons, if_neg hcond, if_neg (by simpa using ho)]
            rw [e1, e2]
            simp only [List.length_cons] at hl
            exact sign_esc d r ho (by omega) w
        · have e1 : (Pl.signC (92 :: t)).toNat = Pl.val 8 (Pl.octs t) % 256 := by
            show (if (92 : UInt8) ≠ 92 ∨ t = [] then (92 : UInt8) else if Pl.octs t ≠ [] then UInt8.ofNat (Pl.val 8 (Pl.octs t)) else (Pl.escB (t.headD 0)).getD (t.headD 0)).toNat = _
            rw [if_neg hcond, if_pos ho, UInt8.toNat_ofNat']
          have e2 : Pl.signN (92 :: t) = (Pl.octs t).length + 1 := by rw [Pl.signN_cons, if_neg hcond, if_pos ho]
          rw [e1, e2, List.drop_succ_cons]
          exact sign_oct t ho (by omega) w
    · have hcond : c ≠ 92 ∨ t = [] := .inl hc
      have e1 : Pl.signC (c :: t) = c := if_pos hcond
      have e2 : Pl.signN (c :: t) = 1 := if_pos hcond
      rw [e1, e2]
      exact sign_other c t hc (by omega) w

end Go.Proofs.YtlhiadnolckoeaaGreatDoor
end

section
namespace Go.Proofs.YtlhiadnolckoeaaGreatDoor

namespace Pl
theorem occ2 (t : List UInt8) (a b : UInt8) (j : Nat) : Lib.occAt t [a, b] j = (t[j]? == some a && t[j + 1]? == some b) := by
  unfold Lib.occAt
  have h : t.drop j = match t[j]? with
      | none => []
      | some x => x :: t.drop (j + 1) := by
    cases hj : t[j]? with
    | none => exact List.drop_eq_nil_of_le (List.getElem?_eq_none_iff.1 hj)
    | some x =>
      obtain ⟨h1, h2⟩ := List.getElem?_eq_some_iff.1 hj
      rw [List.drop_eq_getElem_cons h1, h2]
  have h' : t.drop (j + 1) = match t[j + 1]? with
      | none => []
      | some x => x :: t.drop (j + 1 + 1) := by
    cases hj : t[j + 1]? with
    | none => exact List.drop_eq_nil_of_le (List.getElem?_eq_none_iff.1 hj)
    | some x =>
      obtain ⟨h1, h2⟩ := List.getElem?_eq_some_iff.1 hj
      rw [List.drop_eq_getElem_cons h1, h2]
  rw [h]
  cases h0 : t[j]? with
  | none => rfl
  | some x =>
    simp only [h']
    cases h1 : t[j + 1]? with
    | none => simp [List.isPrefixOf]
    | some y =>
      simp only [List.isPrefixOf, Bool.and_true]
      rw [Bool.eq_iff_iff]
      simp only [Bool.and_eq_true, beq_iff_eq, Option.some.injEq]
      exact ⟨fun ⟨p, q⟩ => ⟨p.symm, q.symm⟩, fun ⟨p, q⟩ => ⟨p.symm, q.symm⟩⟩
theorem hasPrefix2 (s : List UInt8) (a b : UInt8) : Lib.hasPrefix s [a, b] = (s[0]? == some a && s[1]? == some b) := occ2 s a b 0
theorem hasPrefix1 (s : List UInt8) (a : UInt8) : Lib.hasPrefix s [a] = (s[0]? == some a) := by
  cases s with
  | nil => rfl
  | cons x s =>
    simp only [Lib.hasPrefix, List.isPrefixOf, Bool.and_true, List.getElem?_cons_zero]
    rw [Bool.eq_iff_iff]
    simp only [beq_iff_eq, Option.some.injEq]
    exact ⟨Eq.symm, Eq.symm⟩
/-- a cut that hits -/
theorem cut_hit {t : List UInt8} {a b : UInt8} {k : Nat} (hk : k ≤ t.length) (h : Lib.occAt t [a, b] k = true) (hn : ∀ j, j < k → Lib.occAt t [a, b] j = false) : Lib.cut t [a, b] = (t.take k, t.drop (k + 2), true) := by
  have hi : Lib.index t [a, b] = k := Lib.index_first hk h hn
  unfold Lib.cut
  rw [hi, if_pos (by omega)]
  simp
theorem cut_miss {t : List UInt8} {a b : UInt8} (h : ∀ j, j ≤ t.length → Lib.occAt t [a, b] j = false) : Lib.cut t [a, b] = (t, [], false) := by
  have hi : Lib.index t [a, b] = -1 := Lib.index_none h
  unfold Lib.cut
  rw [hi, if_neg (by omega)]
/-- a class by its name -/
theorem classOf_eq (n : List UInt8) : classOf n =
    if n = [97, 108, 112, 104, 97] then some alphaB else if n = [100, 105, 103, 105, 116] then some digitB else if n = [97, 108, 110, 117, 109] then some alnumB else if n = [117, 112, 112, 101, 114] then some upperB
    else if n = [108, 111, 119, 101, 114] then some lowerB else if n = [103, 114, 97, 112, 104] then some graphB else if n = [98, 108, 97, 110, 107] then some blankB else if n = [115, 112, 97, 99, 101] then some spaceB
    else if n = [99, 110, 116, 114, 108] then some cntrlB else if n = [112, 114, 105, 110, 116] then some printB else if n = [112, 117, 110, 99, 116] then some punctB else if n = [120, 100, 105, 103, 105, 116] then some xdigitB else none := by
  unfold classOf classTab
  simp only [List.find?_cons, List.find?_nil]
  have e : ∀ m : List UInt8, (m == n) = decide (n = m) := by
    intro m
    rw [Bool.eq_iff_iff]
    simp only [beq_iff_eq, decide_eq_true_eq]
    exact eq_comm
  simp only [e]
  repeat' (split; all_goals (first | (rename_i h; simp only [decide_eq_true_eq] at h; simp [h]; done) | skip))
  all_goals simp_all
end Pl

end Go.Proofs.YtlhiadnolckoeaaGreatDoor
end

section
namespace Go.Proofs.YtlhiadnolckoeaaGreatDoor
open Go.RowKit Go.Maps

/-- a function that tells which bytes are of a class -/
def IsClass (id : FuncId) (f : UInt8 → Bool) : Prop := ∀ (c : UInt8) (w : World), Calls Tryz.prog id #[.int .u8 (c.toNat : Int)] w fun e w' => e = .returned (.bool (f c)) ∧ w = w'
theorem in_b (c a b : UInt8) (A B : Int) (hA : (a.toNat : Int) = A) (hB : (b.toNat : Int) = B) (w : World) : Calls Tryz.prog 59 #[.int .u8 (c.toNat : Int), .int .u8 A, .int .u8 B] w fun e w' => e = .returned (.bool (Pl.between c a b)) ∧ w = w' := by
  refine in_is ?_ w
  unfold Pl.between
  rw [← hA, ← hB]
  congr 1 <;> exact decide_eq_decide.2 (by omega)

theorem cls_upper : IsClass 54 Pl.upperB := by
  intro c w
  have hin := in_b c 65 90 65 90 rfl rfl
  go_enter Tryz.func54, Tryz.ntmps54
  go_wp2_with (go_at_call 59; refine (hin _).mono ?_; rintro e w1 ⟨rfl, rfl⟩)
  go_returns
  exact ⟨rfl, rfl⟩

theorem cls_lower : IsClass 55 Pl.lowerB := by
  intro c w
  have hin := in_b c 97 122 97 122 rfl rfl
  go_enter Tryz.func55, Tryz.ntmps55
  go_wp2_with (go_at_call 59; refine (hin _).mono ?_; rintro e w1 ⟨rfl, rfl⟩)
  go_returns
  exact ⟨rfl, rfl⟩

theorem cls_digit : IsClass 52 Pl.digitB := by
  intro c w
  have hin := in_b c 48 57 48 57 rfl rfl
  go_enter Tryz.func52, Tryz.ntmps52
  go_wp2_with (go_at_call 59; refine (hin _).mono ?_; rintro e w1 ⟨rfl, rfl⟩)
  go_returns
  exact ⟨rfl, rfl⟩

theorem cls_graph : IsClass 56 Pl.graphB := by
  intro c w
  have hin := in_b c 33 126 33 126 rfl rfl
  go_enter Tryz.func56, Tryz.ntmps56
  go_wp2_with (go_at_call 59; refine (hin _).mono ?_; rintro e w1 ⟨rfl, rfl⟩)
  go_returns
  exact ⟨rfl, rfl⟩

theorem cls_print : IsClass 61 Pl.printB := by
  intro c w
  have hin := in_b c 32 126 32 126 rfl rfl
  go_enter Tryz.func61, Tryz.ntmps61
  go_wp2_with (go_at_call 59; refine (hin _).mono ?_; rintro e w1 ⟨rfl, rfl⟩)
  go_returns
  exact ⟨rfl, rfl⟩

theorem cls_alpha : IsClass 51 Pl.alphaB := by
  intro c w
  have h1 := cls_upper c
  have h2 := cls_lower c
  rw [show Pl.alphaB c = (Pl.upperB c || Pl.lowerB c) from rfl]
  generalize Pl.upperB c = A at h1 ⊢
  generalize Pl.lowerB c = B at h2 ⊢
  cases A
  · cases B
    all_goals
      go_enter Tryz.func51, Tryz.ntmps51
      go_wp2_with (first
        | (go_at_call 54; refine (h1 _).mono ?_; rintro e w1 ⟨rfl, rfl⟩)
        | (go_at_call 55; refine (h2 _).mono ?_; rintro e w1 ⟨rfl, rfl⟩))
      go_returns
      exact ⟨rfl, rfl⟩
  · cases B
    all_goals
      go_enter Tryz.func51, Tryz.ntmps51
      go_wp2_with (first
        | (go_at_call 54; refine (h1 _).mono ?_; rintro e w1 ⟨rfl, rfl⟩)
        | (go_at_call 55; refine (h2 _).mono ?_; rintro e w1 ⟨rfl, rfl⟩))
      go_returns
      exact ⟨rfl, rfl⟩

theorem cls_alnum : IsClass 53 Pl.alnumB := by
  intro c w
  have h1 := cls_alpha c
  have h2 := cls_digit c
  rw [show Pl.alnumB c = (Pl.alphaB c || Pl.digitB c) from rfl]
  generalize Pl.alphaB c = A at h1 ⊢
  generalize Pl.digitB c = B at h2 ⊢
  cases A
  · cases B
    all_goals
      go_enter Tryz.func53, Tryz.ntmps53
      go_wp2_with (first
        | (go_at_call 51; refine (h1 _).mono ?_; rintro e w1 ⟨rfl, rfl⟩)
        | (go_at_call 52; refine (h2 _).mono ?_; rintro e w1 ⟨rfl, rfl⟩))
      go_returns
      exact ⟨rfl, rfl⟩
  · cases B
    all_goals
      go_enter Tryz.func53, Tryz.ntmps53
      go_wp2_with (first
        | (go_at_call 51; refine (h1 _).mono ?_; rintro e w1 ⟨rfl, rfl⟩)
        | (go_at_call 52; refine (h2 _).mono ?_; rintro e w1 ⟨rfl, rfl⟩))
      go_returns
      exact ⟨rfl, rfl⟩

theorem cls_punct : IsClass 62 Pl.punctB := by
  intro c w
  have h1 := cls_graph c
  have h2 := cls_alnum c
  rw [show Pl.punctB c = (Pl.graphB c && !Pl.alnumB c) from rfl]
  generalize Pl.graphB c = A at h1 ⊢
  generalize Pl.alnumB c = B at h2 ⊢
  cases A
  · cases B
    all_goals
      go_enter Tryz.func62, Tryz.ntmps62
      go_wp2_with (first
        | (go_at_call 56; refine (h1 _).mono ?_; rintro e w1 ⟨rfl, rfl⟩)
        | (go_at_call 53; refine (h2 _).mono ?_; rintro e w1 ⟨rfl, rfl⟩))
      go_returns
      exact ⟨rfl, rfl⟩
  · cases B
    all_goals
      go_enter Tryz.func62, Tryz.ntmps62
      go_wp2_with (first
        | (go_at_call 56; refine (h1 _).mono ?_; rintro e w1 ⟨rfl, rfl⟩)
        | (go_at_call 53; refine (h2 _).mono ?_; rintro e w1 ⟨rfl, rfl⟩))
      go_returns
      exact ⟨rfl, rfl⟩


theorem u8_eqb (c n : UInt8) (k : Int) (hk : (n.toNat : Int) = k) : ((c.toNat : Int) == k) = (c == n) := by
  subst hk
  rw [Bool.eq_iff_iff]
  simp only [beq_iff_eq]
  exact ⟨fun h => UInt8.toNat_inj.1 (by omega), fun h => by rw [h]⟩
theorem cls_blank : IsClass 57 Pl.blankB := by
  intro c w
  have h1 := u8_eqb c 32 32 rfl
  have h2 := u8_eqb c 9 9 rfl
  rw [show Pl.blankB c = (c == 32 || c == 9) from rfl]
  generalize (c == 32) = A at h1 ⊢
  generalize (c == 9) = B at h2 ⊢
  cases A
  · cases B
    all_goals
      go_enter Tryz.func57, Tryz.ntmps57
      go_wp2_with fail
      go_returns
      exact ⟨rfl, rfl⟩
  · cases B
    all_goals
      go_enter Tryz.func57, Tryz.ntmps57
      go_wp2_with fail
      go_returns
      exact ⟨rfl, rfl⟩
theorem cls_space : IsClass 58 Pl.spaceB := by
  intro c w
  have h1 := u8_eqb c 32 32 rfl
  have hin := in_b c 9 13 9 13 rfl rfl
  rw [show Pl.spaceB c = (c == 32 || Pl.between c 9 13) from rfl]
  generalize (c == 32) = A at h1 ⊢
  generalize Pl.between c 9 13 = B at hin ⊢
  cases A
  · cases B
    all_goals
      go_enter Tryz.func58, Tryz.ntmps58
      go_wp2_with (go_at_call 59; refine (hin _).mono ?_; rintro e w1 ⟨rfl, rfl⟩)
      go_returns
      exact ⟨rfl, rfl⟩
  · cases B
    all_goals
      go_enter Tryz.func58, Tryz.ntmps58
      go_wp2_with (go_at_call 59; refine (hin _).mono ?_; rintro e w1 ⟨rfl, rfl⟩)
      go_returns
      exact ⟨rfl, rfl⟩
theorem cls_cntrl : IsClass 60 Pl.cntrlB := by
  intro c w
  have h1 := u8_eqb c 127 127 rfl
  rw [show Pl.cntrlB c = (decide (c.toNat < 32) || c == 127) from rfl]
  generalize (c == 127) = A at h1 ⊢
  by_cases h : c.toNat < 32
  · rw [decide_eq_true h]
    have h' : (c.toNat : Int) < 32 := by omega
    go_enter Tryz.func60, Tryz.ntmps60
    go_wp2_with fail
    go_returns
    exact ⟨rfl, rfl⟩
  · rw [decide_eq_false h]
    have h' : ¬ ((c.toNat : Int) < 32) := by omega
    cases A
    all_goals
      go_enter Tryz.func60, Tryz.ntmps60
      go_wp2_with fail
      go_returns
      exact ⟨by simp, rfl⟩
theorem cls_xdigit : IsClass 63 Pl.xdigitB := by
  intro c w
  have h1 := cls_digit c
  have h2 := in_b c 97 102 97 102 rfl rfl
  have h3 := in_b c 65 70 65 70 rfl rfl
  rw [show Pl.xdigitB c = (Pl.digitB c || Pl.between c 97 102 || Pl.between c 65 70) from rfl]
  generalize Pl.digitB c = A at h1 ⊢
  generalize Pl.between c 97 102 = B at h2 ⊢
  generalize Pl.between c 65 70 = C at h3 ⊢
  cases A
  · cases B
    · cases C
      all_goals
        go_enter Tryz.func63, Tryz.ntmps63
        go_wp2_with (first
          | (go_at_call 52; refine (h1 _).mono ?_; rintro e w1 ⟨rfl, rfl⟩)
          | (go_at_call 59; with_reducible refine (h2 _).mono ?_; rintro e w1 ⟨rfl, rfl⟩)
          | (go_at_call 59; with_reducible refine (h3 _).mono ?_; rintro e w1 ⟨rfl, rfl⟩))
        go_returns
        exact ⟨rfl, rfl⟩
    · cases C
      all_goals
        go_enter Tryz.func63, Tryz.ntmps63
        go_wp2_with (first
          | (go_at_call 52; refine (h1 _).mono ?_; rintro e w1 ⟨rfl, rfl⟩)
          | (go_at_call 59; with_reducible refine (h2 _).mono ?_; rintro e w1 ⟨rfl, rfl⟩))
        go_returns
        exact ⟨rfl, rfl⟩
  · go_enter Tryz.func63, Tryz.ntmps63
    go_wp2_with (go_at_call 52; refine (h1 _).mono ?_; rintro e w1 ⟨rfl, rfl⟩)
    go_returns
    exact ⟨rfl, rfl⟩

end Go.Proofs.YtlhiadnolckoeaaGreatDoor
end

section
namespace Go.Proofs.YtlhiadnolckoeaaGreatDoor
open Go.RowKit Go.Maps

section
variable {P : Program} (w : World) {ops : Array Oper} {rest : List Oper} {o : Oper} {a : Act} {Q : Exit → Act → World → Prop}
/-- an entry of a map's literal -/
theorem wpList_insert_of (hg : o.guard = none) (m x v : Operand) (t : TypeId) (hop : o.op = Op.insert t m x v) (k e : TypeId) (K : Keyed P k) (ht : P.underlying t = some (.map k e)) (b n : Nat) (f : Lit → Option Value)
    (hm : a.eval m = .map (some b)) (h : MapOf w P k b n f) (hn : n < maxLen) (key val : Value) (kl : Lit) (hx : a.eval x = key) (hv : a.eval v = val) (hkey : keyOf P k key = some kl) (hkl : WideAt.IsKeyLit kl)
    (hK : ∀ w', MapOf w' P k b (n + 1) (upd f kl (some val)) → w.grownBy w' (some b) → wpList P ops Q rest (a.put o.dst undef) w') : wpList P ops Q (o :: rest) a w := by
  refine wpList_plain hg fun K' hK' => ?_
  obtain ⟨w', hrun, r1, r2⟩ := h.store K ht hn (val := val) hkey hkl
  unfold Oper.wp
  simp [execOp, hop, hm, hx, hv, hrun, Result.andThen]
  exact hK' _ _ (hK w' r1 r2)
end

/-- what stands for a class -/
def clsV (id : FuncId) : Value := .agg #[.func (.func id) #[] #[]]
/-- what a map of the classes tells of a name -/
def ClsIs (f : Lit → Option Value) : Prop := ∀ name : List UInt8, (Pl.classOf name = none ∧ f (.string name) = none) ∨
  ∃ g id, Pl.classOf name = some g ∧ f (.string name) = some (clsV id) ∧ IsClass id g ∧ ∀ args W, (callFunc id args).run Tryz.prog W = .ok (.enter id args) W

noncomputable def clsF : Lit → Option Value :=
  upd (upd (upd (upd (upd (upd (upd (upd (upd (upd (upd (upd (fun _ => none)
    (.string [97, 108, 112, 104, 97]) (some (clsV 51))) (.string [100, 105, 103, 105, 116]) (some (clsV 52))) (.string [97, 108, 110, 117, 109]) (some (clsV 53)))
    (.string [117, 112, 112, 101, 114]) (some (clsV 54))) (.string [108, 111, 119, 101, 114]) (some (clsV 55))) (.string [103, 114, 97, 112, 104]) (some (clsV 56)))
    (.string [98, 108, 97, 110, 107]) (some (clsV 57))) (.string [115, 112, 97, 99, 101]) (some (clsV 58))) (.string [99, 110, 116, 114, 108]) (some (clsV 60)))
    (.string [112, 114, 105, 110, 116]) (some (clsV 61))) (.string [112, 117, 110, 99, 116]) (some (clsV 62))) (.string [120, 100, 105, 103, 105, 116]) (some (clsV 63))

theorem lit_ne {a b : List UInt8} (h : a ≠ b) : Lit.string a ≠ Lit.string b := fun e => h (by injection e)
theorem clsF_is : ClsIs clsF := by
  intro name
  rw [Pl.classOf_eq]
  unfold clsF
  by_cases h1 : name = [97, 108, 112, 104, 97]
  · subst h1
    exact .inr ⟨_, 51, rfl, by simp [upd], cls_alpha, enters_of Tryz.func51 (by kernel_rfl) rfl⟩
  by_cases h2 : name = [100, 105, 103, 105, 116]
  · subst h2
    exact .inr ⟨_, 52, rfl, by simp [upd], cls_digit, enters_of Tryz.func52 (by kernel_rfl) rfl⟩
  by_cases h3 : name = [97, 108, 110, 117, 109]
  · subst h3
    exact .inr ⟨_, 53, rfl, by simp [upd], cls_alnum, enters_of Tryz.func53 (by kernel_rfl) rfl⟩
  by_cases h4 : name = [117, 112, 112, 101, 114]
  · subst h4
    exact .inr ⟨_, 54, rfl, by simp [upd], cls_upper, enters_of Tryz.func54 (by kernel_rfl) rfl⟩
  by_cases h5 : name = [108, 111, 119, 101, 114]
  · subst h5
    exact .inr ⟨_, 55, rfl, by simp [upd], cls_lower, enters_of Tryz.func55 (by kernel_rfl) rfl⟩
  by_cases h6 : name = [103, 114, 97, 112, 104]
  · subst h6
    exact .inr ⟨_, 56, rfl, by simp [upd], cls_graph, enters_of Tryz.func56 (by kernel_rfl) rfl⟩
  by_cases h7 : name = [98, 108, 97, 110, 107]
  · subst h7
    exact .inr ⟨_, 57, rfl, by simp [upd], cls_blank, enters_of Tryz.func57 (by kernel_rfl) rfl⟩
  by_cases h8 : name = [115, 112, 97, 99, 101]
  · subst h8
    exact .inr ⟨_, 58, rfl, by simp [upd], cls_space, enters_of Tryz.func58 (by kernel_rfl) rfl⟩
  by_cases h9 : name = [99, 110, 116, 114, 108]
  · subst h9
    exact .inr ⟨_, 60, rfl, by simp [upd], cls_cntrl, enters_of Tryz.func60 (by kernel_rfl) rfl⟩
  by_cases h10 : name = [112, 114, 105, 110, 116]
  · subst h10
    exact .inr ⟨_, 61, rfl, by simp [upd], cls_print, enters_of Tryz.func61 (by kernel_rfl) rfl⟩
  by_cases h11 : name = [112, 117, 110, 99, 116]
  · subst h11
    exact .inr ⟨_, 62, rfl, by simp [upd], cls_punct, enters_of Tryz.func62 (by kernel_rfl) rfl⟩
  by_cases h12 : name = [120, 100, 105, 103, 105, 116]
  · subst h12
    exact .inr ⟨_, 63, rfl, by simp [upd], cls_xdigit, enters_of Tryz.func63 (by kernel_rfl) rfl⟩
  refine .inl ⟨by simp [h1, h2, h3, h4, h5, h6, h7, h8, h9, h10, h11, h12], ?_⟩
  rw [upd_other _ _ (lit_ne h12), upd_other _ _ (lit_ne h11), upd_other _ _ (lit_ne h10), upd_other _ _ (lit_ne h9), upd_other _ _ (lit_ne h8), upd_other _ _ (lit_ne h7), upd_other _ _ (lit_ne h6), upd_other _ _ (lit_ne h5), upd_other _ _ (lit_ne h4),
    upd_other _ _ (lit_ne h3), upd_other _ _ (lit_ne h2), upd_other _ _ (lit_ne h1)]

theorem key_lit (l : List UInt8) (h : l.length ≤ maxLen) : keyOf Tryz.prog 9 (.string ⟨l.toArray⟩) = some (.string l) := keyOf_str ⟨l.toArray⟩ (by simpa [ByteArray.size] using h)

set_option maxRecDepth 100000 in
set_option maxHeartbeats 2000000 in
theorem classes_any (w : World) : Calls Tryz.prog 28 #[] w fun e w' => e = .returned (.map (some w.heap.size)) ∧ (∃ n, n ≤ 12 ∧ MapOf w' Tryz.prog 9 w.heap.size n clsF) ∧ Below w.heap.size w w' := by
  have hmm := @run_makeMap Tryz.prog
  obtain ⟨b, hb0⟩ : ∃ b, w.heap.size = b := ⟨_, rfl⟩
  obtain ⟨W, hW⟩ : ∃ W, w.alloc (.map #[] 0) = W := ⟨_, rfl⟩
  have hm : MapOf W Tryz.prog 9 b 0 (fun _ => none) := by rw [← hW, ← hb0]; exact MapOf.made w Tryz.prog 9
  have hb : Below b w W := by rw [← hW, ← hb0]; exact (Below.refl _ _).alloc (Nat.le_refl _) _
  have hbs : b ≤ W.heap.size := by rw [← hb0]; exact hb.size
  go_enter Tryz.func28, Tryz.ntmps28
  have hcls : ∀ W', MapOf W' Tryz.prog 9 b 12 clsF → MapOf W' Tryz.prog 9 b 12 clsF := fun _ h => h
  unfold clsF clsV at hcls
  go_wp2_with (
    refine wpList_insert_of _ rfl _ _ _ 77 rfl 9 75 stringKeys Tryz.underlying77 b _ _ rfl hm (by unfold maxLen; omega) _ _ _ rfl rfl (key_lit _ (by unfold maxLen; decide)) trivial ?_
    intro w2 hm2 hg2
    replace hb := hb.grown hg2 hbs (fun j hj => (by cases hj; exact Nat.le_refl _))
    replace hbs := Nat.le_trans hbs hg2.size
    replace hm := hm2
    clear hm2 hg2)
  go_returns
  exact ⟨by rw [hb0]; rfl, ⟨12, Nat.le_refl _, by rw [hb0]; exact hcls _ hm⟩, by rw [hb0]; exact hb⟩

end Go.Proofs.YtlhiadnolckoeaaGreatDoor
end

section
namespace Go.Proofs.YtlhiadnolckoeaaGreatDoor
open Go.RowKit Go.Maps

theorem own_low {w : World} {base base' : Nat} {e : TypeId} {size n : Nat} {v : Value} {xs : List Value} (h : w.ownsRow base e size v n xs) (hB : base' ≤ base) : w.ownsRow base' e size v n xs := by
  refine ⟨h.1, h.2.imp id ?_⟩
  rintro ⟨g, cap, cur, rfl, h1, h2, h3⟩
  exact ⟨g, cap, cur, rfl, Nat.le_trans hB h1, h2, h3⟩
/-- a set: its block below B, what it holds; its row lies at B or above -/
def SetAt (w : World) (B g : Nat) (x : Pl.TS) : Prop :=
  g < B ∧ ∃ v, Blk w g 48 #[v, .int .i64 x.rest, .bool x.bad] ∧ w.ownsRow B 5 1 v x.out.length (bytesC x.out)
section
variable {w w' : World} {B g : Nat} {x : Pl.TS}
theorem SetAt.below (h : SetAt w B g x) (hb : Below w.heap.size w w') : SetAt w' B g x := by
  obtain ⟨h1, v, h2, h3⟩ := h
  exact ⟨h1, v, h2.on hb, ownsRow_same h3 fun k hk => hb.block k (h3.lt k hk).2⟩
theorem SetAt.drewN (h : SetAt w B g x) (k : Nat) : SetAt (w.drewN k) B g x := h
theorem SetAt.lt (h : SetAt w B g x) : g < w.heap.size := by
  obtain ⟨_, v, h2, _⟩ := h
  exact h2.lt
end

theorem byteNew (w : World) (c : Value) : Reads (w.alloc (.cells #[c] 5)) (w.alloc (.cells #[c] 5)).heap.size 1 (some ⟨w.heap.size, 0, none⟩) 1 [c] := by
  refine ⟨rfl, fun _ => ⟨_, rfl, by simp, fun j u hu => ?_⟩⟩
  have e0 : (⟨w.heap.size, 0, none⟩ : Addr).add j = ⟨w.heap.size, j, none⟩ := by unfold Addr.add; split <;> simp_all
  rw [e0, (Blk.new w 5 #[c]).cell j, ← hu]
  cases j <;> simp
theorem bytesC_snoc (l : List UInt8) (c : UInt8) : bytesC l ++ [.int .u8 (c.toNat : Int)] = bytesC (l ++ [c]) := by rw [bytesC_append]; rfl

/-- a byte appended to a row of bytes -/
theorem wpList_push {ops : Array Oper} {rest : List Oper} {o : Oper} {a : Act} {Q : Exit → Act → World → Prop} (hgd : o.guard = none) (s y : Operand)
    (ho : o.op = .call { callee := .builtin .append, args := #[s, y], argTypes := #[23, 23] }) (w : World) (B : Nat) (v : Value) (n : Nat) (l : List UInt8) (c : UInt8) (hs : a.eval s = v) (hown : w.ownsRow B 5 1 v n (bytesC l)) (hn : n = l.length)
    (hy : a.eval y = .slice (some ⟨w.heap.size, 0, none⟩) 1 1) (hB : B ≤ w.heap.size) (hl : n + 1 ≤ 140737488355328)
    (h : ∀ A2 c2 w', w'.ownsRow B 5 1 (.slice A2 (n + 1) c2) (n + 1) (bytesC (l ++ [c])) → (w.alloc (.cells #[.int .u8 (c.toNat : Int)] 5)).grownBy w' v.ownBlock → ((Value.slice A2 (n + 1) c2).ownBlock = v.ownBlock ∨ (Value.slice A2 (n + 1) c2).ownBlock = some (w.heap.size + 1)) → wpList Tryz.prog ops Q rest (a.put o.dst (.slice A2 (n + 1) c2)) w') :
    wpList Tryz.prog ops Q (o :: rest) a (w.alloc (.cells #[.int .u8 (c.toNat : Int)] 5)) := by
  obtain ⟨iB, hiB, hB0, hB1, hB2⟩ := info_parts Tryz.infoByte
  refine wpList_append_any _ hgd s y 23 ho B 5 iB (.int .u8 0) 1 1 Tryz.underlying23 hiB hB0 hB1 hB2 rfl (by decide) v n (bytesC l) hs (hown.alloc _) _ (some ⟨w.heap.size, 0, none⟩) 1 1 [.int .u8 (c.toNat : Int)] hy (byteNew w _) (by intro u hu; rw [List.mem_singleton.1 hu]; rfl) (by simp only [maxLen]; omega) (by omega) (by simp; omega) ?_
  intro v' w' hown' hg' hat'
  obtain ⟨A2, c2, rfl, _⟩ := own_slice hown'
  rw [bytesC_snoc] at hown'
  refine h A2 c2 w' hown' hg' (hat'.imp id fun e => e.trans (by simp))
/-- the same, the byte told as a number -/
theorem wpList_pushI {ops : Array Oper} {rest : List Oper} {o : Oper} {a : Act} {Q : Exit → Act → World → Prop} (hgd : o.guard = none) (s y : Operand)
    (ho : o.op = .call { callee := .builtin .append, args := #[s, y], argTypes := #[23, 23] }) (w : World) (B : Nat) (v : Value) (n : Nat) (l : List UInt8) (c : UInt8) (z : Int) (hz : (c.toNat : Int) = z) (hs : a.eval s = v) (hown : w.ownsRow B 5 1 v n (bytesC l)) (hn : n = l.length)
    (hy : a.eval y = .slice (some ⟨w.heap.size, 0, none⟩) 1 1) (hB : B ≤ w.heap.size) (hl : n + 1 ≤ 140737488355328)
    (h : ∀ A2 c2 w', w'.ownsRow B 5 1 (.slice A2 (n + 1) c2) (n + 1) (bytesC (l ++ [c])) → (w.alloc (.cells #[.int .u8 z] 5)).grownBy w' v.ownBlock → ((Value.slice A2 (n + 1) c2).ownBlock = v.ownBlock ∨ (Value.slice A2 (n + 1) c2).ownBlock = some (w.heap.size + 1)) → wpList Tryz.prog ops Q rest (a.put o.dst (.slice A2 (n + 1) c2)) w') :
    wpList Tryz.prog ops Q (o :: rest) a (w.alloc (.cells #[.int .u8 z] 5)) := by
  subst hz
  exact wpList_push hgd s y ho w B v n l c hs hown hn hy hB hl h
/-- the set behind it -/
theorem SetAt.pushed {w2 : World} {B g : Nat} {x : Pl.TS} {v v2 : Value} {c : UInt8} {r b : Value} (hg0 : g < B) (hr : r = .int .i64 x.rest) (hb : b = .bool x.bad) (h2 : Blk w2 g 48 #[v, r, b])
    (hown : w2.ownsRow B 5 1 v2 (x.out.length + 1) (bytesC (x.out ++ [c]))) : SetAt (w2.setCell ⟨g, 0, none⟩ v2) B g { x with out := x.out ++ [c] } := by
  subst hr hb
  refine ⟨hg0, v2, h2.set_ 0 v2, ?_⟩
  have hl : (x.out ++ [c]).length = x.out.length + 1 := by simp
  rw [hl]
  exact ownsRow_setCell_other hown (own_blk_ne hown h2 (by decide)) _

theorem cutPre_yes (s : List UInt8) (p : ByteArray) (h : Lib.hasPrefix s p.data.toList = true) (w : World) : Calls Tryz.prog 26 #[.string (strB s), .string p] w fun e w' => e = .returned (.tuple #[.string (strB (s.drop p.size)), .bool true]) ∧ w = w' := by
  refine (Tryz.strings_CutPrefix (strB s) p w).mono fun e w' ⟨he, hw⟩ => ⟨?_, hw.symm⟩
  rw [he]
  have h' : Lib.hasPrefix (strB s).data.toList p.data.toList = true := h
  rw [h']
  unfold Lib.trimPrefix
  rw [if_pos h', Array.length_toList]
  rfl
theorem cutPre_no (s : List UInt8) (p : ByteArray) (h : Lib.hasPrefix s p.data.toList = false) (w : World) : Calls Tryz.prog 26 #[.string (strB s), .string p] w fun e w' => e = .returned (.tuple #[.string (strB s), .bool false]) ∧ w = w' := by
  refine (Tryz.strings_CutPrefix (strB s) p w).mono fun e w' ⟨he, hw⟩ => ⟨?_, hw.symm⟩
  rw [he]
  have h' : Lib.hasPrefix (strB s).data.toList p.data.toList = false := h
  rw [h']
  unfold Lib.trimPrefix
  rw [if_neg (by rw [h']; decide)]
theorem strB_empty {l : List UInt8} (h : l = []) : (strB l).toList.isEmpty = true := by rw [strB_toList, h]; rfl
theorem strB_some {l : List UInt8} (h : l ≠ []) : (strB l).toList.isEmpty = false := by rw [strB_toList]; exact isEmpty_no h

/-- what turns below B is the block g alone -/
structure BX (B g : Nat) (w w' : World) : Prop where
  os : w'.os = w.os
  tape : w'.tape = w.tape
  output : w'.output = w.output
  size : w.heap.size ≤ w'.heap.size
  block : ∀ k, k < B → k ≠ g → w'.heap[k]? = w.heap[k]?
theorem bx {B g : Nat} {w w' : World} (h : Below B w w') : BX B g w w' := ⟨h.os, h.tape, h.output, h.size, fun k hk _ => h.block k hk⟩
section
variable {B g : Nat} {a b c w w' : World}
theorem BX.trans (h : BX B g a b) (k : BX B g b c) : BX B g a c := ⟨k.os.trans h.os, k.tape.trans h.tape, k.output.trans h.output, Nat.le_trans h.size k.size, fun i hi hg => (k.block i hi hg).trans (h.block i hi hg)⟩
theorem BX.then (h : BX B g a b) (k : Below B b c) : BX B g a c := h.trans (bx k)
theorem BX.alloc (h : BX B g a w) (hB : B ≤ w.heap.size) (o : Obj) : BX B g a (w.alloc o) := h.then ((Below.refl _ _).alloc hB o)
theorem BX.grown {row : Option Nat} (h : BX B g a w) (hg : w.grownBy w' row) (hB : B ≤ w.heap.size) (hr : ∀ k, row = some k → B ≤ k) : BX B g a w' := h.then ((Below.refl _ _).grown hg hB hr)
theorem BX.setG (h : BX B g a w) (i : Nat) (u : Value) : BX B g a (w.setCell ⟨g, i, none⟩ u) := h.trans ⟨rfl, rfl, rfl, by simp [World.setCell], fun k _ hk => Below.heap_setCell _ _ _ _ hk⟩
theorem BX.low {L : Nat} (h : BX B g w w') (h1 : L ≤ g) (h2 : L ≤ B) : Below L w w' := ⟨h.os, h.tape, h.output, h.size, fun k hk => h.block k (by omega) (by omega)⟩
end
/-- what one of the kinds comes to -/
def KindPost (B g : Nat) (s : List UInt8) (x : Pl.TS) (r : Option (List UInt8 × Pl.TS)) (w : World) (e : Ending) (w' : World) : Prop :=
  BX B g w w' ∧ match r with
  | none => e = .returned (.tuple #[.string (strB s), .bool false]) ∧ SetAt w' B g x
  | some (t, y) => e = .returned (.tuple #[.string (strB t), .bool true]) ∧ SetAt w' B g y
theorem below_le {B : Nat} {w w' : World} (h : Below w.heap.size w w') (hB : B ≤ w.heap.size) : Below B w w' := h.mono hB
theorem below_drew {B : Nat} (w : World) (k : Nat) : Below B w (w.drewN k) := below_drewN (Below.refl _ _) k

set_option maxRecDepth 100000 in
set_option maxHeartbeats 2000000 in
theorem equal_any (w : World) (B g : Nat) (s : List UInt8) (x : Pl.TS) (h : SetAt w B g x) (hBw : B ≤ w.heap.size) (hs : s.length < 1000000000) (ho : x.out.length + 65536 ≤ 140737488355328) :
    Calls Tryz.prog 15 #[.pointer (some ⟨g, 0, none⟩), .string (strB s)] w (KindPost B g s x (Pl.equalS s x) w) := by
  by_cases h1 : Lib.hasPrefix s [91, 61] = true
  · have hc1 := cutPre_yes s ⟨#[91, 61]⟩ h1
    rw [show (⟨#[91, 61]⟩ : ByteArray).size = 2 from rfl] at hc1
    by_cases h2 : s.drop 2 = []
    · have hr : Pl.equalS s x = none := if_neg (fun k => k.2.1 h2)
      rw [hr]
      have he := strB_empty h2
      obtain ⟨T, hT⟩ : ∃ T, strB (s.drop 2) = T := ⟨_, rfl⟩
      simp only [hT] at hc1 he
      clear h1 h2 hr ho
      go_enter Tryz.func15, Tryz.ntmps15
      go_wp2_with (go_at_call 26; refine (hc1 _).mono ?_; rintro e w1 ⟨rfl, rfl⟩)
      go_returns
      exact ⟨bx (Below.refl _ _), rfl, h⟩
    · have hsg := sign_any (s.drop 2) h2 (by rw [List.length_drop]; omega)
      have he := strB_some h2
      rw [List.drop_drop] at hsg
      by_cases h3 : Lib.hasPrefix (s.drop (2 + Pl.signN (s.drop 2))) [61, 93] = true
      · have hr : Pl.equalS s x = some (s.drop (4 + Pl.signN (s.drop 2)), { x with out := x.out ++ [Pl.signC (s.drop 2)] }) := if_pos ⟨h1, h2, h3⟩
        rw [hr]
        have hc2 := cutPre_yes _ ⟨#[61, 93]⟩ h3
        rw [show (⟨#[61, 93]⟩ : ByteArray).size = 2 from rfl, List.drop_drop, show 2 + Pl.signN (s.drop 2) + 2 = 4 + Pl.signN (s.drop 2) by omega] at hc2
        obtain ⟨T, hT⟩ : ∃ T, strB (s.drop 2) = T := ⟨_, rfl⟩
        obtain ⟨U, hU⟩ : ∃ U, strB (s.drop (2 + Pl.signN (s.drop 2))) = U := ⟨_, rfl⟩
        obtain ⟨V, hV⟩ : ∃ V, strB (s.drop (4 + Pl.signN (s.drop 2))) = V := ⟨_, rfl⟩
        obtain ⟨c, hc⟩ : ∃ c, Pl.signC (s.drop 2) = c := ⟨_, rfl⟩
        simp only [hT, hU, hV, hc] at hc1 hc2 he hsg ⊢
        obtain ⟨hBg, v, hblk, hown⟩ := h
        obtain ⟨A, cp, rfl, _⟩ := own_slice hown
        have hgl := hblk.lt
        obtain ⟨n, hn⟩ : ∃ n, x.out.length = n := ⟨_, rfl⟩
        rw [hn] at hown ho hblk
        have HOWN := Lib.hid hown
        have HBLK := Lib.hid hblk
        have HN := Lib.hid hn
        have c0 : w.cell? ⟨g, 0, none⟩ = some (.slice A n cp) := hblk.cell 0
        clear h1 h2 h3 hr hT hU hc hown hblk hn
        go_enter Tryz.func15, Tryz.ntmps15
        go_wp2_with (first
          | (go_at_call 26; with_reducible refine (hc1 _).mono ?_; rintro e w1 ⟨rfl, rfl⟩)
          | (go_at_call 29; refine (hsg _).mono ?_; rintro e w1 ⟨rfl, k, hk⟩; subst hk)
          | (go_at_call 26; with_reducible refine (hc2 _).mono ?_; rintro e w1 ⟨rfl, rfl⟩)
          | (at_builtin; refine wpList_push rfl _ _ rfl (w.drewN k) B (.slice A n cp) n x.out c rfl HOWN.out HN.out.symm rfl (by show B ≤ w.heap.size; omega) (by omega) ?_; intro A2 c2 w2 hown2 hg2 hat2
             have b2 := Blk.grown ((HBLK.out.drewN k).alloc _) hg2 (own_blk_ne HOWN.out HBLK.out (by decide)).symm
             have q2 := b2.cell 0; have f2 := b2.frozen 0; have l2 := b2.lt))
        go_returns
        have hb0 : Below B w ((w.drewN k).alloc (.cells #[.int .u8 (c.toNat : Int)] 5)) := (below_drew w k).alloc (by show B ≤ w.heap.size; omega) _
        have hb1 := hb0.grown hg2 (by simp; omega) (fun j hj => (HOWN.out.lt j hj).1)
        exact ⟨(bx hb1).setG 0 _, by rw [hV]; rfl, SetAt.pushed hBg rfl rfl b2 (by rw [HN.out]; exact hown2)⟩
      · have hr : Pl.equalS s x = none := if_neg (fun k => h3 k.2.2)
        rw [hr]
        have hc2 := cutPre_no _ ⟨#[61, 93]⟩ (Bool.eq_false_iff.2 h3)
        obtain ⟨T, hT⟩ : ∃ T, strB (s.drop 2) = T := ⟨_, rfl⟩
        obtain ⟨U, hU⟩ : ∃ U, strB (s.drop (2 + Pl.signN (s.drop 2))) = U := ⟨_, rfl⟩
        simp only [hT, hU] at hc1 hc2 he hsg ⊢
        clear h1 h2 h3 hr hT hU
        go_enter Tryz.func15, Tryz.ntmps15
        go_wp2_with (first
          | (go_at_call 26; with_reducible refine (hc1 _).mono ?_; rintro e w1 ⟨rfl, rfl⟩)
          | (go_at_call 29; refine (hsg _).mono ?_; rintro e w1 ⟨rfl, k, hk⟩; subst hk)
          | (go_at_call 26; with_reducible refine (hc2 _).mono ?_; rintro e w1 ⟨rfl, rfl⟩))
        go_returns
        exact ⟨bx (below_drew w k), rfl, h.drewN k⟩
  · have hr : Pl.equalS s x = none := if_neg (fun k => h1 k.1)
    rw [hr]
    have hc1 := cutPre_no s ⟨#[91, 61]⟩ (Bool.eq_false_iff.2 h1)
    clear h1 hr ho
    go_enter Tryz.func15, Tryz.ntmps15
    go_wp2_with (go_at_call 26; refine (hc1 _).mono ?_; rintro e w1 ⟨rfl, rfl⟩)
    go_returns
    exact ⟨bx (Below.refl _ _), rfl, h⟩

end Go.Proofs.YtlhiadnolckoeaaGreatDoor
end

section
namespace Go.Proofs.YtlhiadnolckoeaaGreatDoor
open Go.RowKit Go.Maps

/-- an array of n cells -/
def arrF (n : Nat) (f : Nat → Value) : Array Value := ((List.range n).map f).toArray
theorem arrF_size (n : Nat) (f : Nat → Value) : (arrF n f).size = n := by simp [arrF]
theorem arrF_get {n i : Nat} (f : Nat → Value) (h : i < n) : (arrF n f)[i]? = some (f i) := by simp [arrF, h]
theorem arrF_congr {n : Nat} {f g : Nat → Value} (h : ∀ i, i < n → f i = g i) : arrF n f = arrF n g := by
  unfold arrF
  rw [List.map_congr_left (fun i hi => h i (List.mem_range.1 hi))]
theorem arrF_set {n i : Nat} (f : Nat → Value) (v : Value) : (arrF n f).setIfInBounds i v = arrF n (fun j => if j = i then v else f j) := by
  apply Array.ext_getElem?
  intro j
  rw [Array.getElem?_setIfInBounds, arrF_size]
  by_cases hj : j < n
  · rw [arrF_get _ hj, arrF_get _ hj]
    by_cases e : j = i
    · subst e; simp [hj]
    · simp [e, show ¬ i = j from fun x => e x.symm]
  · have h1 : ∀ g : Nat → Value, (arrF n g)[j]? = none := fun g => Array.getElem?_eq_none (by rw [arrF_size]; omega)
    rw [h1, h1]
    by_cases e : i = j
    · subst e; simp [hj]
    · simp [e]
theorem arrF_one {n : Nat} {f : Nat → Value} (h : ∀ i, (f i).oneCell' = true) : (arrF n f).all (·.oneCell') = true := by
  rw [Array.all_eq_true_iff_forall_mem]
  intro v hv
  simp only [arrF, List.mem_toArray, List.mem_map] at hv
  obtain ⟨i, _, rfl⟩ := hv
  exact h i

/-- which bytes are among some -/
def markF (l : List UInt8) (j : Nat) : Value := .bool (l.contains (UInt8.ofNat j))
theorem markF_nil : arrF 256 (markF []) = arrF 256 fun _ => .bool false := rfl
theorem markF_snoc (l : List UInt8) (c : UInt8) : (arrF 256 (markF l)).setIfInBounds c.toNat (.bool true) = arrF 256 (markF (l ++ [c])) := by
  rw [arrF_set]
  refine arrF_congr fun j hj => ?_
  unfold markF
  by_cases e : j = c.toNat
  · subst e
    rw [if_pos rfl, show UInt8.ofNat c.toNat = c from UInt8.ofNat_toNat]
    simp
  · rw [if_neg e]
    have hne : UInt8.ofNat j ≠ c := fun h => e (by rw [← h, UInt8.toNat_ofNat', Nat.mod_eq_of_lt hj])
    simp [hne]
theorem zeros_marks : Tryz.zeroCells104 = arrF 256 (markF []) := by kernel_rfl
theorem marks_info : (Tryz.prog.info? 104).map (·.size) = some 256 := by kernel_rfl

set_option maxRecDepth 100000 in
set_option maxHeartbeats 2000000 in
theorem marks_any (w : World) (A : Option Addr) (cap n : Nat) (l : List UInt8) (hr : Reads w w.heap.size 1 A n (bytesC l)) (hn : l.length = n) (hl : n ≤ 140737488355328) :
    Calls Tryz.prog 146 #[.slice A n cap] w fun e w' => e = .returned (.agg (arrF 256 (markF l))) ∧ Below w.heap.size w w' := by
  obtain ⟨g, hg⟩ : ∃ g, w.heap.size = g := ⟨_, rfl⟩
  obtain ⟨W, hW⟩ : ∃ W, (w.alloc (.cells Tryz.zeroCells104 104)).alloc (.cells Tryz.zeroCells104 104) = W := ⟨_, rfl⟩
  have hB0 : Below g w W := by rw [← hW, ← hg]; exact below_box (below_one w _) (Nat.le_refl _) _
  have hK0 : Blk W g 104 (arrF 256 (markF [])) := by rw [← hW, ← hg, zeros_marks]; exact (Blk.new w _ _).alloc _
  have hK1 : Blk W (g + 1) 104 (arrF 256 (markF [])) := by rw [← hW, ← hg, zeros_marks]; exact Blk.newNext w _ _ _
  have HR := Lib.hid hr
  have HN := Lib.hid hn
  have HB := Lib.hid hB0
  have H0 := Lib.hid hK0
  have H1 := Lib.hid hK1
  clear hr hn hB0 hK0 hK1
  go_enter Tryz.func146, Tryz.ntmps146
  go_wp2_with fail
  go_loopw [5, 8] (fun _ iv wr => ∃ k : Nat, k ≤ n ∧ iv = .int .i64 k ∧ Hid (Blk wr g 104 (arrF 256 (markF []))) ∧ Hid (Blk wr (g + 1) 104 (arrF 256 (markF (l.take k)))) ∧ Hid (Below g w wr)) (fun _ iv _ => n - (intOf iv).toNat)
  case atStart => exact ⟨0, by omega, rfl, H0, by simpa using H1, HB⟩
  case round =>
    obtain ⟨k, hk, rfl, h0, h1, hb⟩ := hrel
    by_cases hlt : k < n
    · obtain ⟨ad, u, rfl, hadl, hu, hcell⟩ := (HR.out.below (by rw [hg]; exact hb.out)).at_ hlt
      obtain ⟨c, hc⟩ : ∃ c, l[k]? = some c := ⟨_, List.getElem?_eq_getElem (by rw [HN.out]; exact hlt)⟩
      obtain rfl : u = .int .u8 (c.toNat : Int) := by
        simp only [bytesC, List.getElem?_map, hc, Option.map_some] at hu
        exact (Option.some.inj hu).symm
      have hcl : c.toNat < 256 := c.toNat_lt
      have m1 : wr.cell? ⟨g + 1, c.toNat, none⟩ = some (markF (l.take k) c.toNat) := (h1.out.cell _).trans (arrF_get _ hcl)
      have m2 : wr.frozen? ⟨g + 1, c.toNat, none⟩ = false := h1.out.frozen _
      have m3 := h1.out.lt
      have HS := Lib.hid (markF_snoc (l.take k) c)
      have HT : Hid (l.take (k + 1) = l.take k ++ [c]) := Lib.hid (by rw [List.take_add_one, hc]; rfl)
      clear hu hc
      go_wp2_with fail
      go_roundw
      case rel => exact ⟨k + 1, by omega, by go_num, Lib.hid (h0.out.far (by show g ≠ g + 1; omega) _), Lib.hid (by rw [HT.out, ← HS.out]; exact h1.out.set_ _ _), Lib.hid (hb.out.setCell (p := ⟨g + 1, _, none⟩) (by show g ≤ g + 1; omega) _)⟩
      case measure => simp [intOf]; omega
    · obtain rfl : k = n := by omega
      have HT : Hid (l.take k = l) := Lib.hid (by rw [← HN.out]; exact List.take_length)
      go_wp2_with (first
        | (refine wpList_load_row rfl 104 (.tmp 3) rfl (g + 1) rfl 104 (arrF 256 (markF (l.take k))) (0, 0) _ h1.out Tryz.underlying104 rfl (by rw [arrF_size]; kernel_rfl) ?_)
        | (refine wpList_store_blk rfl 104 (.tmp 2) (.tmp 15) rfl g 104 (arrF 256 (markF [])) (arrF 256 (markF (l.take k))) rfl rfl h0.out (by rw [arrF_size, arrF_size]) (by rw [arrF_size]; kernel_rfl) (arrF_one fun _ => rfl) ?_; intro w2 b2 g2))
      refine bodyPost_ret (v := .agg (arrF 256 (markF (l.take k)))) (results_cell_row Tryz.results146 _ w2 g 104 _ (0, 0) _ rfl b2 Tryz.underlying104 rfl (by rw [arrF_size]; kernel_rfl)) rfl ?_
      exact ⟨by rw [HT.out], by rw [hg]; exact hb.out.grown g2 (by have := h0.out.lt; omega) (fun j hj => by cases hj; exact Nat.le_refl _)⟩

end Go.Proofs.YtlhiadnolckoeaaGreatDoor
end

section
namespace Go.Proofs.YtlhiadnolckoeaaGreatDoor
open Go.RowKit Go.Maps

namespace Pl
/-- a set as long as another one -/
def fillL (l : List UInt8) (r size : Nat) : List UInt8 := l.take r ++ List.replicate (size + 1 - l.length) (l.getD r 0) ++ l.drop (r + 1)
end Pl

set_option maxHeartbeats 400000 in
theorem fill_neg (w : World) (A : Option Addr) (cap n : Nat) (rest size : Int) (h : rest < 0) :
    Calls Tryz.prog 147 #[.slice A n cap, .int .i64 rest, .int .i64 size] w fun e w' => e = .returned (.slice A n cap) ∧ w = w' := by
  go_enter Tryz.func147, Tryz.ntmps147
  go_wp2_with fail
  go_returns
  exact ⟨rfl, rfl⟩

set_option maxRecDepth 100000 in
set_option maxHeartbeats 2000000 in
theorem fill_any (w : World) (A : Option Addr) (cap n r size : Nat) (l : List UInt8) (hr : Reads w w.heap.size 1 A n (bytesC l)) (hn : l.length = n) (hrn : r < n) (hcap : n ≤ cap) (hl : n ≤ 70368744177664) (hs : size ≤ 17592186044416) :
    Calls Tryz.prog 147 #[.slice A n cap, .int .i64 (r : Int), .int .i64 (size : Int)] w fun e w' => ∃ v, e = .returned v ∧ w'.ownsRow w.heap.size 5 1 v (Pl.fillL l r size).length (bytesC (Pl.fillL l r size)) ∧ Below w.heap.size w w' := by
  obtain ⟨M, hM⟩ : ∃ M, size + 1 - n = M := ⟨_, rfl⟩
  have hMx : max (0 : Int) ((size : Int) - (n : Int) + 1) = (M : Int) := by omega
  obtain ⟨x, hx⟩ : ∃ x, l[r]? = some x := ⟨_, List.getElem?_eq_getElem (by omega)⟩
  have hfl : Pl.fillL l r size = l.take r ++ List.replicate M x ++ l.drop (r + 1) := by
    unfold Pl.fillL
    rw [hn, hM, List.getD_eq_getElem?_getD, hx]
    rfl
  rw [hfl]
  obtain ⟨iB, hiB, hB0, hB1, hB2⟩ := info_parts Tryz.infoByte
  have hfr := fun W => run_front (P := Tryz.prog) 23 5 iB Tryz.underlying23 hiB A n cap r (by omega) W
  have hct := fun W => run_cut (P := Tryz.prog) 23 5 iB 1 Tryz.underlying23 hiB hB1 A n cap .i64 ((r : Int) + 1) (r + 1) (by omega) (by omega) W
  have HI := Lib.hid hiB
  have H0 := Lib.hid hB0
  have H1 := Lib.hid hB1
  have H2 := Lib.hid hB2
  have HR := Lib.hid hr
  have HFR := Lib.hid (by have := hr.front (k := r) (by omega); rwa [← bytesC_take] at this : Reads w w.heap.size 1 A r (bytesC (l.take r)))
  have HFC := Lib.hid (by have := hr.cutA (k := r + 1) (cap := cap) (by omega) hcap; rwa [Nat.mul_one, ← bytesC_drop] at this : Reads w w.heap.size 1 (cutA A cap (r + 1) 1) (n - (r + 1)) (bytesC (l.drop (r + 1))))
  obtain ⟨ad, u, rfl, hadl, hu, hcell⟩ := hr.at_ hrn
  obtain rfl : u = .int .u8 (x.toNat : Int) := by
    simp only [bytesC, List.getElem?_map, hx, Option.map_some] at hu
    exact (Option.some.inj hu).symm
  have hcw : ∀ W, Below w.heap.size w W → W.cell? (ad.add r) = some (.int .u8 (x.toNat : Int)) := fun W hW => (hW.cell (by rw [block_of_add]; exact hadl)).trans hcell
  have HN := Lib.hid hn
  have htl : (l.take r).length = r := by rw [List.length_take]; omega
  have HTL := Lib.hid htl
  clear hiB hB0 hB1 hB2 hr hx hu hcell hfl hn htl hM
  have hr0 : decide ((r : Int) < 0) = false := decide_eq_false (by omega)
  have hb0 : Below w.heap.size w w := Below.refl _ _
  go_enter Tryz.func147, Tryz.ntmps147
  go_wp2_with (at_builtin; refine wpList_append_any _ rfl _ _ 23 rfl w.heap.size 5 iB (.int .u8 0) 1 1 Tryz.underlying23 HI.out H0.out H1.out H2.out rfl (by decide) (.slice none 0 0) 0 [] rfl (World.ownsRow_nil _ _ _ _) w.heap.size (some ad) r cap (bytesC (l.take r)) rfl HFR.out (bytesC_oneCell _) (by simp only [maxLen]; omega) (by omega) (Nat.le_refl _) ?_; intro v1 w1 hown1 hg1 hat1; obtain ⟨A1, c1, rfl, _⟩ := own_slice hown1)
  have hb1 : Below w.heap.size w w1 := hb0.grown hg1 (Nat.le_refl _) (fun k hk => by cases hk)
  simp only [List.nil_append, Nat.zero_add] at hown1
  have HO1 := Lib.hid hown1
  have HB1 := Lib.hid hb1
  clear hown1 hb1 hg1 hat1
  go_loopw [7, 22] (fun ov iv wr => ∃ (j : Nat) (A2 : Option Addr) (c2 : Nat), j ≤ M ∧ iv = .int .i64 j ∧ ov = .slice A2 (r + j) c2 ∧ Hid (wr.ownsRow w.heap.size 5 1 (.slice A2 (r + j) c2) (r + j) (bytesC (l.take r ++ List.replicate j x))) ∧ Hid (Below w.heap.size w wr)) (fun _ iv _ => M - (intOf iv).toNat)
  case atStart => exact ⟨0, A1, c1, by omega, rfl, rfl, Lib.hid (by simpa using HO1.out), HB1⟩
  case round =>
    obtain ⟨j, A2, c2, hj, rfl, rfl, HO, HB⟩ := hrel
    have hsz := HB.out.size
    by_cases hlt : j < M
    · have hc := hcw wr HB.out
      go_wp2_with (at_builtin; refine wpList_push rfl _ _ rfl wr w.heap.size (.slice A2 (r + j) c2) (r + j) (l.take r ++ List.replicate j x) x rfl HO.out (by rw [List.length_append, List.length_replicate, HTL.out]) rfl hsz (by omega) ?_; intro A3 c3 w3 hown3 hg3 hat3)
      go_roundw
      case rel => exact ⟨j + 1, A3, c3, by omega, by go_num, rfl, Lib.hid (by rw [List.replicate_succ', ← List.append_assoc]; exact hown3), Lib.hid ((HB.out.alloc hsz _).grown hg3 (by simp; omega) (fun k hk => (HO.out.lt k hk).1))⟩
      case measure => simp [intOf]; omega
    · obtain rfl : j = M := by omega
      have HFCr := Lib.hid (HFC.out.below HB.out)
      have hlen : Hid ((l.take r ++ List.replicate j x ++ l.drop (r + 1)).length = r + j + (n - (r + 1))) := Lib.hid (by rw [List.length_append, List.length_append, List.length_replicate, HTL.out, List.length_drop, HN.out])
      go_wp2_with (at_builtin; refine wpList_append_any _ rfl _ _ 23 rfl w.heap.size 5 iB (.int .u8 0) 1 1 Tryz.underlying23 HI.out H0.out H1.out H2.out rfl (by decide) (.slice A2 (r + j) c2) (r + j) (bytesC (l.take r ++ List.replicate j x)) rfl HO.out w.heap.size (cutA (some ad) cap (r + 1) 1) (n - (r + 1)) (cap - (r + 1)) (bytesC (l.drop (r + 1))) rfl HFCr.out (bytesC_oneCell _) (by simp only [maxLen]; omega) (by omega) hsz ?_; intro v1 w3 hown3 hg3 hat3)
      go_returns
      exact ⟨v1, rfl, by rw [hlen.out, bytesC_append]; exact hown3, HB.out.grown hg3 hsz (fun k hk => (HO.out.lt k hk).1)⟩

end Go.Proofs.YtlhiadnolckoeaaGreatDoor
end

section
namespace Go.Proofs.YtlhiadnolckoeaaGreatDoor

namespace Pl
/-- what arguments ask of tr: the two sets, what is to be done -/
structure Tab where
  one : List UInt8
  two : List UInt8
  del : Bool
  want2 : Bool
  sq : Bool
/-- what a byte of the first set becomes: its last place there says it -/
def becomes (two : List UInt8) : List UInt8 → Nat → UInt8 → UInt8 → UInt8
  | [], _, _, d => d
  | x :: l, i, c, d => becomes two l (i + 1) c (if x = c then two.getD (min i (two.length - 1)) 0 else d)
def Tab.to (T : Tab) (c : UInt8) : UInt8 := if T.del || !T.want2 then c else becomes T.two T.one 0 c c
def Tab.gone (T : Tab) (c : UInt8) : Bool := T.del && T.one.contains c
def Tab.squ (T : Tab) (c : UInt8) : Bool := T.sq && T.two.contains c
/-- one byte: what was told, the last byte told (below 0: none) -/
def Tab.step (T : Tab) (st : List UInt8 × Int) (c : UInt8) : List UInt8 × Int :=
  if T.gone c then st else if T.squ (T.to c) = true ∧ st.2 = ((T.to c).toNat : Int) then st else (st.1 ++ [T.to c], ((T.to c).toNat : Int))
def Tab.tell (T : Tab) (l : List UInt8) : List UInt8 := (l.foldl T.step ([], -1)).1
theorem step_grow (T : Tab) (st : List UInt8 × Int) (c : UInt8) : (T.step st c).1.length ≤ st.1.length + 1 := by
  unfold Tab.step
  split
  · omega
  · split
    · omega
    · simp
theorem foldl_grow (T : Tab) (l : List UInt8) : ∀ st : List UInt8 × Int, (l.foldl T.step st).1.length ≤ st.1.length + l.length := by
  induction l with
  | nil => intro st; simp
  | cons c l ih =>
    intro st
    have h1 := ih (T.step st c)
    have h2 := step_grow T st c
    simp only [List.foldl_cons, List.length_cons]
    omega
theorem tell_len (T : Tab) (l : List UInt8) : (T.tell l).length ≤ l.length := by
  have := foldl_grow T l ([], -1)
  simpa [Tab.tell] using this
/-- without a deletion and a squeeze each byte becomes its own one -/
theorem tell_plain (T : Tab) (hd : T.del = false) (hs : T.sq = false) (l : List UInt8) : T.tell l = l.map T.to := by
  have h : ∀ (l : List UInt8) (st : List UInt8 × Int), (l.foldl T.step st).1 = st.1 ++ l.map T.to := by
    intro l
    induction l with
    | nil => intro st; simp
    | cons c l ih =>
      intro st
      have e : (T.step st c).1 = st.1 ++ [T.to c] := by simp [Tab.step, Tab.gone, Tab.squ, hd, hs]
      rw [List.foldl_cons, ih, e, List.map_cons]
      simp
  have := h l ([], -1)
  simpa [Tab.tell] using this
/-- a deletion alone leaves what is not in the set -/
theorem tell_del (T : Tab) (hd : T.del = true) (hs : T.sq = false) (l : List UInt8) : T.tell l = l.filter (fun c => !T.one.contains c) := by
  have h : ∀ (l : List UInt8) (st : List UInt8 × Int), (l.foldl T.step st).1 = st.1 ++ l.filter (fun c => !T.one.contains c) := by
    intro l
    induction l with
    | nil => intro st; simp
    | cons c l ih =>
      intro st
      cases hc : T.one.contains c with
      | true =>
        have e : T.step st c = st := by simp only [Tab.step, Tab.gone, hd, hc]; rfl
        rw [List.foldl_cons, e, ih, List.filter_cons_of_neg (by rw [hc]; decide)]
      | false =>
        have e : (T.step st c).1 = st.1 ++ [c] := by simp only [Tab.step, Tab.gone, Tab.squ, Tab.to, hd, hs, hc]; rfl
        rw [List.foldl_cons, ih, e, List.filter_cons_of_pos (by rw [hc]; decide)]
        simp
  have := h l ([], -1)
  simpa [Tab.tell] using this
end Pl

end Go.Proofs.YtlhiadnolckoeaaGreatDoor
end

section
namespace Go.Proofs.YtlhiadnolckoeaaGreatDoor
open Go.RowKit Go.Maps

/-- the cells of a table -/
def tabF (tc gone squ : Nat → Value) (i : Nat) : Value := if i < 256 then tc i else if i < 512 then gone (i - 256) else squ (i - 512)
def tabC (tc gone squ : Nat → Value) : Array Value := arrF 768 (tabF tc gone squ)
def byteF (f : UInt8 → UInt8) (j : Nat) : Value := .int .u8 ((f (UInt8.ofNat j)).toNat : Int)
def boolF (f : UInt8 → Bool) (j : Nat) : Value := .bool (f (UInt8.ofNat j))
theorem tabC_size (tc gone squ : Nat → Value) : (tabC tc gone squ).size = 768 := arrF_size _ _
theorem tabC_to {tc gone squ : Nat → Value} {i : Nat} (h : i < 256) : (tabC tc gone squ)[i]? = some (tc i) := by
  unfold tabC
  rw [arrF_get _ (by omega)]
  simp [tabF, h]
theorem tabC_gone {tc gone squ : Nat → Value} {i : Nat} (h : i < 256) : (tabC tc gone squ)[256 + i]? = some (gone i) := by
  unfold tabC
  rw [arrF_get _ (by omega)]
  have h1 : ¬ 256 + i < 256 := by omega
  have h2 : 256 + i < 512 := by omega
  simp only [tabF, if_neg h1, if_pos h2, Nat.add_sub_cancel_left]
theorem tabC_squ {tc gone squ : Nat → Value} {i : Nat} (h : i < 256) : (tabC tc gone squ)[512 + i]? = some (squ i) := by
  unfold tabC
  rw [arrF_get _ (by omega)]
  have h1 : ¬ 512 + i < 256 := by omega
  have h2 : ¬ 512 + i < 512 := by omega
  simp only [tabF, if_neg h1, if_neg h2, Nat.add_sub_cancel_left]
theorem tabC_set {tc gone squ : Nat → Value} {i : Nat} (h : i < 256) (v : Value) : (tabC tc gone squ).setIfInBounds i v = tabC (fun j => if j = i then v else tc j) gone squ := by
  unfold tabC
  rw [arrF_set]
  refine arrF_congr fun j _ => ?_
  unfold tabF
  by_cases e : j = i
  · subst e; simp [h]
  · simp [e]
section
variable {P : Program}
theorem run_store_part {w : World} {g : Nat} {t : TypeId} {old : Array Value} (ty : TypeId) (o : Nat) (cells : Array Value) (h : Blk w g t old) (hs : o + cells.size ≤ old.size) (hi : (P.info? ty).map (·.size) = some cells.size) (h1 : cells.all (·.oneCell') = true) :
    (Instr.storeAt ty (.pointer (some ⟨g, o, none⟩)) (.agg cells)).run P w = .ok () (w.setRow g (old.toList.take o ++ cells.toList ++ old.toList.drop (o + cells.size)).toArray) := by
  have hr := run_storeCells_at P g o t cells.toList 0 old w h (by simpa using hs) (fun v hv => (Array.all_eq_true_iff_forall_mem.1 h1) v (by simpa using hv))
  simp only [Nat.add_zero, Array.length_toList] at hr
  cases hq : P.info? ty with
  | none => simp [hq] at hi
  | some i =>
    have hz : cells.size = i.size := by simp [hq] at hi; omega
    simp [Instr.storeAt, Instr.sureAddr, storeVar, sizeOf, typeInfo, hq, Value.cells, hz, hr]
/-- cells stored into a part of a block -/
theorem wpList_store_part {ops : Array Oper} {rest : List Oper} {p : Oper} {a : Act} {w : World} {Q : Exit → Act → World → Prop} (hgd : p.guard = none) (ty : TypeId) (x y : Operand) (ho : p.op = .store ty x y)
    (g o : Nat) (t : TypeId) (old cells new : Array Value) (hx : a.eval x = .pointer (some ⟨g, o, none⟩)) (hy : a.eval y = .agg cells) (h : Blk w g t old) (hs : o + cells.size ≤ old.size) (hi : (P.info? ty).map (·.size) = some cells.size) (h1 : cells.all (·.oneCell') = true)
    (hnew : (old.toList.take o ++ cells.toList ++ old.toList.drop (o + cells.size)).toArray = new)
    (hK : ∀ w', Blk w' g t new → w.grownBy w' (some g) → wpList P ops Q rest (a.put p.dst undef) w') : wpList P ops Q (p :: rest) a w := by
  subst hnew
  refine wpList_plain hgd fun K' hK' => ?_
  have hrun := run_store_part (P := P) ty o cells h hs hi h1
  unfold Oper.wp execOp
  simp only [ho, hx, hy, Sem.run_bind, hrun, Sem.run_pure, Result.andThen_ok]
  exact hK' _ _ (hK _ (setRow_heap w g old _ t (0, 0) h) ⟨rfl, rfl, rfl, by simp [World.setRow], fun k _ hk => setRow_other w g k _ (fun e => hk (by rw [e]))⟩)
end
theorem part_get (l vs : List Value) (o j : Nat) (h : o + vs.length ≤ l.length) : (l.take o ++ vs ++ l.drop (o + vs.length))[j]? = if j < o then l[j]? else if j < o + vs.length then vs[j - o]? else l[j]? := by
  have hl : (l.take o).length = o := by rw [List.length_take]; omega
  by_cases h1 : j < o
  · rw [if_pos h1, List.append_assoc, List.getElem?_append_left (by omega), List.getElem?_take, if_pos h1]
  · rw [if_neg h1]
    by_cases h2 : j < o + vs.length
    · rw [if_pos h2, List.append_assoc, List.getElem?_append_right (by omega), hl, List.getElem?_append_left (by omega)]
    · rw [if_neg h2, List.getElem?_append_right (by rw [List.length_append]; omega), List.length_append, hl, List.getElem?_drop]
      congr 1
      omega
theorem arr_list {n : Nat} {f : Nat → Value} {j : Nat} : (arrF n f).toList[j]? = if j < n then some (f j) else none := by
  rw [Array.getElem?_toList]
  split
  · rename_i h; exact arrF_get _ h
  · rename_i h; exact Array.getElem?_eq_none (by rw [arrF_size]; omega)
theorem tabC_putGone (tc gone squ f : Nat → Value) : ((tabC tc gone squ).toList.take 256 ++ (arrF 256 f).toList ++ (tabC tc gone squ).toList.drop (256 + (arrF 256 f).size)).toArray = tabC tc f squ := by
  have hsz : (arrF 256 f).toList.length = 256 := by rw [Array.length_toList, arrF_size]
  have h := fun j => part_get (tabC tc gone squ).toList (arrF 256 f).toList 256 j (by rw [hsz, Array.length_toList, tabC_size]; omega)
  rw [hsz] at h
  apply Array.ext_getElem?
  intro j
  rw [arrF_size, List.getElem?_toArray, h j]
  unfold tabC
  simp only [arr_list]
  rw [← Array.getElem?_toList, arr_list]
  by_cases h1 : j < 256
  · simp [h1, show j < 768 by omega, tabF]
  · by_cases h2 : j < 512
    · simp [h1, h2, show j < 768 by omega, show j - 256 < 256 by omega, tabF]
    · simp [h1, h2, tabF]
theorem tabC_putSqu (tc gone squ f : Nat → Value) : ((tabC tc gone squ).toList.take 512 ++ (arrF 256 f).toList ++ (tabC tc gone squ).toList.drop (512 + (arrF 256 f).size)).toArray = tabC tc gone f := by
  have hsz : (arrF 256 f).toList.length = 256 := by rw [Array.length_toList, arrF_size]
  have h := fun j => part_get (tabC tc gone squ).toList (arrF 256 f).toList 512 j (by rw [hsz, Array.length_toList, tabC_size]; omega)
  rw [hsz] at h
  apply Array.ext_getElem?
  intro j
  rw [arrF_size, List.getElem?_toArray, h j]
  unfold tabC
  simp only [arr_list]
  rw [← Array.getElem?_toList, arr_list]
  by_cases h1 : j < 512
  · by_cases h0 : j < 256
    · simp [h0, h1, show j < 768 by omega, tabF]
    · simp [h0, h1, show j < 768 by omega, tabF]
  · by_cases h2 : j < 768
    · simp [h1, h2, show j - 512 < 256 by omega, show ¬ j < 256 by omega, tabF]
    · simp [h1, h2]
theorem zeros_tab : Tryz.zeroCells222 = tabC (fun _ => .int .u8 0) (fun _ => .bool false) (fun _ => .bool false) := by kernel_rfl

/-- a table that does so -/
def TabAt (w : World) (t : Nat) (T : Pl.Tab) : Prop := Blk w t 222 (tabC (byteF T.to) (boolF T.gone) (boolF T.squ))

end Go.Proofs.YtlhiadnolckoeaaGreatDoor
end

section
namespace Go.Proofs.YtlhiadnolckoeaaGreatDoor
open Go.RowKit Go.Maps

theorem step_front (T : Pl.Tab) (S a : List UInt8) (l : Int) (c : UInt8) : T.step (S ++ a, l) c = (S ++ (T.step (a, l) c).1, (T.step (a, l) c).2) := by
  unfold Pl.Tab.step
  split
  · rfl
  · split
    · rfl
    · simp
theorem fold_front (T : Pl.Tab) (S : List UInt8) : ∀ (cs a : List UInt8) (l : Int), cs.foldl T.step (S ++ a, l) = (S ++ (cs.foldl T.step (a, l)).1, (cs.foldl T.step (a, l)).2)
  | [], a, l => rfl
  | c :: cs, a, l => by
    rw [List.foldl_cons, List.foldl_cons, step_front]
    exact fold_front T S cs (T.step (a, l) c).1 (T.step (a, l) c).2
theorem fold_chunk (T : Pl.Tab) (done cs : List UInt8) (st : List UInt8 × Int) (h : done.foldl T.step ([], -1) = st) : (done ++ cs).foldl T.step ([], -1) = (st.1 ++ (cs.foldl T.step ([], st.2)).1, (cs.foldl T.step ([], st.2)).2) := by
  rw [List.foldl_append, h]
  have := fold_front T st.1 cs [] st.2
  rwa [List.append_nil] at this

/-- tr between two chunks -/
structure TrSt (X : Job) (T : Pl.Tab) (inb : List UInt8) (r t : Nat) (F0 : Flow) (w3 : World) (F : Flow) (k : Nat) (done : List UInt8) (wr : World) : Prop where
  job : JobOf wr X F
  rd : RdAt wr r X (.slice none 0 0) (k : Int) false
  tab : TabAt wr t T
  held : F.held = (k : Int)
  kb : k ≤ 140737488355328
  parts : done ++ F.inb = inb
  said : F.said true = (done.foldl T.step ([], -1)).1
  err : F.said false = []
  steps : F.steps ≤ 2 * done.length
  gone : Gone X r F0 F w3 wr
/-- tr within a chunk: the bytes told stand ahead, those to come where they stood -/
structure TrIn (T : Pl.Tab) (bs : List UInt8) (l0 : Int) (g cap : Nat) (w1 : World) (i : Nat) (told : List UInt8) (last : Int) (wr : World) : Prop where
  fold : (bs.take i).foldl T.step ([], l0) = (told, last)
  few : told.length ≤ i
  blk : ∃ cur : Array Value, Blk wr g 5 cur ∧ cur.size = cap ∧ (∀ j c, i ≤ j → bs[j]? = some c → cur[j]? = some (.int .u8 (c.toNat : Int))) ∧ (∀ (j : Nat) c, told[j]? = some c → cur[j]? = some (.int .u8 (c.toNat : Int)))
  turns : Turns [g] w1 wr

section
variable {T : Pl.Tab} {bs : List UInt8} {l0 : Int} {g cap : Nat} {w1 wr : World} {i : Nat} {told : List UInt8} {last : Int}
theorem TrIn.skip {c : UInt8} (h : TrIn T bs l0 g cap w1 i told last wr) (hc : bs[i]? = some c) (hs : T.step (told, last) c = (told, last)) : TrIn T bs l0 g cap w1 (i + 1) told last wr := by
  obtain ⟨cur, hb, hz, h1, h2⟩ := h.blk
  refine ⟨?_, by have := h.few; omega, ⟨cur, hb, hz, fun j c hj hc => h1 j c (by omega) hc, h2⟩, h.turns⟩
  rw [List.take_add_one, hc, Option.toList_some, List.foldl_append, h.fold]
  exact hs
theorem TrIn.put {c d : UInt8} (h : TrIn T bs l0 g cap w1 i told last wr) (hc : bs[i]? = some c) (hs : T.step (told, last) c = (told ++ [d], (d.toNat : Int))) (hcap : bs.length ≤ cap) :
    TrIn T bs l0 g cap w1 (i + 1) (told ++ [d]) (d.toNat : Int) (wr.setCell ⟨g, told.length, none⟩ (.int .u8 (d.toNat : Int))) := by
  obtain ⟨cur, hb, hz, h1, h2⟩ := h.blk
  have hf := h.few
  have hi : i < bs.length := (List.getElem?_eq_some_iff.1 hc).1
  refine ⟨?_, by rw [List.length_append, List.length_singleton]; omega, ⟨_, hb.set_ told.length (.int .u8 (d.toNat : Int)), by simpa using hz, fun j c hj hc => ?_, fun j c hc => ?_⟩, h.turns.setCell ⟨g, told.length, none⟩ _ (fun _ => List.mem_singleton.2 rfl)⟩
  · rw [List.take_add_one, hc, Option.toList_some, List.foldl_append, h.fold]
    exact hs
  · rw [Array.getElem?_setIfInBounds_ne (by omega)]
    exact h1 j c (by omega) hc
  · by_cases hj : j = told.length
    · subst hj
      rw [List.getElem?_append_right (Nat.le_refl _), Nat.sub_self] at hc
      simp only [List.getElem?_cons_zero, Option.some.injEq] at hc
      subst hc
      rw [Array.getElem?_setIfInBounds_self_of_lt (by omega)]
    · have hlt := (List.getElem?_eq_some_iff.1 hc).1
      rw [List.length_append, List.length_singleton] at hlt
      rw [List.getElem?_append_left (by omega)] at hc
      rw [Array.getElem?_setIfInBounds_ne (by omega)]
      exact h2 j c hc
end

end Go.Proofs.YtlhiadnolckoeaaGreatDoor
end

section
namespace Go.Proofs.YtlhiadnolckoeaaGreatDoor
open Go.RowKit Go.Maps

theorem addr0 (g j : Nat) : (⟨g, 0, none⟩ : Addr).add j = ⟨g, j, none⟩ := by unfold Addr.add; split <;> simp_all
theorem addrO (g o j : Nat) : (⟨g, o, none⟩ : Addr).add j = ⟨g, o + j, none⟩ := by unfold Addr.add; split <;> simp_all
set_option maxRecDepth 100000 in
set_option maxHeartbeats 4000000 in
theorem mainTr (w : World) (tag : ByteArray) (rest : List ByteArray) (nr : Nat) (hnr : rest.length = nr) (hl : nr < 2097152) (T : Pl.Tab) (inb : List UInt8) (buf : Int) (hb1 : 1 ≤ buf) (hb2 : buf ≤ 9223372036854775807) (hil : inb.length ≤ 140737488355000)
    (hread : ∀ W A cap, Below w.heap.size w W → Reads W W.heap.size 1 A nr (strsC rest) → nr ≤ cap → Calls Tryz.prog 115 #[.slice A nr cap] W fun e w' => ∃ t, e = .returned (.tuple #[.pointer (some ⟨t, 0, none⟩), .bool true]) ∧ TabAt w' t T ∧ W.heap.size ≤ t ∧ Below W.heap.size W w') :
    TellsFrom w 91 (tag :: rest) inb buf (T.tell inb) [] 0 := by
  intro W X F0 hbW hfW hX ha hbuf hs0 hh0 hi0 hsd
  have hargs := procArgs1 W X F0 hX tag rest ha nr hnr hl
  have hrd := fun V g o cap (hV : Below w.heap.size w V) hR hc => hread V (some ⟨g, o, none⟩) cap hV hR hc
  have hne := fun V => rdNew V X
  clear hread
  go_enter Tryz.func91, Tryz.ntmps91
  go_wp2_with (first
    | (go_at_call 89; refine hargs.mono ?_; rintro e w1 ⟨g1, cap1, o1, rfl, hcap1, hg1, hg11, hbb1, hJ1, hc10, hcs1, hcut1⟩
       have hR1 : Reads w1 w1.heap.size 1 (some ⟨g1, o1, none⟩) nr (strsC rest) := (by refine ⟨by simp [strsC, hnr], fun _ => ⟨_, rfl, hg11, fun j u hu => ?_⟩⟩; simp only [strsC, List.getElem?_map, Option.map_eq_some_iff] at hu; obtain ⟨x, hx, rfl⟩ := hu; rw [addrO]; exact hcs1 j x hx))
    | (go_at_call 115; refine (hrd w1 g1 o1 (cap1 - 1) (hbW.trans (hbb1.mono hbW.size)) hR1 (by omega)).mono ?_; rintro e w2 ⟨t, rfl, hT2, ht2, hbb2⟩; have hJ2 := hJ1.below hbb2)
    | (go_at_call 117; refine (hne w2).mono ?_; rintro e w3 ⟨rfl, hR3, hbb3⟩; have hJ3 := hJ2.below hbb3; have hT3 : TabAt w3 t T := Blk.below hT2 hbb3 (Blk.lt hT2)))
  obtain ⟨r, hr⟩ : ∃ r, w2.heap.size = r := ⟨_, rfl⟩
  rw [hr] at hR3 hbb3 ⊢
  have hTop : Turns [] W w3 := Turns.of_below ((hbb1.trans (hbb2.mono hbb1.size)).trans ((hr ▸ hbb3 : Below w2.heap.size w2 w3).mono (Nat.le_trans hbb1.size hbb2.size)))
  have hrW : W.heap.size ≤ r := by rw [← hr]; exact Nat.le_trans hbb1.size hbb2.size
  have H0 : Hid (TrSt X T inb r t F0 w3 F0 0 [] w3) := Lib.hid ⟨hJ3, hR3, hT3, hh0, by omega, by rw [hi0]; rfl, by rw [hsd]; rfl, by rw [hsd], by omega, Gone.refl _ _ _ _⟩
  have HTop := Lib.hid hTop
  have HIL := Lib.hid hil
  have HI0 := Lib.hid hi0
  clear hargs hrd hne hcs1 hcut1 hR1 hJ1 hJ2 hJ3 hR3 hT2 hT3 hX hfW hbW hTop hbb1 hbb2 hbb3 hc10 hsd ha hh0 hs0 hil hi0
  go_loopg [6] inb.length (fun n lv wr => ∃ (F : Flow) (k : Nat) (done : List UInt8), n = F.inb.length ∧ lv = .int .i64 (done.foldl T.step ([], -1)).2 ∧ Hid (TrSt X T inb r t F0 w3 F k done wr))
  case atStart => exact ⟨F0, 0, [], by rw [HI0.out], rfl, H0⟩
  case round =>
    obtain ⟨F, k, done, rfl, rfl, HS⟩ := hrel
    have hlen : done.length + F.inb.length = inb.length := by have := congrArg List.length HS.out.parts; rwa [List.length_append] at this
    have hfl : F.inb.length ≤ 140737488355328 := by have := HIL.out; omega
    obtain ⟨n, hn⟩ : ∃ n : Nat, min buf (F.inb.length : Int) = (n : Int) := ⟨(min buf (F.inb.length : Int)).toNat, by omega⟩
    have hch := rdChunk wr X F HS.out.job (by have := HS.out.steps; have := HIL.out; omega) r k HS.out.rd HS.out.held (by have := HS.out.kb; omega) (by rw [hbuf]; exact hb1) (by rw [hbuf]; exact hb2) hfl n (by rw [hbuf]; exact hn)
    have hnl : n ≤ F.inb.length := by omega
    rcases Nat.eq_zero_or_pos n with h0 | h0
    · subst h0
      go_wp2_with ((go_at_call 118; refine hch.mono ?_; rintro e w4 ⟨A, c, F', rfl, hown, hJ4, hC4, hR4, hG4, hft⟩))
      go_returns
      have hnil : F.inb = [] := List.eq_nil_of_length_eq_zero (by omega)
      have hdone : done = inb := by have := HS.out.parts; rwa [hnil, List.append_nil] at this
      refine ⟨rfl, F', hJ4, (HS.out.gone.trans hG4).went HTop.out hrW, ?_, ?_⟩
      · rw [hC4.said, HS.out.said, hdone]
        rfl
      · rw [hC4.said, HS.out.err]
    · have h0i : ((n : Int) == 0) = false := by simp; omega
      go_wp2_with ((go_at_call 118; refine hch.mono ?_; rintro e w4 ⟨A, c, F', rfl, hown, hJ4, hC4, hR4, hG4, hft⟩))
      rw [show (n == 0) = false by simp; omega] at hR4
      obtain ⟨bs, hbs⟩ : ∃ bs, F.inb.take n = bs := ⟨_, rfl⟩
      obtain ⟨l0, hl0⟩ : ∃ l0, (done.foldl T.step ([], -1)).2 = l0 := ⟨_, rfl⟩
      have hbl : bs.length = n := by rw [← hbs, List.length_take]; omega
      rw [hbs] at hown
      rw [hl0]
      rcases hown.2 with ⟨_, hx⟩ | ⟨g, cap, cur, hA, hgw, hgb, hcn, hcm, hcs, hct⟩
      · omega
      simp only [Value.slice.injEq] at hA
      obtain ⟨rfl, _, rfl⟩ := hA
      have hg4 : g < w4.heap.size := (Array.getElem?_eq_some_iff.1 hgb).1
      have HIN : Hid (TrIn T bs l0 g c w4 0 [] l0 w4) := Lib.hid ⟨rfl, Nat.le_refl _, ⟨cur, hgb, by omega, fun j d _ hd => by
        have hj := (List.getElem?_eq_some_iff.1 hd).1
        have : (cur.toList.take (n * 1))[j]? = some (.int .u8 (d.toNat : Int)) := by rw [hct]; simp only [bytesC, List.getElem?_map, hd, Option.map_some]
        rw [List.getElem?_take, if_pos (by omega), Array.getElem?_toList] at this
        exact this, fun j d hd => by simp at hd⟩, Turns.refl _ _⟩
      have HT4 : Hid (TabAt w4 t T) := Lib.hid ((hG4.rd (Blk.lt HS.out.tab) (Blk.ne_ HS.out.tab HS.out.rd (by decide)) (HS.out.job.off HS.out.tab (by decide) (by decide) (by decide) (by decide) (by decide) (by decide) (by decide) (by decide) (by decide))).trans HS.out.tab)
      have htg : t ≠ g := Blk.ne_ HT4.out (show Blk w4 g 5 cur from hgb) (by decide)
      have HBL := Lib.hid hbl
      have HJ4 := Lib.hid hJ4
      have HR4 := Lib.hid hR4
      have HG4 := Lib.hid hG4
      have HC4 := Lib.hid hC4
      have HFT := Lib.hid hft
      have HB := Lib.hid hbs
      have HL0 := Lib.hid hl0
      have HN := Lib.hid hn
      have HCN := Lib.hid hcn
      have HCU : Hid (Blk w4 g 5 cur) := Lib.hid hgb
      clear hct hcs hown hbl hJ4 hR4 hG4 hC4 hft hbs hl0 hn hgb hcm
      go_loopw [6, 9, 11, 41] (fun lv mv _ iv wr => ∃ (i : Nat) (told : List UInt8) (last : Int), i ≤ n ∧ iv = .int .i64 i ∧ mv = .int .i64 told.length ∧ lv = .int .i64 last ∧ Hid (TrIn T bs l0 g c w4 i told last wr)) (fun _ _ _ iv _ => n - (intOf iv).toNat)
      case atStart => exact ⟨0, [], l0, by omega, rfl, rfl, rfl, HIN⟩
      case round =>
        obtain ⟨i, told, last, hi, rfl, rfl, rfl, hin⟩ := hrel
        by_cases hlt : i < n
        · obtain ⟨x, hx⟩ : ∃ x, bs[i]? = some x := ⟨_, List.getElem?_eq_getElem (by rw [HBL.out]; exact hlt)⟩
          obtain ⟨cu, hcb, hcz, hca, _⟩ := hin.out.blk
          have hf := hin.out.few
          have hxl : x.toNat < 256 := x.toNat_lt
          obtain ⟨d, hd⟩ : ∃ d, T.to x = d := ⟨_, rfl⟩
          have hdl : d.toNat < 256 := d.toNat_lt
          have m0 : wr.cell? ⟨g, i, none⟩ = some (.int .u8 (x.toNat : Int)) := (hcb.cell i).trans (hca i x (Nat.le_refl _) hx)
          have hTw : Blk wr t 222 (tabC (byteF T.to) (boolF T.gone) (boolF T.squ)) := (hin.out.turns.block t (Blk.lt HT4.out) (by rw [List.mem_singleton]; exact htg)).trans HT4.out
          have mg : wr.cell? ⟨t, 256 + x.toNat, none⟩ = some (.bool (T.gone x)) := ((hTw.cell _).trans (tabC_gone hxl)).trans (by rw [boolF, UInt8.ofNat_toNat])
          have mt : wr.cell? ⟨t, x.toNat, none⟩ = some (.int .u8 (d.toNat : Int)) := ((hTw.cell _).trans (tabC_to hxl)).trans (by rw [byteF, UInt8.ofNat_toNat, hd])
          have ms : wr.cell? ⟨t, 512 + d.toNat, none⟩ = some (.bool (T.squ d)) := ((hTw.cell _).trans (tabC_squ hdl)).trans (by rw [boolF, UInt8.ofNat_toNat])
          obtain ⟨u0, hu0⟩ : ∃ u0, cu[told.length]? = some u0 := ⟨_, Array.getElem?_eq_getElem (by omega)⟩
          have mw : wr.cell? ⟨g, told.length, none⟩ = some u0 := (hcb.cell _).trans hu0
          have mf : wr.frozen? ⟨g, told.length, none⟩ = false := hcb.frozen _
          have lg := hcb.lt
          have lt' := hTw.lt
          cases hgx : T.gone x with
          | true =>
            rw [hgx] at mg
            have hst : T.step (told, last) x = (told, last) := by unfold Pl.Tab.step; rw [if_pos hgx]
            have HNX := Lib.hid (hin.out.skip hx hst)
            clear hst hca hcz hcb hu0
            go_wp2_with fail
            exact ⟨⟨i + 1, told, last, by omega, by go_num, rfl, rfl, HNX⟩, by simp [intOf]; omega⟩
          | false =>
            rw [hgx] at mg
            cases hsx : T.squ d with
            | false =>
              rw [hsx] at ms
              have hst : T.step (told, last) x = (told ++ [d], (d.toNat : Int)) := by unfold Pl.Tab.step; rw [hgx, if_neg (by decide), hd, hsx, if_neg (by simp)]
              have HNX := Lib.hid (hin.out.put hx hst (by rw [HBL.out]; exact hcn))
              clear hst hca hcz hcb hu0
              go_wp2_with fail
              exact ⟨⟨i + 1, told ++ [d], _, by omega, by go_num, by rw [List.length_append, List.length_singleton]; go_num, rfl, HNX⟩, by simp [intOf]; omega⟩
            | true =>
              rw [hsx] at ms
              by_cases hlx : last = (d.toNat : Int)
              · have hlb : (last == (d.toNat : Int)) = true := by simp [hlx]
                have hst : T.step (told, last) x = (told, last) := by unfold Pl.Tab.step; rw [hgx, if_neg (by decide), hd, hsx, if_pos ⟨rfl, hlx⟩]
                have HNX := Lib.hid (hin.out.skip hx hst)
                clear hst hca hcz hcb hu0 hlx
                go_wp2_with fail
                exact ⟨⟨i + 1, told, last, by omega, by go_num, rfl, rfl, HNX⟩, by simp [intOf]; omega⟩
              · have hlb : (last == (d.toNat : Int)) = false := by simp [hlx]
                have hst : T.step (told, last) x = (told ++ [d], (d.toNat : Int)) := by unfold Pl.Tab.step; rw [hgx, if_neg (by decide), hd, hsx, if_neg (fun h => hlx h.2)]
                have HNX := Lib.hid (hin.out.put hx hst (by rw [HBL.out]; exact hcn))
                clear hst hca hcz hcb hu0 hlx
                go_wp2_with fail
                exact ⟨⟨i + 1, told ++ [d], _, by omega, by go_num, by rw [List.length_append, List.length_singleton]; go_num, rfl, HNX⟩, by simp [intOf]; omega⟩
        · obtain rfl : i = n := by omega
          obtain ⟨cu, hcb, hcz, _, hct⟩ := hin.out.blk
          have hf := hin.out.few
          have hfo : bs.foldl T.step ([], l0) = (told, last) := by have := hin.out.fold; rwa [List.take_of_length_le (by rw [HBL.out]; exact Nat.le_refl _)] at this
          have hgf : g ∉ X.foot F' := fun hm => by have := HS.out.job.foot_lt g (HFT.out g hm); omega
          have hJw : JobOf wr X F' := HJ4.out.turns hin.out.turns fun k hk hm => hgf ((List.mem_singleton.1 hm) ▸ hk)
          have hRd : Reads wr wr.heap.size 1 (some ⟨g, 0, none⟩) told.length (bytesC told) := ⟨by simp [bytesC], fun _ => ⟨_, rfl, hcb.lt, fun j u hu => by
            simp only [bytesC, List.getElem?_map, Option.map_eq_some_iff] at hu
            obtain ⟨y, hy, rfl⟩ := hu
            rw [addr0]
            exact (hcb.cell j).trans (hct j y hy)⟩⟩
          have hsl : (F'.said true).length = (done.foldl T.step ([], -1)).1.length := by rw [HC4.out.said, HS.out.said]
          have hgl := Pl.foldl_grow T done ([], -1)
          have hwr := jobSio wr X F' hJw (by rw [HC4.out.steps]; have := HS.out.steps; have := HIL.out; omega) true (some ⟨g, 0, none⟩) c told hRd (fun ad e => by cases e; exact hgf) (by omega) (by have := HIL.out; rw [hsl]; simp only [List.length_nil] at hgl; omega)
          have htc : (told.length : Int) ≤ (c : Int) := by omega
          clear hcb hcz hct hRd hgl hsl hch
          go_wp2_with ((go_at_call 119; refine hwr.mono ?_; rintro e w5 ⟨rfl, F2, hJ5, hW5, hWr5⟩))
          have hfc := fold_chunk T done bs ((done.foldl T.step ([], -1)).1, l0) (by rw [← HL0.out])
          rw [hfo] at hfc
          have hinb : F2.inb = F.inb.drop i := hWr5.inb.trans HC4.out.inb
          have hdl2 : (done ++ bs).length = done.length + i := by rw [List.length_append, HBL.out]
          go_roundg (F2.inb.length)
          case measure => rw [hinb, List.length_drop]; omega
          case rel =>
            refine ⟨F2, i, done ++ bs, rfl, by rw [hfc], Lib.hid ?_⟩
            have G04 := HS.out.gone.trans HG4.out
            have hs3 := HS.out.gone.turns.size
            have G0w : Gone X r F0 F' w3 wr := ⟨G04.turns.then hin.out.turns fun q hq hlt => by rw [List.mem_singleton] at hq; omega, G04.news⟩
            have hRw : RdAt wr r X (.slice none 0 0) (i : Int) false := (hin.out.turns.block r (Blk.lt HR4.out) (by rw [List.mem_singleton]; exact Blk.ne_ HR4.out HCU.out (by decide))).trans HR4.out
            have hTw : TabAt wr t T := (hin.out.turns.block t (Blk.lt HT4.out) (by rw [List.mem_singleton]; exact htg)).trans HT4.out
            exact {
              job := hJ5
              rd := hRw.went hJw hW5
              tab := (hW5.away (Blk.lt hTw) (hJw.off hTw (by decide) (by decide) (by decide) (by decide) (by decide) (by decide) (by decide) (by decide) (by decide))).1.trans hTw
              held := hWr5.held.trans HC4.out.held
              kb := by omega
              parts := by rw [hinb, ← HB.out, List.append_assoc, List.take_append_drop]; exact HS.out.parts
              said := by
                have := hWr5.said true
                rw [if_pos rfl] at this
                rw [this, hfc, HC4.out.said, HS.out.said]
              err := by
                have := hWr5.said false
                rw [if_neg (by decide)] at this
                rw [this, HC4.out.said, HS.out.err]
              steps := by
                have h1 := hWr5.steps
                have h2 := HC4.out.steps
                have h3 := HS.out.steps
                rw [hdl2]
                omega
              gone := G0w.trans (Gone.of_went hW5) }

end Go.Proofs.YtlhiadnolckoeaaGreatDoor
end
