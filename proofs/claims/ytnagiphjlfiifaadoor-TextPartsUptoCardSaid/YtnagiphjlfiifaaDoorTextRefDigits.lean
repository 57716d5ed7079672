/-
  A walk over the reference's Digits.
-/
import Derived.Test.YtnagiphjlfiifaaDoorTextFormat
namespace Go.Proofs.YtnagiphjlfiifaaDoor
open Go.RowKit

namespace Pl
theorem room1 {b l v : Nat} (hb : 8 ≤ b) (hv : 1 ≤ v) (h : v * b ^ l < 18446744073709551616) : l ≤ 21 := by
  rcases Nat.lt_or_ge l 22 with h1 | h1
  · omega
  · have h2 : 8 ^ 22 ≤ b ^ l := Nat.le_trans (Nat.pow_le_pow_left hb 22) (Nat.pow_le_pow_right (by omega) h1)
    have h3 : 1 * 8 ^ 22 ≤ v * b ^ l := Nat.mul_le_mul (by omega) h2
    have h4 : (1 : Nat) * 8 ^ 22 = 73786976294838206464 := by decide
    omega
/-- the digits that are still to come -/
def more (b v : Nat) : List UInt8 := if v = 0 then [] else digs b v
theorem more_step {b v : Nat} (hb : 2 ≤ b) (h : v ≠ 0) : more b v = more b (v / b) ++ [sign (v % b)] := by
  unfold more
  rw [if_neg h]
  by_cases hs : v < b
  · rw [Nat.div_eq_of_lt hs, if_pos rfl, digs_small hs, Nat.mod_eq_of_lt hs]; rfl
  · have : v / b ≠ 0 := by
      have := Nat.div_pos (show b ≤ v by omega) (by omega)
      omega
    rw [if_neg this, digs_step hb (by omega)]
end Pl

def signs16 : ByteArray := ⟨#[48, 49, 50, 51, 52, 53, 54, 55, 56, 57, 97, 98, 99, 100, 101, 102]⟩
theorem signs16_get (k : Nat) (hk : k < 16) : signs16[k]'(show k < 16 from hk) = Pl.sign k := by
  have h : (List.range 16).all (fun k => decide (signs16.data[k]? = some (Pl.sign k))) = true := by decide
  have h1 := of_decide_eq_true (List.all_eq_true.1 h k (List.mem_range.2 hk))
  obtain ⟨_, h2⟩ := Array.getElem?_eq_some_iff.1 h1
  exact h2

/-- one, where nothing has been said yet -/
def outLack (v : Value) : Nat := match v with | .string s => if s.size = 0 then 1 else 0 | _ => 0
theorem outLack_le (v : Value) : outLack v ≤ 1 := by unfold outLack; split <;> (try split) <;> omega
theorem outLack_app (c : UInt8) (l : List UInt8) : outLack (.string (⟨#[c]⟩ ++ ⟨l.toArray⟩)) = 0 := by
  show (if ((⟨#[c]⟩ : ByteArray) ++ ⟨l.toArray⟩).size = 0 then 1 else 0) = 0
  rw [if_neg]
  rw [ByteArray.size_append]
  have : (⟨#[c]⟩ : ByteArray).size = 1 := rfl
  omega
theorem app_mk (c : UInt8) (l : List UInt8) : ((⟨#[c]⟩ : ByteArray) ++ ⟨l.toArray⟩) = ⟨(c :: l).toArray⟩ := by
  apply ByteArray.ext
  simp

/-- what stands at the head of a round: so many digits are there, the rest is still to come -/
def DigRel (b : Nat) (n : Int) (l : List UInt8) (r : Int) : Prop :=
  (l = [] ∧ r = n) ∨ (l ≠ [] ∧ Pl.digs b n.natAbs = Pl.more b r.natAbs ++ l)

theorem digRel_step8 {n : Int} {l : List UInt8} {r : Int} {m : Nat} (hd : DigRel 8 n l r) (hm : r.natAbs = m) (hm0 : m ≠ 0) (q : Int) (hq : q.natAbs = m / 8) : DigRel 8 n (Pl.sign (m % 8) :: l) q := by
  refine .inr ⟨by simp, ?_⟩
  rw [hq]
  rcases hd with ⟨rfl, rfl⟩ | ⟨_, h⟩
  · have h1 := Pl.more_step (b := 8) (v := m) (by omega) hm0
    have h2 : Pl.digs 8 r.natAbs = Pl.more 8 m := by unfold Pl.more; rw [if_neg hm0, hm]
    rw [h2, h1]
  · rw [h, hm, Pl.more_step (b := 8) (by omega) hm0, List.append_assoc]; rfl
theorem room_step8 {l : List UInt8} {r q : Int} {m : Nat} {c : UInt8} (hr : r.natAbs * 8 ^ l.length < 18446744073709551616) (hm : r.natAbs = m) (hq : q.natAbs = m / 8) : q.natAbs * 8 ^ (c :: l).length < 18446744073709551616 := by
  rw [hq, List.length_cons]
  rw [hm] at hr
  exact Pl.step_room hr

set_option maxRecDepth 100000 in
set_option maxHeartbeats 2000000 in
theorem refdig8 (n : Int) (w : World) (h0 : -9223372036854775808 ≤ n) (h1 : n ≤ 9223372036854775807) :
    Calls Tryd.prog 17 #[.int .i64 n, .int .i64 8] w fun e w' => e = .returned (.string ⟨(Pl.text 8 n).toArray⟩) ∧ Below w.heap.size w w' := by
  have hone : ∀ (W : World) (c : UInt8), (convert 25 9 (.slice (some ⟨W.heap.size, 0, none⟩) 1 1)).run Tryd.prog (W.alloc (.cells #[.int .u8 c.toNat] 5)) = .ok (.string ⟨#[c]⟩) (W.alloc (.cells #[.int .u8 c.toNat] 5)) := fun W c => by
    refine convert_string (P := Tryd.prog) Tryd.underlying25 Tryd.underlying5 Tryd.underlying9 (B := W.heap.size + 1) (l := [c]) ⟨rfl, fun _ => ⟨_, rfl, by simp, fun j u hu => ?_⟩⟩
    have e : (⟨W.heap.size, 0, none⟩ : Addr).add j = ⟨W.heap.size, j, none⟩ := by unfold Addr.add; split <;> simp_all
    rw [e, (Blk.new W _ _).cell j]
    simpa [bytesC] using hu
  go_enter Tryd.func17, Tryd.ntmps17
  go_wp2
  go_loopw [6, 7, 8] (fun out rest d wr => ∃ (l : List UInt8) (r : Int), Hid (DigRel 8 n l r) ∧ -9223372036854775808 ≤ r ∧ r ≤ 9223372036854775807 ∧ Hid (r.natAbs * 8 ^ l.length < 18446744073709551616) ∧ l.length ≤ 22 ∧ out = .string ⟨l.toArray⟩ ∧ rest = .int .i64 r ∧ Below w.heap.size w wr) (fun out rest _ _ => (intOf rest).natAbs * 2 + outLack out)
  case atStart => exact ⟨[], n, Lib.hid (.inl ⟨rfl, rfl⟩), h0, h1, Lib.hid (by simp; omega), by simp, rfl, rfl, Below.refl _ _⟩
  case round =>
    obtain ⟨l, r, hd, hr0, hr1, hr, hl, rfl, rfl, hbw⟩ := hrel
    have hsz := hbw.size
    by_cases hz : r = 0
    · subst hz
      rcases l with _ | ⟨c, l⟩
      · have hn : n = 0 := by rcases hd.out with ⟨_, h⟩ | ⟨h, _⟩; exact h.symm; exact absurd rfl h
        have hs := signs16_get 0 (by omega)
        unfold signs16 at hs
        have HN := Lib.hid hn
        clear hn hd
        go_wp2
        go_roundw
        case rel =>
          refine ⟨[Pl.sign 0], 0, Lib.hid (.inr ⟨by simp, by rw [HN.out]; rw [show (0 : Int).natAbs = 0 from rfl, Pl.digs_small (by omega)]; simp [Pl.more]⟩), by omega, by omega, Lib.hid (by simp), by simp, by first | rfl | (rw [app_mk]), rfl, ?_⟩
          first | exact hbw.alloc hsz _ | exact (hbw.trans ((Below.refl _ _).alloc (Nat.le_refl _) _))
        case measure => rw [show outLack (.string ⟨#[]⟩) = 1 from rfl]; first | (rw [outLack_app]; simp [intOf]) | (simp [intOf, outLack])
      · have HD : Hid (Pl.digs 8 n.natAbs = c :: l) := by
          rcases hd.out with ⟨h, _⟩ | ⟨_, h⟩
          · cases h
          · exact Lib.hid (by rw [h]; simp [Pl.more])
        clear hd hr
        have hl' : l.length ≤ 21 := by simpa using hl
        by_cases hn : n < 0
        · go_wp2
          go_ret
          exact ⟨by unfold Pl.text; rw [if_pos (by omega), HD.out]; exact congrArg (fun x => Ending.returned (.string x)) (app_mk 45 (c :: l)), hbw⟩
        · go_wp2
          go_ret
          exact ⟨by unfold Pl.text; rw [if_neg (by omega), HD.out]; rfl, hbw⟩
    · have hne : (r != 0) = true := by simp [hz]
      by_cases hp : 0 ≤ r
      · obtain ⟨m, rfl⟩ := Int.eq_ofNat_of_zero_le hp
        have hs := signs16_get (m % 8) (by omega)
        unfold signs16 at hs
        have hl2 := Pl.room1 (b := 8) (v := m) (by omega) (by omega) hr.out
        go_wp2
        go_roundw
        case rel =>
          refine ⟨Pl.sign (m % 8) :: l, ((m / 8 : Nat) : Int), Lib.hid (digRel_step8 hd.out rfl (by omega) _ rfl), by omega, by omega, Lib.hid (room_step8 hr.out rfl rfl), by simp; omega, by rw [app_mk], by go_num, ?_⟩
          exact hbw.alloc hsz _
        case measure => rw [outLack_app]; simp [intOf]; omega
      · obtain ⟨m, hm⟩ := Int.eq_ofNat_of_zero_le (show 0 ≤ -r by omega)
        obtain rfl : r = -(m : Int) := by omega
        clear hm
        have hl2 := Pl.room1 (b := 8) (v := m) (by omega) (by omega) (show m * 8 ^ l.length < _ by have := hr.out; rwa [Int.natAbs_neg] at this)
        have hq : (-(m : Int)).tdiv 8 = -((m / 8 : Nat) : Int) := by rw [Int.neg_tdiv]; rfl
        have ht : (-(m : Int)).tmod 8 = -((m % 8 : Nat) : Int) := by rw [Int.neg_tmod]; rfl
        obtain ⟨q, hq'⟩ : ∃ q : Nat, m / 8 = q := ⟨_, rfl⟩
        obtain ⟨d, hd'⟩ : ∃ d : Nat, m % 8 = d := ⟨_, rfl⟩
        have hdl : d < 8 := by omega
        have hql : q * 8 ≤ m := by omega
        rw [hq'] at hq
        rw [hd'] at ht
        have HQ := Lib.hid hq'
        have HT := Lib.hid hd'
        clear hq' hd'
        by_cases hd0 : d = 0
        · subst hd0
          have hs := signs16_get 0 (by omega)
          unfold signs16 at hs
          go_wp2
          go_roundw
          case rel =>
            refine ⟨Pl.sign (m % 8) :: l, -(q : Int), Lib.hid (digRel_step8 hd.out (by omega) (by omega) _ (by have := HQ.out; omega)), by omega, by omega, Lib.hid (room_step8 hr.out (m := m) (by omega) (by have := HQ.out; omega)), by simp; omega, by rw [HT.out, app_mk], rfl, ?_⟩
            exact hbw.alloc hsz _
          case measure => rw [outLack_app]; simp [intOf]; omega
        · have hs := signs16_get d (by omega)
          unfold signs16 at hs
          go_wp2
          go_roundw
          case rel =>
            refine ⟨Pl.sign (m % 8) :: l, -(q : Int), Lib.hid (digRel_step8 hd.out (by omega) (by omega) _ (by have := HQ.out; omega)), by omega, by omega, Lib.hid (room_step8 hr.out (m := m) (by omega) (by have := HQ.out; omega)), by simp; omega, by rw [HT.out, app_mk], rfl, ?_⟩
            exact hbw.alloc hsz _
          case measure => rw [outLack_app]; simp [intOf]; omega

theorem digRel_step10 {n : Int} {l : List UInt8} {r : Int} {m : Nat} (hd : DigRel 10 n l r) (hm : r.natAbs = m) (hm0 : m ≠ 0) (q : Int) (hq : q.natAbs = m / 10) : DigRel 10 n (Pl.sign (m % 10) :: l) q := by
  refine .inr ⟨by simp, ?_⟩
  rw [hq]
  rcases hd with ⟨rfl, rfl⟩ | ⟨_, h⟩
  · have h1 := Pl.more_step (b := 10) (v := m) (by omega) hm0
    have h2 : Pl.digs 10 r.natAbs = Pl.more 10 m := by unfold Pl.more; rw [if_neg hm0, hm]
    rw [h2, h1]
  · rw [h, hm, Pl.more_step (b := 10) (by omega) hm0, List.append_assoc]; rfl
theorem room_step10 {l : List UInt8} {r q : Int} {m : Nat} {c : UInt8} (hr : r.natAbs * 10 ^ l.length < 18446744073709551616) (hm : r.natAbs = m) (hq : q.natAbs = m / 10) : q.natAbs * 10 ^ (c :: l).length < 18446744073709551616 := by
  rw [hq, List.length_cons]
  rw [hm] at hr
  exact Pl.step_room hr

set_option maxRecDepth 100000 in
set_option maxHeartbeats 2000000 in
theorem refdig10 (n : Int) (w : World) (h0 : -9223372036854775808 ≤ n) (h1 : n ≤ 9223372036854775807) :
    Calls Tryd.prog 17 #[.int .i64 n, .int .i64 10] w fun e w' => e = .returned (.string ⟨(Pl.text 10 n).toArray⟩) ∧ Below w.heap.size w w' := by
  have hone : ∀ (W : World) (c : UInt8), (convert 25 9 (.slice (some ⟨W.heap.size, 0, none⟩) 1 1)).run Tryd.prog (W.alloc (.cells #[.int .u8 c.toNat] 5)) = .ok (.string ⟨#[c]⟩) (W.alloc (.cells #[.int .u8 c.toNat] 5)) := fun W c => by
    refine convert_string (P := Tryd.prog) Tryd.underlying25 Tryd.underlying5 Tryd.underlying9 (B := W.heap.size + 1) (l := [c]) ⟨rfl, fun _ => ⟨_, rfl, by simp, fun j u hu => ?_⟩⟩
    have e : (⟨W.heap.size, 0, none⟩ : Addr).add j = ⟨W.heap.size, j, none⟩ := by unfold Addr.add; split <;> simp_all
    rw [e, (Blk.new W _ _).cell j]
    simpa [bytesC] using hu
  go_enter Tryd.func17, Tryd.ntmps17
  go_wp2
  go_loopw [6, 7, 8] (fun out rest d wr => ∃ (l : List UInt8) (r : Int), Hid (DigRel 10 n l r) ∧ -9223372036854775808 ≤ r ∧ r ≤ 9223372036854775807 ∧ Hid (r.natAbs * 10 ^ l.length < 18446744073709551616) ∧ l.length ≤ 22 ∧ out = .string ⟨l.toArray⟩ ∧ rest = .int .i64 r ∧ Below w.heap.size w wr) (fun out rest _ _ => (intOf rest).natAbs * 2 + outLack out)
  case atStart => exact ⟨[], n, Lib.hid (.inl ⟨rfl, rfl⟩), h0, h1, Lib.hid (by simp; omega), by simp, rfl, rfl, Below.refl _ _⟩
  case round =>
    obtain ⟨l, r, hd, hr0, hr1, hr, hl, rfl, rfl, hbw⟩ := hrel
    have hsz := hbw.size
    by_cases hz : r = 0
    · subst hz
      rcases l with _ | ⟨c, l⟩
      · have hn : n = 0 := by rcases hd.out with ⟨_, h⟩ | ⟨h, _⟩; exact h.symm; exact absurd rfl h
        have hs := signs16_get 0 (by omega)
        unfold signs16 at hs
        have HN := Lib.hid hn
        clear hn hd
        go_wp2
        go_roundw
        case rel =>
          refine ⟨[Pl.sign 0], 0, Lib.hid (.inr ⟨by simp, by rw [HN.out]; rw [show (0 : Int).natAbs = 0 from rfl, Pl.digs_small (by omega)]; simp [Pl.more]⟩), by omega, by omega, Lib.hid (by simp), by simp, by first | rfl | (rw [app_mk]), rfl, ?_⟩
          first | exact hbw.alloc hsz _ | exact (hbw.trans ((Below.refl _ _).alloc (Nat.le_refl _) _))
        case measure => rw [show outLack (.string ⟨#[]⟩) = 1 from rfl]; first | (rw [outLack_app]; simp [intOf]) | (simp [intOf, outLack])
      · have HD : Hid (Pl.digs 10 n.natAbs = c :: l) := by
          rcases hd.out with ⟨h, _⟩ | ⟨_, h⟩
          · cases h
          · exact Lib.hid (by rw [h]; simp [Pl.more])
        clear hd hr
        have hl' : l.length ≤ 21 := by simpa using hl
        by_cases hn : n < 0
        · go_wp2
          go_ret
          exact ⟨by unfold Pl.text; rw [if_pos (by omega), HD.out]; exact congrArg (fun x => Ending.returned (.string x)) (app_mk 45 (c :: l)), hbw⟩
        · go_wp2
          go_ret
          exact ⟨by unfold Pl.text; rw [if_neg (by omega), HD.out]; rfl, hbw⟩
    · have hne : (r != 0) = true := by simp [hz]
      by_cases hp : 0 ≤ r
      · obtain ⟨m, rfl⟩ := Int.eq_ofNat_of_zero_le hp
        have hs := signs16_get (m % 10) (by omega)
        unfold signs16 at hs
        have hl2 := Pl.room1 (b := 10) (v := m) (by omega) (by omega) hr.out
        go_wp2
        go_roundw
        case rel =>
          refine ⟨Pl.sign (m % 10) :: l, ((m / 10 : Nat) : Int), Lib.hid (digRel_step10 hd.out rfl (by omega) _ rfl), by omega, by omega, Lib.hid (room_step10 hr.out rfl rfl), by simp; omega, by rw [app_mk], by go_num, ?_⟩
          exact hbw.alloc hsz _
        case measure => rw [outLack_app]; simp [intOf]; omega
      · obtain ⟨m, hm⟩ := Int.eq_ofNat_of_zero_le (show 0 ≤ -r by omega)
        obtain rfl : r = -(m : Int) := by omega
        clear hm
        have hl2 := Pl.room1 (b := 10) (v := m) (by omega) (by omega) (show m * 10 ^ l.length < _ by have := hr.out; rwa [Int.natAbs_neg] at this)
        have hq : (-(m : Int)).tdiv 10 = -((m / 10 : Nat) : Int) := by rw [Int.neg_tdiv]; rfl
        have ht : (-(m : Int)).tmod 10 = -((m % 10 : Nat) : Int) := by rw [Int.neg_tmod]; rfl
        obtain ⟨q, hq'⟩ : ∃ q : Nat, m / 10 = q := ⟨_, rfl⟩
        obtain ⟨d, hd'⟩ : ∃ d : Nat, m % 10 = d := ⟨_, rfl⟩
        have hdl : d < 10 := by omega
        have hql : q * 10 ≤ m := by omega
        rw [hq'] at hq
        rw [hd'] at ht
        have HQ := Lib.hid hq'
        have HT := Lib.hid hd'
        clear hq' hd'
        by_cases hd0 : d = 0
        · subst hd0
          have hs := signs16_get 0 (by omega)
          unfold signs16 at hs
          go_wp2
          go_roundw
          case rel =>
            refine ⟨Pl.sign (m % 10) :: l, -(q : Int), Lib.hid (digRel_step10 hd.out (by omega) (by omega) _ (by have := HQ.out; omega)), by omega, by omega, Lib.hid (room_step10 hr.out (m := m) (by omega) (by have := HQ.out; omega)), by simp; omega, by rw [HT.out, app_mk], rfl, ?_⟩
            exact hbw.alloc hsz _
          case measure => rw [outLack_app]; simp [intOf]; omega
        · have hs := signs16_get d (by omega)
          unfold signs16 at hs
          go_wp2
          go_roundw
          case rel =>
            refine ⟨Pl.sign (m % 10) :: l, -(q : Int), Lib.hid (digRel_step10 hd.out (by omega) (by omega) _ (by have := HQ.out; omega)), by omega, by omega, Lib.hid (room_step10 hr.out (m := m) (by omega) (by have := HQ.out; omega)), by simp; omega, by rw [HT.out, app_mk], rfl, ?_⟩
            exact hbw.alloc hsz _
          case measure => rw [outLack_app]; simp [intOf]; omega

theorem digRel_step16 {n : Int} {l : List UInt8} {r : Int} {m : Nat} (hd : DigRel 16 n l r) (hm : r.natAbs = m) (hm0 : m ≠ 0) (q : Int) (hq : q.natAbs = m / 16) : DigRel 16 n (Pl.sign (m % 16) :: l) q := by
  refine .inr ⟨by simp, ?_⟩
  rw [hq]
  rcases hd with ⟨rfl, rfl⟩ | ⟨_, h⟩
  · have h1 := Pl.more_step (b := 16) (v := m) (by omega) hm0
    have h2 : Pl.digs 16 r.natAbs = Pl.more 16 m := by unfold Pl.more; rw [if_neg hm0, hm]
    rw [h2, h1]
  · rw [h, hm, Pl.more_step (b := 16) (by omega) hm0, List.append_assoc]; rfl
theorem room_step16 {l : List UInt8} {r q : Int} {m : Nat} {c : UInt8} (hr : r.natAbs * 16 ^ l.length < 18446744073709551616) (hm : r.natAbs = m) (hq : q.natAbs = m / 16) : q.natAbs * 16 ^ (c :: l).length < 18446744073709551616 := by
  rw [hq, List.length_cons]
  rw [hm] at hr
  exact Pl.step_room hr

set_option maxRecDepth 100000 in
set_option maxHeartbeats 2000000 in
theorem refdig16 (n : Int) (w : World) (h0 : -9223372036854775808 ≤ n) (h1 : n ≤ 9223372036854775807) :
    Calls Tryd.prog 17 #[.int .i64 n, .int .i64 16] w fun e w' => e = .returned (.string ⟨(Pl.text 16 n).toArray⟩) ∧ Below w.heap.size w w' := by
  have hone : ∀ (W : World) (c : UInt8), (convert 25 9 (.slice (some ⟨W.heap.size, 0, none⟩) 1 1)).run Tryd.prog (W.alloc (.cells #[.int .u8 c.toNat] 5)) = .ok (.string ⟨#[c]⟩) (W.alloc (.cells #[.int .u8 c.toNat] 5)) := fun W c => by
    refine convert_string (P := Tryd.prog) Tryd.underlying25 Tryd.underlying5 Tryd.underlying9 (B := W.heap.size + 1) (l := [c]) ⟨rfl, fun _ => ⟨_, rfl, by simp, fun j u hu => ?_⟩⟩
    have e : (⟨W.heap.size, 0, none⟩ : Addr).add j = ⟨W.heap.size, j, none⟩ := by unfold Addr.add; split <;> simp_all
    rw [e, (Blk.new W _ _).cell j]
    simpa [bytesC] using hu
  go_enter Tryd.func17, Tryd.ntmps17
  go_wp2
  go_loopw [6, 7, 8] (fun out rest d wr => ∃ (l : List UInt8) (r : Int), Hid (DigRel 16 n l r) ∧ -9223372036854775808 ≤ r ∧ r ≤ 9223372036854775807 ∧ Hid (r.natAbs * 16 ^ l.length < 18446744073709551616) ∧ l.length ≤ 22 ∧ out = .string ⟨l.toArray⟩ ∧ rest = .int .i64 r ∧ Below w.heap.size w wr) (fun out rest _ _ => (intOf rest).natAbs * 2 + outLack out)
  case atStart => exact ⟨[], n, Lib.hid (.inl ⟨rfl, rfl⟩), h0, h1, Lib.hid (by simp; omega), by simp, rfl, rfl, Below.refl _ _⟩
  case round =>
    obtain ⟨l, r, hd, hr0, hr1, hr, hl, rfl, rfl, hbw⟩ := hrel
    have hsz := hbw.size
    by_cases hz : r = 0
    · subst hz
      rcases l with _ | ⟨c, l⟩
      · have hn : n = 0 := by rcases hd.out with ⟨_, h⟩ | ⟨h, _⟩; exact h.symm; exact absurd rfl h
        have hs := signs16_get 0 (by omega)
        unfold signs16 at hs
        have HN := Lib.hid hn
        clear hn hd
        go_wp2
        go_roundw
        case rel =>
          refine ⟨[Pl.sign 0], 0, Lib.hid (.inr ⟨by simp, by rw [HN.out]; rw [show (0 : Int).natAbs = 0 from rfl, Pl.digs_small (by omega)]; simp [Pl.more]⟩), by omega, by omega, Lib.hid (by simp), by simp, by first | rfl | (rw [app_mk]), rfl, ?_⟩
          first | exact hbw.alloc hsz _ | exact (hbw.trans ((Below.refl _ _).alloc (Nat.le_refl _) _))
        case measure => rw [show outLack (.string ⟨#[]⟩) = 1 from rfl]; first | (rw [outLack_app]; simp [intOf]) | (simp [intOf, outLack])
      · have HD : Hid (Pl.digs 16 n.natAbs = c :: l) := by
          rcases hd.out with ⟨h, _⟩ | ⟨_, h⟩
          · cases h
          · exact Lib.hid (by rw [h]; simp [Pl.more])
        clear hd hr
        have hl' : l.length ≤ 21 := by simpa using hl
        by_cases hn : n < 0
        · go_wp2
          go_ret
          exact ⟨by unfold Pl.text; rw [if_pos (by omega), HD.out]; exact congrArg (fun x => Ending.returned (.string x)) (app_mk 45 (c :: l)), hbw⟩
        · go_wp2
          go_ret
          exact ⟨by unfold Pl.text; rw [if_neg (by omega), HD.out]; rfl, hbw⟩
    · have hne : (r != 0) = true := by simp [hz]
      by_cases hp : 0 ≤ r
      · obtain ⟨m, rfl⟩ := Int.eq_ofNat_of_zero_le hp
        have hs := signs16_get (m % 16) (by omega)
        unfold signs16 at hs
        have hl2 := Pl.room1 (b := 16) (v := m) (by omega) (by omega) hr.out
        go_wp2
        go_roundw
        case rel =>
          refine ⟨Pl.sign (m % 16) :: l, ((m / 16 : Nat) : Int), Lib.hid (digRel_step16 hd.out rfl (by omega) _ rfl), by omega, by omega, Lib.hid (room_step16 hr.out rfl rfl), by simp; omega, by rw [app_mk], by go_num, ?_⟩
          exact hbw.alloc hsz _
        case measure => rw [outLack_app]; simp [intOf]; omega
      · obtain ⟨m, hm⟩ := Int.eq_ofNat_of_zero_le (show 0 ≤ -r by omega)
        obtain rfl : r = -(m : Int) := by omega
        clear hm
        have hl2 := Pl.room1 (b := 16) (v := m) (by omega) (by omega) (show m * 16 ^ l.length < _ by have := hr.out; rwa [Int.natAbs_neg] at this)
        have hq : (-(m : Int)).tdiv 16 = -((m / 16 : Nat) : Int) := by rw [Int.neg_tdiv]; rfl
        have ht : (-(m : Int)).tmod 16 = -((m % 16 : Nat) : Int) := by rw [Int.neg_tmod]; rfl
        obtain ⟨q, hq'⟩ : ∃ q : Nat, m / 16 = q := ⟨_, rfl⟩
        obtain ⟨d, hd'⟩ : ∃ d : Nat, m % 16 = d := ⟨_, rfl⟩
        have hdl : d < 16 := by omega
        have hql : q * 16 ≤ m := by omega
        rw [hq'] at hq
        rw [hd'] at ht
        have HQ := Lib.hid hq'
        have HT := Lib.hid hd'
        clear hq' hd'
        by_cases hd0 : d = 0
        · subst hd0
          have hs := signs16_get 0 (by omega)
          unfold signs16 at hs
          go_wp2
          go_roundw
          case rel =>
            refine ⟨Pl.sign (m % 16) :: l, -(q : Int), Lib.hid (digRel_step16 hd.out (by omega) (by omega) _ (by have := HQ.out; omega)), by omega, by omega, Lib.hid (room_step16 hr.out (m := m) (by omega) (by have := HQ.out; omega)), by simp; omega, by rw [HT.out, app_mk], rfl, ?_⟩
            exact hbw.alloc hsz _
          case measure => rw [outLack_app]; simp [intOf]; omega
        · have hs := signs16_get d (by omega)
          unfold signs16 at hs
          go_wp2
          go_roundw
          case rel =>
            refine ⟨Pl.sign (m % 16) :: l, -(q : Int), Lib.hid (digRel_step16 hd.out (by omega) (by omega) _ (by have := HQ.out; omega)), by omega, by omega, Lib.hid (room_step16 hr.out (m := m) (by omega) (by have := HQ.out; omega)), by simp; omega, by rw [HT.out, app_mk], rfl, ?_⟩
            exact hbw.alloc hsz _
          case measure => rw [outLack_app]; simp [intOf]; omega

set_option maxHeartbeats 1000000 in
theorem refdigits_any (n b : Int) (w : World) (h0 : -9223372036854775808 ≤ n) (h1 : n ≤ 9223372036854775807) :
    Calls Tryd.prog 17 #[.int .i64 n, .int .i64 b] w fun e w' => e = .returned (.string (textOf b n)) ∧ Below w.heap.size w w' := by
  by_cases hb : b = 8 ∨ b = 10 ∨ b = 16
  · rcases hb with rfl | rfl | rfl
    · exact refdig8 n w h0 h1
    · exact refdig10 n w h0 h1
    · exact refdig16 n w h0 h1
  · have h8 : (b == 8) = false := by rw [beq_eq_false_iff_ne]; omega
    have h10 : (b == 10) = false := by rw [beq_eq_false_iff_ne]; omega
    have h16 : (b == 16) = false := by rw [beq_eq_false_iff_ne]; omega
    have g8 : (b != 8) = true := by rw [bne, h8]; rfl
    have g10 : (b != 10) = true := by rw [bne, h10]; rfl
    have g16 : (b != 16) = true := by rw [bne, h16]; rfl
    have he : textOf b n = ⟨#[]⟩ := by unfold textOf; rw [if_neg hb]
    rw [he]
    clear he hb
    go_enter Tryd.func17, Tryd.ntmps17
    go_wp2
    go_ret
    exact ⟨rfl, Below.refl _ _⟩

end Go.Proofs.YtnagiphjlfiifaaDoor
