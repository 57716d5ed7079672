/-
  Walks over the reference of layer 6: Has, Last; over the law's own same.
-/
import Derived.Test.YtnagiphjlfiifaaOptRef
namespace Go.Proofs.Ytnagiphjlfiifaa
open Go.RowKit

/-- does a letter stand among options; the last one's argument -/
def hasOpt (l : List Pl.Opt) (c : UInt8) : Bool := l.any fun o => o.1 == c
def lastOpt (l : List Pl.Opt) (c : UInt8) : Option ByteArray := (l.reverse.find? fun o => o.1 == c).map (·.2)

theorem hasOpt_cons (o : Pl.Opt) (l : List Pl.Opt) (c : UInt8) : hasOpt (o :: l) c = (o.1 == c || hasOpt l c) := rfl
theorem lastOpt_take (l : List Pl.Opt) (c : UInt8) (k : Nat) (h : k < l.length) : lastOpt (l.take (k + 1)) c = if (l[k]).1 == c then some (l[k]).2 else lastOpt (l.take k) c := by
  unfold lastOpt
  rw [List.take_succ_eq_append_getElem h, List.reverse_append]
  simp only [List.reverse_singleton, List.singleton_append, List.find?_cons]
  split <;> simp_all

theorem optCells_at {l : List Pl.Opt} {k : Nat} (h : k < l.length) : (optCells l)[2 * k]? = some (.int .u8 (l[k]).1.toNat) ∧ (optCells l)[2 * k + 1]? = some (.string (l[k]).2) := by
  induction l generalizing k with
  | nil => cases h
  | cons o l ih =>
    cases k with
    | zero => simp [optCells]
    | succ k =>
      have := ih (k := k) (by simpa using h)
      simpa [optCells, Nat.mul_add] using this

/-- the cells of the option at a place -/
theorem reads_opt {w : World} {B : Nat} {A : Option Addr} {l : List Pl.Opt} (h : Reads w B 2 A l.length (optCells l)) {k : Nat} (hk : k < l.length) :
    ∃ ad, A = some ad ∧ ad.block < B ∧ w.cell? (ad.add (k * 2)) = some (.int .u8 (l[k]).1.toNat) ∧ w.cell? ⟨(ad.add (k * 2)).block, (ad.add (k * 2)).off + 1, none⟩ = some (.string (l[k]).2) := by
  obtain ⟨ad, hA, hB, hc⟩ := h.2 (by omega)
  obtain ⟨h1, h2⟩ := optCells_at hk
  exact ⟨ad, hA, hB, by rw [Nat.mul_comm]; exact hc _ _ h1, by
    have e : (⟨(ad.add (k * 2)).block, (ad.add (k * 2)).off + 1, none⟩ : Addr) = ad.add (k * 2 + 1) := by rw [← add_of_add]; rfl
    rw [e, Nat.mul_comm]; exact hc _ _ h2⟩

set_option maxHeartbeats 400000 in
theorem refHas_any (A : Option Addr) (cap : Nat) (l : List Pl.Opt) (c : UInt8) (w : World) (B : Nat) (hr : Reads w B 2 A l.length (optCells l)) (hl : l.length ≤ 2097152) :
    Calls Try.prog 10 #[.slice A l.length cap, .int .u8 c.toNat] w fun e w' => e = .returned (.bool (hasOpt l c)) ∧ w = w' := by
  have hR := Lib.hid hr
  clear hr
  go_enter Try.func10, Try.ntmps10
  go_wp2
  go_loop [5] (fun i => ∃ k : Nat, k ≤ l.length ∧ i = .int .i64 k ∧ Hid (hasOpt l c = hasOpt (l.drop k) c)) (fun i => l.length - (intOf i).toNat)
  case atStart => exact ⟨0, Nat.zero_le _, rfl, Lib.hid (by simp)⟩
  case round =>
    obtain ⟨k, hk, rfl, hs⟩ := hrel
    by_cases hlt : k < l.length
    · obtain ⟨ad, rfl, hB, hc1, hc2⟩ := reads_opt hR.out hlt
      have hdr := Lib.hid (List.drop_eq_getElem_cons hlt)
      clear hc2
      by_cases hx : (l[k]).1 = c
      · have bx : (((l[k]).1.toNat : Int) == (c.toNat : Int)) = true := (Pl.u8_beq _ _).trans (beq_iff_eq.2 hx)
        have hfin := Lib.hid (hs.out.trans (by rw [hdr.out, hasOpt_cons, beq_iff_eq.2 hx]; rfl : _ = true))
        clear hx
        go_wp2
        go_returns
        exact ⟨by rw [hfin.out]; rfl, rfl⟩
      · have bx : (((l[k]).1.toNat : Int) == (c.toNat : Int)) = false := (Pl.u8_beq _ _).trans (beq_eq_false_iff_ne.2 hx)
        have hfin := Lib.hid (hs.out.trans (by rw [hdr.out, hasOpt_cons, beq_eq_false_iff_ne.2 hx]; rfl : _ = hasOpt (l.drop (k + 1)) c))
        clear hx
        go_wp2
        go_round
        case rel => exact ⟨k + 1, by omega, by go_num, hfin⟩
        case measure => simp [intOf]; omega
    · go_wp2
      go_returns
      exact ⟨by rw [hs.out, List.drop_eq_nil_of_le (by omega)]; rfl, rfl⟩

/-- what Last answers: the argument of the last one, or nothing -/
def lastPair (r : Option ByteArray) : Value := match r with
  | some t => .tuple #[.string t, .bool true]
  | none => .tuple #[.string ⟨#[]⟩, .bool false]

set_option maxHeartbeats 400000 in
theorem refLast_any (A : Option Addr) (cap : Nat) (l : List Pl.Opt) (c : UInt8) (w : World) (B : Nat) (hr : Reads w B 2 A l.length (optCells l)) (hl : l.length ≤ 2097152) :
    Calls Try.prog 12 #[.slice A l.length cap, .int .u8 c.toNat] w fun e w' => e = .returned (lastPair (lastOpt l c)) ∧ w = w' := by
  have hR := Lib.hid hr
  clear hr
  go_enter Try.func12, Try.ntmps12
  go_wp2
  go_loop [6] (fun i => ∃ k : Nat, k ≤ l.length ∧ i = .int .i64 ((k : Int) - 1) ∧ Hid (lastOpt l c = lastOpt (l.take k) c)) (fun i => (intOf i + 1).toNat)
  case atStart => exact ⟨l.length, Nat.le_refl _, rfl, Lib.hid (by rw [List.take_length])⟩
  case round =>
    obtain ⟨k, hk, rfl, hs⟩ := hrel
    cases k with
    | succ k =>
      have hlt : k < l.length := by omega
      obtain ⟨ad, rfl, hB, hc1, hc2⟩ := reads_opt hR.out hlt
      have htk := lastOpt_take l c k hlt
      have e1 : ((k + 1 : Nat) : Int) - 1 = (k : Int) := by omega
      by_cases hx : (l[k]).1 = c
      · have bx : (((l[k]).1.toNat : Int) == (c.toNat : Int)) = true := (Pl.u8_beq _ _).trans (beq_iff_eq.2 hx)
        have hfin := Lib.hid (hs.out.trans (by rw [htk, beq_iff_eq.2 hx]; rfl : _ = some (l[k]).2))
        clear hx htk
        rw [e1]
        clear e1
        go_wp2
        go_ret2
        exact ⟨by rw [hfin.out]; rfl, rfl⟩
      · have bx : (((l[k]).1.toNat : Int) == (c.toNat : Int)) = false := (Pl.u8_beq _ _).trans (beq_eq_false_iff_ne.2 hx)
        have hfin := Lib.hid (hs.out.trans (by rw [htk, beq_eq_false_iff_ne.2 hx]; rfl : _ = lastOpt (l.take k) c))
        clear hx htk
        rw [e1]
        clear e1
        go_wp2
        go_round
        case rel => exact ⟨k, by omega, rfl, hfin⟩
        case measure => simp [intOf]
    | zero =>
      go_wp2
      go_ret2
      exact ⟨by rw [hs.out]; rfl, rfl⟩

/-- are two lists of options, and two lists of strings, the same -/
def sameLists (a b : List Pl.Opt) (c d : List ByteArray) : Bool := a == b && c == d

end Go.Proofs.Ytnagiphjlfiifaa
