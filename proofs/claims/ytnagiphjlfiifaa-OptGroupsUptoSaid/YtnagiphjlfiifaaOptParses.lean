/-
  The walk of OptParses: for every input of bounded bulk the call returns true, and nothing that lay has turned.
-/
import Derived.Test.YtnagiphjlfiifaaOptAwake
namespace Go.Proofs.Ytnagiphjlfiifaa
open Go.RowKit

namespace Pl
theorem inner_len (kd : UInt8 → Int) (args : List ByteArray) : ∀ (bs : List UInt8) (i : Nat) (l : List Opt) (j : Nat), i ≤ args.length → inner kd args bs i = some (l, j) → j ≤ args.length := by
  intro bs
  induction bs with
  | nil => intro i l j hi h; simp [inner] at h; omega
  | cons c bs ih =>
    intro i l j hi h
    unfold inner at h
    split at h
    · cases h
    split at h
    · cases hn : inner kd args bs i with
      | none => rw [hn] at h; simp at h
      | some p =>
        obtain ⟨l', j'⟩ := p
        rw [hn] at h; simp at h
        have := ih i l' j' hi hn
        omega
    split at h
    · simp at h; omega
    split at h
    · cases h
    · rename_i x hx
      have : i < args.length := (List.getElem?_eq_some_iff.1 hx).1
      simp at h; omega

theorem outer_len (kd : UInt8 → Int) (args : List ByteArray) : ∀ (f i : Nat) (l : List Opt) (j : Nat), args.length - i ≤ f → i ≤ args.length → outer kd args i = some (l, j) → j ≤ args.length := by
  intro f
  induction f with
  | zero =>
    intro i l j hf hi h
    rw [outer, List.getElem?_eq_none (by omega)] at h
    simp at h; omega
  | succ f ih =>
    intro i l j hf hi h
    rw [outer] at h
    split at h
    · simp at h; omega
    · rename_i a ha
      have hlt : i < args.length := (List.getElem?_eq_some_iff.1 ha).1
      split at h
      · simp at h; omega
      split at h
      · simp at h; omega
      split at h
      · cases h
      · rename_i l1 j1 hin
        split at h
        · rename_i hij
          have hj1 := inner_len kd args _ _ _ _ (by omega) hin
          cases ho : outer kd args j1 with
          | none => rw [ho] at h; simp at h
          | some q =>
            obtain ⟨l2, j2⟩ := q
            rw [ho] at h; simp at h
            have := ih j1 l2 j2 (by omega) hj1 ho
            omega
        · cases h
/-- how many options there can be -/
theorem inner_many (kd : UInt8 → Int) (args : List ByteArray) : ∀ (bs : List UInt8) (i : Nat) (l : List Opt) (j : Nat), inner kd args bs i = some (l, j) → l.length ≤ bs.length := by
  intro bs
  induction bs with
  | nil => intro i l j h; simp [inner] at h; simp [← h.1]
  | cons c bs ih =>
    intro i l j h
    unfold inner at h
    split at h
    · cases h
    split at h
    · cases hn : inner kd args bs i with
      | none => rw [hn] at h; simp at h
      | some p =>
        obtain ⟨l', j'⟩ := p
        rw [hn] at h; simp at h
        have := ih i l' j' hn
        simp [← h.1]; omega
    split at h
    · simp at h; simp [← h.1]
    split at h
    · cases h
    · simp at h; simp [← h.1]
theorem outer_many (kd : UInt8 → Int) (args : List ByteArray) : ∀ (f i : Nat) (l : List Opt) (j : Nat), args.length - i ≤ f → outer kd args i = some (l, j) → l.length ≤ total (args.drop i) := by
  intro f
  induction f with
  | zero =>
    intro i l j hf h
    rw [outer, List.getElem?_eq_none (by omega)] at h
    simp only [Option.some.injEq, Prod.mk.injEq] at h
    obtain ⟨rfl, _⟩ := h
    exact Nat.zero_le _
  | succ f ih =>
    intro i l j hf h
    rw [outer] at h
    split at h
    · simp only [Option.some.injEq, Prod.mk.injEq] at h
      obtain ⟨rfl, _⟩ := h
      exact Nat.zero_le _
    · rename_i a ha
      have hlt : i < args.length := (List.getElem?_eq_some_iff.1 ha).1
      have htot := total_drop ha
      split at h
      · simp only [Option.some.injEq, Prod.mk.injEq] at h
        obtain ⟨rfl, _⟩ := h
        exact Nat.zero_le _
      split at h
      · simp only [Option.some.injEq, Prod.mk.injEq] at h
        obtain ⟨rfl, _⟩ := h
        exact Nat.zero_le _
      split at h
      · cases h
      · rename_i l1 j1 hin
        split at h
        · rename_i hij
          have h1 := inner_many kd args _ _ _ _ hin
          rw [List.length_drop, Array.length_toList] at h1
          have h1' : l1.length ≤ a.size - 1 := h1
          cases ho : outer kd args j1 with
          | none => rw [ho] at h; simp at h
          | some q =>
            obtain ⟨l2, j2⟩ := q
            rw [ho] at h; simp at h
            have h2 := ih j1 l2 j2 (by omega) ho
            have h3 : total (args.drop j1) ≤ total (args.drop (i + 1)) := by
              have : ∀ d, total (args.drop (i + 1 + d)) ≤ total (args.drop (i + 1)) := by
                intro d
                induction d with
                | zero => exact Nat.le_refl _
                | succ d ihd => exact Nat.le_trans (total_drop_le args (i + 1 + d)) ihd
              have h := this (j1 - (i + 1))
              rwa [show i + 1 + (j1 - (i + 1)) = j1 from by omega] at h
            rw [← h.1, List.length_append]
            omega
        · cases h

/-- what both sides come to: the options, the operands, the error -/
def outcome (args : List ByteArray) : Option (List Opt × Nat) → List Opt × List ByteArray × Int
  | none => ([], [], 19)
  | some (l, j) => (l, args.drop j, 0)
end Pl

theorem parsed_form {w w' : World} {args : List ByteArray} {r : Option (List Pl.Opt × Nat)} {e : Ending} (h : Parsed w args r e w') :
    ∃ Aa ca Ac cc, e = .returned (.tuple #[.slice Aa (Pl.outcome args r).1.length ca, .slice Ac (Pl.outcome args r).2.1.length cc, .int .i64 (Pl.outcome args r).2.2]) ∧
      Reads w' w'.heap.size 2 Aa (Pl.outcome args r).1.length (optCells (Pl.outcome args r).1) ∧ w'.ownsRow w.heap.size 9 1 (.slice Ac (Pl.outcome args r).2.1.length cc) (Pl.outcome args r).2.1.length (strs (Pl.outcome args r).2.1) ∧ Below w.heap.size w w' := by
  obtain ⟨hb, h⟩ := h
  cases r with
  | none => exact ⟨none, 0, none, 0, h, Reads.none_, World.ownsRow_nil _ _ _ _, hb⟩
  | some p =>
    obtain ⟨l, j⟩ := p
    obtain ⟨v, v2, rfl, h1, h2⟩ := h
    have hl : (args.drop j).length = args.length - j := List.length_drop
    rw [← hl] at h2
    obtain ⟨Aa, ca, rfl, _, hr1⟩ := own_slice h1
    obtain ⟨Ac, cc, rfl, _, hr2⟩ := own_slice h2
    exact ⟨Aa, ca, Ac, cc, rfl, hr1, h2, hb⟩

theorem refParsed_form {w w' : World} {A : Option Addr} {cap : Nat} {args : List ByteArray} {r : Option (List Pl.Opt × Nat)} {e : Ending} (h : RefParsed w A args.length cap r e w')
    (hr : Reads w w.heap.size 1 A args.length (strs args)) (hc : args.length ≤ cap) (hj : ∀ l j, r = some (l, j) → j ≤ args.length) :
    ∃ Ab cb Ad cd, e = .returned (.tuple #[.slice Ab (Pl.outcome args r).1.length cb, .slice Ad (Pl.outcome args r).2.1.length cd, .int .i64 (Pl.outcome args r).2.2]) ∧
      Reads w' w'.heap.size 2 Ab (Pl.outcome args r).1.length (optCells (Pl.outcome args r).1) ∧ Reads w' w'.heap.size 1 Ad (Pl.outcome args r).2.1.length (strs (Pl.outcome args r).2.1) ∧ Below w.heap.size w w' := by
  obtain ⟨hb, h⟩ := h
  cases r with
  | none => exact ⟨none, 0, none, 0, h, Reads.none_, Reads.none_, hb⟩
  | some p =>
    obtain ⟨l, j⟩ := p
    obtain ⟨v, rfl, h1⟩ := h
    have hjl := hj l j rfl
    have hl : (args.drop j).length = args.length - j := List.length_drop
    obtain ⟨Aa, ca, rfl, _, hr1⟩ := own_slice h1
    have h2 := (hr.cutA (k := j) (cap := cap) hjl hc)
    rw [Nat.mul_one, ← strs_drop, ← hl] at h2
    refine ⟨Aa, ca, cutA A cap j 1, cap - j, by simp only [cutAt, Pl.outcome, hl], hr1, (h2.below hb).more hb.size, hb⟩

/-- Last's answer, by its parts -/
def lastStr (r : Option ByteArray) : ByteArray := r.getD ⟨#[]⟩
theorem lastPair_eq (r : Option ByteArray) : lastPair r = .tuple #[.string (lastStr r), .bool r.isSome] := by cases r <;> rfl

theorem total_ge : ∀ (l : List ByteArray) (k : Nat) (a : ByteArray), l[k]? = some a → a.size ≤ Pl.total l := by
  intro l
  induction l with
  | nil => intro k a h; cases h
  | cons x l ih =>
    intro k a h
    unfold Pl.total
    rw [List.map_cons, List.sum_cons]
    cases k with
    | zero => cases h; omega
    | succ k =>
      have := ih k a (by simpa using h)
      unfold Pl.total at this
      omega

set_option maxRecDepth 100000 in
set_option maxHeartbeats 1000000 in
theorem optParses_any (A : Option Addr) (cap : Nat) (args : List ByteArray) (s : ByteArray) (c : UInt8) (w : World) (hs : s.size ≤ 1048576) (hcap : args.length ≤ cap)
    (hr : Reads w w.heap.size 1 A args.length (strs args)) (ht : Pl.total args ≤ 1048576) (hl : args.length ≤ 1048576) :
    Calls Try.prog 3 #[.slice A args.length cap, .string s, .int .u8 c.toNat] w fun e w' => e = .returned (.bool true) ∧ Below w.heap.size w w' := by
  have hR := Lib.hid hr
  have hsm := Lib.hid (fun (k : Nat) (a : ByteArray) (h : args[k]? = some a) => Nat.le_trans (total_ge args k a h) (Nat.le_trans ht (show 1048576 ≤ 2000000 by decide)))
  clear hr
  obtain ⟨r, hro⟩ : ∃ r, Pl.outer (Pl.kind s.data.toList) args 0 = r := ⟨_, rfl⟩
  have hjn : ∀ l j, r = some (l, j) → j ≤ args.length := fun l j h => Pl.outer_len _ args _ 0 l j (Nat.le_refl _) (Nat.zero_le _) (hro.trans h)
  have hln : ∀ l j, r = some (l, j) → l.length ≤ 1048576 := fun l j h => Nat.le_trans (Pl.outer_many _ args _ 0 l j (Nat.le_refl _) (hro.trans h)) ht
  have hro' := Lib.hid hro
  have Hjn := Lib.hid hjn
  obtain ⟨L, O, E, hO, hLn, hOn⟩ : ∃ L O E, Pl.outcome args r = (L, O, E) ∧ L.length ≤ 1048576 ∧ O.length ≤ 1048576 := by
    refine ⟨_, _, _, rfl, ?_, ?_⟩
    · cases r with
      | none => exact Nat.zero_le _
      | some p => exact hln p.1 p.2 rfl
    · cases r with
      | none => exact Nat.zero_le _
      | some p => show (args.drop p.2).length ≤ _; rw [List.length_drop]; omega
  have HO := Lib.hid hO
  clear hro hjn hln hO
  obtain ⟨iS, hiS, hS0, hS1, hS2⟩ := info_parts Try.infoStr
  have HI := Lib.hid hiS
  have H0 := Lib.hid hS0
  have H1 := Lib.hid hS1
  have H2 := Lib.hid hS2
  clear hiS hS0 hS1 hS2
  go_enter Try.func3, Try.ntmps3
  go_wp2_with fail
  refine (awake_any w).mono ?_
  rintro e w1 ⟨rfl, hb1⟩
  go_wp2_with (at_builtin; refine wpList_append_any _ rfl _ _ 22 rfl w1.heap.size 9 iS (.string ⟨#[]⟩) 1 16 Try.underlying22 HI.out H0.out H1.out H2.out rfl (by decide) (.slice none 0 0) 0 [] rfl (World.ownsRow_nil _ _ _ _) w.heap.size A args.length cap (strs args) rfl (hR.out.below hb1) (strs_oneCell args) (by simp only [maxLen]; omega) (by omega) (Nat.le_refl _) ?_; intro v2 w2 hown2 hg2 hat2)
  have hB2 : Below w1.heap.size w1 w2 := (Below.refl _ _).grown hg2 (Nat.le_refl _) (by simp [Value.ownBlock])
  rw [Nat.zero_add, List.nil_append] at hown2
  obtain ⟨A2, cap2, rfl, hcap2, hr2⟩ := own_slice hown2
  have hbw2 : Below w.heap.size w w2 := hb1.trans (hB2.mono hb1.size)
  clear hat2 hg2
  have HR2 := Lib.hid hr2
  have Hown2 := Lib.hid hown2
  clear hr2 hown2
  refine (parse_any A2 cap2 args s w2 (by omega) hcap2 HR2.out (by omega) (by omega) hsm.out).mono ?_
  rintro e w3 hp3
  rw [hro'.out] at hp3
  obtain ⟨Aa, ca, Ac, cc, rfl, hra, hoc, hB3⟩ := parsed_form hp3
  rw [HO.out] at hra hoc ⊢
  have HRa := Lib.hid hra
  have HOc := Lib.hid hoc
  clear hp3 hra hoc
  have hbw3 : Below w.heap.size w w3 := hbw2.trans (hB3.mono hbw2.size)
  go_wp2_with fail
  refine (refParse_any A cap args s w3 (by omega) ((hR.out.below hbw3).more hbw3.size) (by omega) (by omega) hsm.out).mono ?_
  rintro e w4 hp4
  rw [hro'.out] at hp4
  obtain ⟨Ab, cb, Ad, cd, rfl, hrb, hrd, hB4⟩ := refParsed_form hp4 ((hR.out.below hbw3).more hbw3.size) hcap Hjn.out
  rw [HO.out] at hrb hrd ⊢
  have HRb := Lib.hid hrb
  have HRd := Lib.hid hrd
  clear hp4 hrb hrd
  have hbw4 : Below w.heap.size w w4 := hbw3.trans (hB4.mono hbw3.size)
  go_wp2_with fail
  refine (same_any Aa Ab Ac Ad ca cb cc cd L O w4 w3.heap.size w4.heap.size w3.heap.size w4.heap.size (HRa.out.below hB4) HRb.out ((Reads.of_own HOc.out).below hB4) HRd.out (by omega) (by omega)).mono ?_
  rintro e w5 ⟨rfl, n5, hw5⟩
  have hB5 : Below w4.heap.size w4 w5 := by rw [hw5]; exact below_drewN (Below.refl _ _) n5
  clear hw5
  have hbw5 : Below w.heap.size w w5 := hbw4.trans (hB5.mono hbw4.size)
  have hB35 : Below w3.heap.size w3 w5 := hB4.trans (hB5.mono hB4.size)
  have HRa5 := Lib.hid ((HRa.out.below hB35).more hB35.size)
  have HRb5 := Lib.hid ((HRb.out.below hB5).more hB5.size)
  go_wp2_with fail
  refine (has_any Aa ca L c w5 HRa5.out (by omega)).mono ?_
  rintro e w6 ⟨rfl, hB6⟩
  have HRb6 := Lib.hid ((HRb5.out.below hB6).more hB6.size)
  have HRa6 := Lib.hid ((HRa5.out.below hB6).more hB6.size)
  go_wp2_with fail
  refine (refHas_any Ab cb L c w6 w6.heap.size HRb6.out (by omega)).mono ?_
  rintro e w7 ⟨rfl, rfl⟩
  go_wp2_with fail
  refine (last_any Aa ca L c w6 (by omega) HRa6.out).mono ?_
  rintro e w7 ⟨rfl, hB7⟩
  have HRb7 := Lib.hid ((HRb6.out.below hB7).more hB7.size)
  rw [lastPair_eq]
  go_wp2_with fail
  refine (refLast_any Ab cb L c w7 w7.heap.size HRb7.out (by omega)).mono ?_
  rintro e w8 ⟨rfl, rfl⟩
  rw [lastPair_eq]
  go_wp2_with fail
  have hB37 : Below w3.heap.size w3 w7 := hB35.trans ((hB6.mono hB35.size).trans (hB7.mono (Nat.le_trans hB35.size hB6.size)))
  have hB27 : Below w2.heap.size w2 w7 := hB3.trans (hB37.mono hB3.size)
  have HO7 := Lib.hid (ownsRow_below HOc.out hB37 (Nat.le_refl _))
  clear HRa HRb HRd HRa5 HRb5 HRa6 HRb6 HRb7 hB35 hB4 hB5 hB6 hB7 hbw4 hbw5 hbw3 hB3 hB37 HOc HI H0 H1 H2
  go_loopw [20] (fun i wr => ∃ (k : Nat) (O' : List Value), k ≤ O.length ∧ i = .int .i64 k ∧ wr.ownsRow w2.heap.size 9 1 (.slice Ac O.length cc) O.length O' ∧ Below w2.heap.size w2 wr) (fun i _ => O.length - (intOf i).toNat)
  case atStart => exact ⟨0, strs O, Nat.zero_le _, rfl, HO7.out, hB27⟩
  case round =>
    obtain ⟨k, O', hk, rfl, hown, hb⟩ := hrel
    by_cases hlt : k < O.length
    · obtain ⟨g, cap', hv, hg1, hg2, hcells⟩ := own_form hown (by omega)
      simp only [Value.slice.injEq] at hv
      obtain ⟨rfl, _, rfl⟩ := hv
      obtain ⟨u0, hu0⟩ : ∃ u0, O'[k]? = some u0 := ⟨_, List.getElem?_eq_getElem (by have := hown.1; omega)⟩
      have hc1 := (hown.cellAt k (by omega)).trans hu0
      have hf1 := hown.frozenAt k
      obtain ⟨hst1, hst2⟩ := hown.stored k (.string ⟨#[63]⟩)
      have Hst := Lib.hid hst1
      have Hgr := Lib.hid hst2
      clear hcells hu0 hst1 hst2
      go_wp2_with fail
      go_roundw
      case rel => exact ⟨k + 1, _, by omega, by go_num, Hst.out, hb.grown Hgr.out hb.size (fun j hj => by cases hj; exact hg1)⟩
      case measure => simp [intOf]; omega
    · have hbw : Below w.heap.size w wr := hbw2.trans (hb.mono hbw2.size)
      go_wp2_with fail
      refine (same_any none none A2 A 0 0 cap2 cap [] args wr 0 0 w2.heap.size w.heap.size Reads.none_ Reads.none_ (HR2.out.below hb) (hR.out.below hbw) (by decide) (by omega)).mono ?_
      rintro e w8 ⟨rfl, n8, hw8⟩
      have hB8 : Below wr.heap.size wr w8 := by rw [hw8]; exact below_drewN (Below.refl _ _) n8
      clear hw8
      go_wp2_with fail
      go_returns
      exact ⟨rfl, hbw.trans (hB8.mono hbw.size)⟩
end Go.Proofs.Ytnagiphjlfiifaa
