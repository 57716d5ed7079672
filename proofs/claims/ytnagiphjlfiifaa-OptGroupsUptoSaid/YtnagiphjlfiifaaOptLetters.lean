/-
  A walk over opt.letters: the map of a spec's letters.
-/
import Derived.Test.YtnagiphjlfiifaaOptRef
import Derived.Maps.OwnSet
import Derived.Maps.Views
namespace Go.Proofs.Ytnagiphjlfiifaa
open Go.RowKit Go.Maps

namespace Pl
/-- the kind of a letter by the first k places of a spec -/
def kindTo (s : List UInt8) : Nat → UInt8 → Int
  | 0, _ => 0
  | k + 1, c => if kindTo s k c ≠ 0 then kindTo s k c else if s[k]? = some c ∧ c ≠ 58 ∧ c ≠ 45 then (if s[k + 1]? = some 58 then 2 else 1) else 0

theorem kindTo_succ (s : List UInt8) (k : Nat) (c : UInt8) : kindTo s (k + 1) c = if kindTo s k c ≠ 0 then kindTo s k c else if s[k]? = some c ∧ c ≠ 58 ∧ c ≠ 45 then (if s[k + 1]? = some 58 then 2 else 1) else 0 := rfl
theorem kindFrom_cons (x : UInt8) (r : List UInt8) (c : UInt8) : kindFrom (x :: r) c = if x = c then (match r with | y :: _ => if y = 58 then 2 else 1 | [] => 1) else kindFrom r c := by
  cases r <;> rfl

theorem kindTo_keep {s : List UInt8} {k : Nat} {x : UInt8} (hx : s[k]? = some x) (h : x = 58 ∨ x = 45 ∨ kindTo s k x ≠ 0) : kindTo s (k + 1) = kindTo s k := by
  funext c
  rw [kindTo_succ]
  split
  · rfl
  · rename_i h0
    have h0' : kindTo s k c = 0 := by simpa using h0
    rw [if_neg, h0']
    rintro ⟨e, h1, h2⟩
    rw [hx] at e
    cases e
    rcases h with h | h | h
    · exact h1 h
    · exact h2 h
    · exact h0 h
theorem kindTo_put {s : List UInt8} {k : Nat} {x : UInt8} (hx : s[k]? = some x) (h1 : x ≠ 58) (h2 : x ≠ 45) (h0 : kindTo s k x = 0) (c : UInt8) :
    kindTo s (k + 1) c = if c = x then (if s[k + 1]? = some 58 then 2 else 1) else kindTo s k c := by
  rw [kindTo_succ]
  by_cases hc : c = x
  · subst hc
    rw [if_neg (by simp [h0]), if_pos ⟨hx, h1, h2⟩, if_pos rfl]
  · rw [if_neg hc]
    split
    · rfl
    · rename_i h
      have h' : kindTo s k c = 0 := by simpa using h
      rw [if_neg, h']
      rintro ⟨e, _⟩
      rw [hx] at e
      cases e
      exact hc rfl

theorem kindTo_from (s : List UInt8) (c : UInt8) : ∀ k, k ≤ s.length → kind s c = if kindTo s k c ≠ 0 then kindTo s k c else if c = 58 ∨ c = 45 then 0 else kindFrom (s.drop k) c := by
  intro k
  induction k with
  | zero => intro _; simp [kindTo, kind]
  | succ k ih =>
    intro hk
    rw [ih (by omega)]
    have hlt : k < s.length := by omega
    rw [kindTo_succ]
    by_cases h0 : kindTo s k c ≠ 0
    · simp only [if_pos h0]
    · simp only [if_neg h0]
      have hg : s[k]? = some s[k] := List.getElem?_eq_getElem hlt
      by_cases hsp : c = 58 ∨ c = 45
      · have hT : (if s[k]? = some c ∧ c ≠ 58 ∧ c ≠ 45 then (if s[k + 1]? = some 58 then (2 : Int) else 1) else 0) = 0 := if_neg (fun ⟨_, h1, h2⟩ => hsp.elim h1 h2)
        rw [hT]
        simp only [if_pos hsp]
        simp
      · simp only [if_neg hsp]
        rw [List.drop_eq_getElem_cons hlt, kindFrom_cons]
        by_cases hx : s[k] = c
        · have hT : (if s[k]? = some c ∧ c ≠ 58 ∧ c ≠ 45 then (if s[k + 1]? = some 58 then (2 : Int) else 1) else 0) = if s[k + 1]? = some 58 then 2 else 1 :=
            if_pos ⟨by rw [hg, hx], fun e => hsp (.inl e), fun e => hsp (.inr e)⟩
          rw [if_pos hx, hT]
          by_cases h1 : k + 1 < s.length
          · rw [List.drop_eq_getElem_cons h1]
            have hg1 : s[k + 1]? = some s[k + 1] := List.getElem?_eq_getElem h1
            simp only [hg1, Option.some.injEq]
            by_cases h2 : s[k + 1] = 58 <;> simp [h2]
          · have hd : s.drop (k + 1) = [] := List.drop_eq_nil_of_le (by omega)
            have hn : s[k + 1]? = none := List.getElem?_eq_none (by omega)
            rw [hd, hn]
            simp
        · have hT : (if s[k]? = some c ∧ c ≠ 58 ∧ c ≠ 45 then (if s[k + 1]? = some 58 then (2 : Int) else 1) else 0) = 0 :=
            if_neg (fun h => hx (Option.some.inj (hg.symm.trans h.1)))
          rw [if_neg hx, hT]
          simp

theorem kindTo_all (s : List UInt8) (c : UInt8) : kindTo s s.length c = kind s c := by
  rw [kindTo_from s c s.length (Nat.le_refl _), List.drop_length]
  simp only [kindFrom]
  split
  · rfl
  · rename_i h
    have h' : kindTo s s.length c = 0 := by simpa using h
    rw [h']; split <;> rfl
end Pl

theorem law5 : Keyed Try.prog 5 := int_keyed Try.underlying5
theorem zeroInt (w : World) : (zeroValue 3).run Try.prog w = .ok (.int .i64 0) w := by kernel_rfl
theorem u8_wf (c : UInt8) : (Lit.int .u8 (c.toNat : Int)).wf = true := by
  have := c.toNat_lt
  go_wf
theorem u8_key_ne {a b : UInt8} (h : a ≠ b) : (Lit.int .u8 (a.toNat : Int)) ≠ Lit.int .u8 (b.toNat : Int) := by
  intro e
  injection e with _ e
  exact h (UInt8.toNat_inj.1 (by omega))

/-- a map, as it reads, that has these kinds of letters -/
def KindsAre (D : DataW Unit) (f : UInt8 → Int) : Prop := IsMap D ∧ ∀ c : UInt8, D.atKey (.int .u8 c.toNat) (.lit (.int .i64 0)) = .lit (.int .i64 (f c)) ∧ Maps.has D (.int .u8 c.toNat) = (f c != 0)

theorem KindsAre.empty : KindsAre (.map []) (fun _ => 0) := ⟨isMap_empty, fun _ => ⟨rfl, rfl⟩⟩
theorem KindsAre.congr {D : DataW Unit} {f g : UInt8 → Int} (h : KindsAre D f) (e : ∀ c, g c = f c) : KindsAre D g := by
  rw [show g = f from funext e]; exact h
theorem KindsAre.put {D : DataW Unit} {f : UInt8 → Int} (h : KindsAre D f) (x : UInt8) (v : Int) (hv : v ≠ 0) : KindsAre (D.put (.int .u8 x.toNat) (.lit (.int .i64 v))) (fun c => if c = x then v else f c) := by
  have hk : WideAt.IsKeyLit (.int .u8 (x.toNat : Int)) := trivial
  refine ⟨h.1.put _ _, fun c => ?_⟩
  by_cases hc : c = x
  · subst hc
    simp only [if_pos]
    exact ⟨atKey_put_same h.1 hk _ _, by rw [has_put_same h.1 hk]; simp [hv]⟩
  · simp only [if_neg hc]
    rw [atKey_put_other (u8_key_ne hc), has_put_other (u8_key_ne hc)]
    exact h.2 c

set_option maxHeartbeats 400000 in
theorem letters_any (s : ByteArray) (w : World) (hs : s.size ≤ 2000000) :
    Calls Try.prog 13 #[.string s] w fun e w' => e = .returned (.map (some w.heap.size)) ∧
      (∃ n D, w'.ownsMap Try.prog 5 (plainElem (H := Unit) Try.prog 3) w.heap.size n D ∧ KindsAre D (Pl.kind s.data.toList)) ∧ Below w.heap.size w w' := by
  have hmm := @run_makeMap Try.prog
  go_enter Try.func13, Try.ntmps13
  go_wp2
  go_loopw [11] (fun i wr => ∃ (k n : Nat) (D : DataW Unit), k ≤ s.size ∧ n ≤ 2 * k ∧ i = .int .i64 k ∧ wr.ownsMap Try.prog 5 (plainElem (H := Unit) Try.prog 3) w.heap.size n D ∧ Hid (KindsAre D (Pl.kindTo s.data.toList k)) ∧ Below w.heap.size w wr)
    (fun i _ => s.size - (intOf i).toNat)
  case atStart => exact ⟨0, 0, .map [], Nat.zero_le _, Nat.zero_le _, rfl, World.ownsMap_made _ _ _ _, KindsAre.empty, (Below.refl _ _).alloc (Nat.le_refl _) _⟩
  case round =>
    obtain ⟨k, n, D, hk, hn, rfl, hown, hD, hb⟩ := hrel
    by_cases hlt : k < s.size
    · have hx : s.data.toList[k]? = some s[k] := by rw [List.getElem?_eq_getElem (by simpa using hlt)]; rfl
      have hhas0 := (hD.out.2 s[k]).2
      by_cases h58 : s[k] = 58
      · have hD' := Lib.hid (Pl.kindTo_keep hx (.inl h58) ▸ hD.out)
        have b58 : ((s[k].toNat : Int) == 58) = true := (Pl.u8_beq _ 58).trans (beq_iff_eq.2 h58)
        clear h58 hx hhas0
        go_wp2_with (at_lookup; refine wpList_lookup_own_ok_int _ rfl _ _ 37 rfl 5 3 .i64 law5 Try.underlying37 Try.underlying3 (zeroInt _) w.heap.size n D rfl hown _ _ rfl (keyOf_int_mk Try.underlying5 (u8_wf _)) ?_; intro c0 hat hwc; have hat' := Lib.hid hat; clear hat)
        go_roundw
        case rel => exact ⟨k + 1, n, D, by omega, by omega, by go_num, hown, hD', hb⟩
        case measure => simp [intOf]; omega
      have b58 : ((s[k].toNat : Int) == 58) = false := (Pl.u8_beq _ 58).trans (beq_eq_false_iff_ne.2 h58)
      by_cases h45 : s[k] = 45
      · have hD' := Lib.hid (Pl.kindTo_keep hx (.inr (.inl h45)) ▸ hD.out)
        have b45 : ((s[k].toNat : Int) == 45) = true := (Pl.u8_beq _ 45).trans (beq_iff_eq.2 h45)
        clear h58 h45 hx hhas0
        go_wp2_with (at_lookup; refine wpList_lookup_own_ok_int _ rfl _ _ 37 rfl 5 3 .i64 law5 Try.underlying37 Try.underlying3 (zeroInt _) w.heap.size n D rfl hown _ _ rfl (keyOf_int_mk Try.underlying5 (u8_wf _)) ?_; intro c0 hat hwc; have hat' := Lib.hid hat; clear hat)
        go_roundw
        case rel => exact ⟨k + 1, n, D, by omega, by omega, by go_num, hown, hD', hb⟩
        case measure => simp [intOf]; omega
      have b45 : ((s[k].toNat : Int) == 45) = false := (Pl.u8_beq _ 45).trans (beq_eq_false_iff_ne.2 h45)
      by_cases h0 : Pl.kindTo s.data.toList k s[k] = 0
      · have hno : Maps.has D (.int .u8 (s[k].toNat : Int)) = false := by rw [hhas0, h0]; rfl
        have hput := Pl.kindTo_put hx h58 h45 h0
        have hd1 := hD.out.put s[k] 1 (by decide)
        clear hhas0
        by_cases h1 : k + 1 < s.size
        · have hx1 : s.data.toList[k + 1]? = some s[k + 1] := by rw [List.getElem?_eq_getElem (by simpa using h1)]; rfl
          by_cases h2 : s[k + 1] = 58
          · have b2 : ((s[k + 1].toNat : Int) == 58) = true := (Pl.u8_beq _ 58).trans (beq_iff_eq.2 h2)
            have hd2 := hd1.put s[k] 2 (by decide)
            have hD' := Lib.hid (hd2.congr (g := Pl.kindTo s.data.toList (k + 1)) (fun c => by rw [hput c, hx1, h2]; by_cases hc : c = s[k] <;> simp [hc]))
            clear hput hx hx1 h2 h58 h45 h0 hd1 hd2
            have tok1 : True := trivial
            go_wp2_with (first | (at_lookup; refine wpList_lookup_own_ok_int _ rfl _ _ 37 rfl 5 3 .i64 law5 Try.underlying37 Try.underlying3 (zeroInt _) w.heap.size n D rfl hown _ _ rfl (keyOf_int_mk Try.underlying5 (u8_wf _)) ?_; intro c0 hat hwc; have hat' := Lib.hid hat; clear hat) | (at_mapUpdate; have _t := tok1; refine wpList_mapUpdate_own _ rfl _ _ _ 37 rfl 5 3 law5 Try.underlying37 _ w.heap.size (n) _ rfl hown (by unfold maxLen; omega) _ _ _ rfl rfl (keyOf_int_mk Try.underlying5 (u8_wf _)) (.lit (.int .i64 1)) [] (plainElem_int Try.underlying3 (by decide)) ?_; intro w1 hown1 hgrow1; clear tok1) | (at_mapUpdate; refine wpList_mapUpdate_own _ rfl _ _ _ 37 rfl 5 3 law5 Try.underlying37 _ w.heap.size (n + 1) _ rfl hown1 (by unfold maxLen; omega) _ _ _ rfl rfl (keyOf_int_mk Try.underlying5 (u8_wf _)) (.lit (.int .i64 2)) [] (plainElem_int Try.underlying3 (by decide)) ?_; intro w2 hown2 hgrow2))
            go_roundw
            case rel => exact ⟨k + 1, n + 1 + 1, _, by omega, by omega, by go_num, hown2, hD', (hb.grown hgrow1 hb.size (fun j hj => by cases hj; exact Nat.le_refl _)).grown hgrow2 (Nat.le_trans hb.size hgrow1.size) (fun j hj => by cases hj; exact Nat.le_refl _)⟩
            case measure => simp [intOf]; omega
          · have b2 : ((s[k + 1].toNat : Int) == 58) = false := (Pl.u8_beq _ 58).trans (beq_eq_false_iff_ne.2 h2)
            have hD' := Lib.hid (hd1.congr (g := Pl.kindTo s.data.toList (k + 1)) (fun c => by rw [hput c, hx1]; by_cases hc : c = s[k] <;> simp [hc, h2]))
            clear hput hx hx1 h2 h58 h45 h0 hd1
            go_wp2_with (first | (at_lookup; refine wpList_lookup_own_ok_int _ rfl _ _ 37 rfl 5 3 .i64 law5 Try.underlying37 Try.underlying3 (zeroInt _) w.heap.size n D rfl hown _ _ rfl (keyOf_int_mk Try.underlying5 (u8_wf _)) ?_; intro c0 hat hwc; have hat' := Lib.hid hat; clear hat) | (at_mapUpdate; refine wpList_mapUpdate_own _ rfl _ _ _ 37 rfl 5 3 law5 Try.underlying37 _ w.heap.size (n) _ rfl hown (by unfold maxLen; omega) _ _ _ rfl rfl (keyOf_int_mk Try.underlying5 (u8_wf _)) (.lit (.int .i64 1)) [] (plainElem_int Try.underlying3 (by decide)) ?_; intro w1 hown1 hgrow1))
            go_roundw
            case rel => exact ⟨k + 1, n + 1, _, by omega, by omega, by go_num, hown1, hD', hb.grown hgrow1 hb.size (fun j hj => by cases hj; exact Nat.le_refl _)⟩
            case measure => simp [intOf]; omega
        · have hx1 : s.data.toList[k + 1]? = none := List.getElem?_eq_none (by rw [Array.length_toList]; show s.size ≤ _; omega)
          have hD' := Lib.hid (hd1.congr (g := Pl.kindTo s.data.toList (k + 1)) (fun c => by rw [hput c, hx1]; by_cases hc : c = s[k] <;> simp [hc]))
          clear hput hx hx1 h58 h45 h0 hd1
          go_wp2_with (first | (at_lookup; refine wpList_lookup_own_ok_int _ rfl _ _ 37 rfl 5 3 .i64 law5 Try.underlying37 Try.underlying3 (zeroInt _) w.heap.size n D rfl hown _ _ rfl (keyOf_int_mk Try.underlying5 (u8_wf _)) ?_; intro c0 hat hwc; have hat' := Lib.hid hat; clear hat) | (at_mapUpdate; refine wpList_mapUpdate_own _ rfl _ _ _ 37 rfl 5 3 law5 Try.underlying37 _ w.heap.size (n) _ rfl hown (by unfold maxLen; omega) _ _ _ rfl rfl (keyOf_int_mk Try.underlying5 (u8_wf _)) (.lit (.int .i64 1)) [] (plainElem_int Try.underlying3 (by decide)) ?_; intro w1 hown1 hgrow1))
          go_roundw
          case rel => exact ⟨k + 1, n + 1, _, by omega, by omega, by go_num, hown1, hD', hb.grown hgrow1 hb.size (fun j hj => by cases hj; exact Nat.le_refl _)⟩
          case measure => simp [intOf]; omega
      · have hD' := Lib.hid (Pl.kindTo_keep hx (.inr (.inr h0)) ▸ hD.out)
        have hyes : Maps.has D (.int .u8 (s[k].toNat : Int)) = true := by rw [hhas0]; simpa using h0
        clear h58 h45 h0 hx hhas0
        go_wp2_with (at_lookup; refine wpList_lookup_own_ok_int _ rfl _ _ 37 rfl 5 3 .i64 law5 Try.underlying37 Try.underlying3 (zeroInt _) w.heap.size n D rfl hown _ _ rfl (keyOf_int_mk Try.underlying5 (u8_wf _)) ?_; intro c0 hat hwc; have hat' := Lib.hid hat; clear hat)
        go_roundw
        case rel => exact ⟨k + 1, n, D, by omega, by omega, by go_num, hown, hD', hb⟩
        case measure => simp [intOf]; omega
    · obtain rfl : k = s.size := by omega
      go_wp2
      go_returns
      exact ⟨rfl, ⟨n, D, hown, hD.out.congr (fun c => (Pl.kindTo_all s.data.toList c).symm)⟩, hb⟩
end Go.Proofs.Ytnagiphjlfiifaa
