/-
  Parts that the claims share: Strings that are read; A walk over slices.Clone at []string; A walk over opt.letters: the map of a spec's letters; A walk over opt.Parse; Walks over opt.Has: a closure handed to slices.ContainsFunc; Translated and back, bytes are as they were: plain; What the walks over trans.read lean on; A walk over trans.read: two sets; A walk over trans.read: one set, deleted; A walk over trans.read: one set, squeezed; A walk over trans.read: one set, all but it deleted; A walk over trans.read: two sets, the first one complemented, squeezed.
-/
import Derived.Test.YtlhiadnolckoeaaGreatDoorR13
import Derived.Lib.SliceRun
import Derived.Maps.OwnSet
import Derived.Maps.Views
import Derived.Test.YtlhiadnolckoeaaGreatDoorR11
import Derived.BigRegion
import Derived.RegionTactic

section
namespace Go.Proofs.YtlhiadnolckoeaaGreatDoor
open Go.RowKit

theorem strs_get {l : List ByteArray} {k : Nat} (h : k < l.length) : (strs l)[k]? = some (.string l[k]) := by
  simp [strs, List.getElem?_map, List.getElem?_eq_getElem h]
theorem reads_str {w : World} {B : Nat} {A : Option Addr} {l : List ByteArray} (h : Reads w B 1 A l.length (strs l)) {k : Nat} (hk : k < l.length) :
    ∃ ad, A = some ad ∧ ad.block < B ∧ w.cell? (ad.add k) = some (.string l[k]) := by
  obtain ⟨ad, hA, hB, hc⟩ := h.2 (by omega)
  exact ⟨ad, hA, hB, hc _ _ (strs_get hk)⟩
end Go.Proofs.YtlhiadnolckoeaaGreatDoor
end

section
namespace Go.Proofs.YtlhiadnolckoeaaGreatDoor
open Go.RowKit

theorem strs_length (l : List ByteArray) : (strs l).length = l.length := by simp [strs]
theorem strs_oneCell (l : List ByteArray) : ∀ u ∈ strs l, u.oneCell' = true := by
  intro u hu
  obtain ⟨s, _, rfl⟩ := List.mem_map.1 hu
  rfl

set_option maxHeartbeats 400000 in
theorem clone_any (A : Option Addr) (n cap : Nat) (l : List ByteArray) (w : World) (B : Nat) (hn : n = l.length) (hr : Reads w B 1 A n (strs l)) (hB : B ≤ w.heap.size) (hl : n ≤ 2097152) :
    Calls Tryz.prog 105 #[.slice A n cap] w fun e w' => ∃ v, e = .returned v ∧ w'.ownsRow w.heap.size 9 1 v n (strs l) ∧ Below w.heap.size w w' := by
  have heq := fun (W : World) => Lib.run_eql_slice_nil (P := Tryz.prog) W 31 9 A n cap 0 0 Tryz.underlying31
  have hR := Lib.hid hr
  have hN := Lib.hid hn
  clear hr hn
  cases A with
  | none =>
    go_enter Tryz.func105, Tryz.ntmps105
    go_wp2
    go_returns
    have h0 : n = 0 := by
      rcases Nat.eq_zero_or_pos n with h | h
      · exact h
      · obtain ⟨ad, h, _⟩ := hR.out.2 h
        cases h
    have hnil : l = [] := List.eq_nil_of_length_eq_zero (hN.out.symm.trans h0)
    subst hnil h0
    exact ⟨_, rfl, World.ownsRow_nil _ _ _ _, Below.refl _ _⟩
  | some ad =>
    obtain ⟨iS, hiS, hS0, hS1, hS2⟩ := info_parts Tryz.infoStr
    have HI := Lib.hid hiS
    have H0 := Lib.hid hS0
    have H1 := Lib.hid hS1
    have H2 := Lib.hid hS2
    clear hiS hS0 hS1 hS2
    go_enter Tryz.func105, Tryz.ntmps105
    go_wp2_with (at_builtin; refine wpList_append_any _ rfl _ _ 31 rfl w.heap.size 9 iS (.string ⟨#[]⟩) 1 16 Tryz.underlying31 HI.out H0.out H1.out H2.out rfl (by decide) (.slice (some ⟨w.heap.size, 0, none⟩) 0 0) 0 [] rfl (World.ownsRow_made w #[] 0 (Nat.le_refl _) (by decide) rfl) w.heap.size (some ad) n cap (strs l) rfl ((hR.out.more hB).alloc (Nat.le_refl _) _) (strs_oneCell l) (by simp only [maxLen]; omega) (by omega) (by simp) ?_; intro v1 w1 hown1 hg1 hat1)
    go_returns
    refine ⟨v1, rfl, by simpa using hown1, ((Below.refl _ _).alloc (Nat.le_refl _) _).grown hg1 (by simp) (fun k hk => ?_)⟩
    simp [Value.ownBlock] at hk
    omega
end Go.Proofs.YtlhiadnolckoeaaGreatDoor
end

section
namespace Go.Proofs.YtlhiadnolckoeaaGreatDoor
open Go.RowKit Go.Maps

namespace Pl
/-- the kind of a letter by the first k places of a spec -/
def kindTo (s : List UInt8) : Nat → UInt8 → Int
  | 0, _ => 0
  | k + 1, c => if kindTo s k c ≠ 0 then kindTo s k c else if s[k]? = some c ∧ c ≠ 58 ∧ c ≠ 45 then (if s[k + 1]? = some 58 then 2 else 1) else 0

theorem kindTo_succ (s : List UInt8) (k : Nat) (c : UInt8) : kindTo s (k + 1) c = if kindTo s k c ≠ 0 then kindTo s k c else if s[k]? = some c ∧ c ≠ 58 ∧ c ≠ 45 then (if s[k + 1]? = some 58 then 2 else 1) else 0 := rfl
theorem kindFrom_cons (x : UInt8) (r : List UInt8) (c : UInt8) : kindFrom (x :: r) c = if x = c then (match r with | y :: _ => if y = 58 then 2 else 1 | [] => 1) else kindFrom r c := by
  cases r <;> rfl

theorem kindTo_keep {s : List UInt8} {k : Nat} {x : UInt8} (hx : s[k]? = some x) (h : x = 58 ∨ x = 45 ∨ kindTo s k x ≠ 0) : kindTo s (k + 1) = kindTo s k := by
  funext c
  rw [kindTo_succ]
  split
  · rfl
  · rename_i h0
    have h0' : kindTo s k c = 0 := by simpa using h0
    rw [if_neg, h0']
    rintro ⟨e, h1, h2⟩
    rw [hx] at e
    cases e
    rcases h with h | h | h
    · exact h1 h
    · exact h2 h
    · exact h0 h
theorem kindTo_put {s : List UInt8} {k : Nat} {x : UInt8} (hx : s[k]? = some x) (h1 : x ≠ 58) (h2 : x ≠ 45) (h0 : kindTo s k x = 0) (c : UInt8) :
    kindTo s (k + 1) c = if c = x then (if s[k + 1]? = some 58 then 2 else 1) else kindTo s k c := by
  rw [kindTo_succ]
  by_cases hc : c = x
  · subst hc
    rw [if_neg (by simp [h0]), if_pos ⟨hx, h1, h2⟩, if_pos rfl]
  · rw [if_neg hc]
    split
    · rfl
    · rename_i h
      have h' : kindTo s k c = 0 := by simpa using h
      rw [if_neg, h']
      rintro ⟨e, _⟩
      rw [hx] at e
      cases e
      exact hc rfl

theorem kindTo_from (s : List UInt8) (c : UInt8) : ∀ k, k ≤ s.length → kind s c = if kindTo s k c ≠ 0 then kindTo s k c else if c = 58 ∨ c = 45 then 0 else kindFrom (s.drop k) c := by
  intro k
  induction k with
  | zero => intro _; simp [kindTo, kind]
  | succ k ih =>
    intro hk
    rw [ih (by omega)]
    have hlt : k < s.length := by omega
    rw [kindTo_succ]
    by_cases h0 : kindTo s k c ≠ 0
    · simp only [if_pos h0]
    · simp only [if_neg h0]
      have hg : s[k]? = some s[k] := List.getElem?_eq_getElem hlt
      by_cases hsp : c = 58 ∨ c = 45
      · have hT : (if s[k]? = some c ∧ c ≠ 58 ∧ c ≠ 45 then (if s[k + 1]? = some 58 then (2 : Int) else 1) else 0) = 0 := if_neg (fun ⟨_, h1, h2⟩ => hsp.elim h1 h2)
        rw [hT]
        simp only [if_pos hsp]
        simp
      · simp only [if_neg hsp]
        rw [List.drop_eq_getElem_cons hlt, kindFrom_cons]
        by_cases hx : s[k] = c
        · have hT : (if s[k]? = some c ∧ c ≠ 58 ∧ c ≠ 45 then (if s[k + 1]? = some 58 then (2 : Int) else 1) else 0) = if s[k + 1]? = some 58 then 2 else 1 :=
            if_pos ⟨by rw [hg, hx], fun e => hsp (.inl e), fun e => hsp (.inr e)⟩
          rw [if_pos hx, hT]
          by_cases h1 : k + 1 < s.length
          · rw [List.drop_eq_getElem_cons h1]
            have hg1 : s[k + 1]? = some s[k + 1] := List.getElem?_eq_getElem h1
            simp only [hg1, Option.some.injEq]
            by_cases h2 : s[k + 1] = 58 <;> simp [h2]
          · have hd : s.drop (k + 1) = [] := List.drop_eq_nil_of_le (by omega)
            have hn : s[k + 1]? = none := List.getElem?_eq_none (by omega)
            rw [hd, hn]
            simp
        · have hT : (if s[k]? = some c ∧ c ≠ 58 ∧ c ≠ 45 then (if s[k + 1]? = some 58 then (2 : Int) else 1) else 0) = 0 :=
            if_neg (fun h => hx (Option.some.inj (hg.symm.trans h.1)))
          rw [if_neg hx, hT]
          simp

theorem kindTo_all (s : List UInt8) (c : UInt8) : kindTo s s.length c = kind s c := by
  rw [kindTo_from s c s.length (Nat.le_refl _), List.drop_length]
  simp only [kindFrom]
  split
  · rfl
  · rename_i h
    have h' : kindTo s s.length c = 0 := by simpa using h
    rw [h']; split <;> rfl
end Pl

theorem law5 : Keyed Tryz.prog 5 := int_keyed Tryz.underlying5
theorem zeroInt (w : World) : (zeroValue 3).run Tryz.prog w = .ok (.int .i64 0) w := by kernel_rfl
theorem u8_wf (c : UInt8) : (Lit.int .u8 (c.toNat : Int)).wf = true := by
  have := c.toNat_lt
  go_wf
theorem u8_key_ne {a b : UInt8} (h : a ≠ b) : (Lit.int .u8 (a.toNat : Int)) ≠ Lit.int .u8 (b.toNat : Int) := by
  intro e
  injection e with _ e
  exact h (UInt8.toNat_inj.1 (by omega))

/-- a map, as it reads, that has these kinds of letters -/
def KindsAre (D : DataW Unit) (f : UInt8 → Int) : Prop := IsMap D ∧ ∀ c : UInt8, D.atKey (.int .u8 c.toNat) (.lit (.int .i64 0)) = .lit (.int .i64 (f c)) ∧ Maps.has D (.int .u8 c.toNat) = (f c != 0)

theorem KindsAre.empty : KindsAre (.map []) (fun _ => 0) := ⟨isMap_empty, fun _ => ⟨rfl, rfl⟩⟩
theorem KindsAre.congr {D : DataW Unit} {f g : UInt8 → Int} (h : KindsAre D f) (e : ∀ c, g c = f c) : KindsAre D g := by
  rw [show g = f from funext e]; exact h
theorem KindsAre.put {D : DataW Unit} {f : UInt8 → Int} (h : KindsAre D f) (x : UInt8) (v : Int) (hv : v ≠ 0) : KindsAre (D.put (.int .u8 x.toNat) (.lit (.int .i64 v))) (fun c => if c = x then v else f c) := by
  have hk : WideAt.IsKeyLit (.int .u8 (x.toNat : Int)) := trivial
  refine ⟨h.1.put _ _, fun c => ?_⟩
  by_cases hc : c = x
  · subst hc
    simp only [if_pos]
    exact ⟨atKey_put_same h.1 hk _ _, by rw [has_put_same h.1 hk]; simp [hv]⟩
  · simp only [if_neg hc]
    rw [atKey_put_other (u8_key_ne hc), has_put_other (u8_key_ne hc)]
    exact h.2 c

set_option maxHeartbeats 400000 in
theorem letters_any (s : ByteArray) (w : World) (hs : s.size ≤ 2000000) :
    Calls Tryz.prog 181 #[.string s] w fun e w' => e = .returned (.map (some w.heap.size)) ∧
      (∃ n D, w'.ownsMap Tryz.prog 5 (plainElem (H := Unit) Tryz.prog 3) w.heap.size n D ∧ KindsAre D (Pl.kind s.data.toList)) ∧ Below w.heap.size w w' := by
  have hmm := @run_makeMap Tryz.prog
  go_enter Tryz.func181, Tryz.ntmps181
  go_wp2
  go_loopw [11] (fun i wr => ∃ (k n : Nat) (D : DataW Unit), k ≤ s.size ∧ n ≤ 2 * k ∧ i = .int .i64 k ∧ wr.ownsMap Tryz.prog 5 (plainElem (H := Unit) Tryz.prog 3) w.heap.size n D ∧ Hid (KindsAre D (Pl.kindTo s.data.toList k)) ∧ Below w.heap.size w wr)
    (fun i _ => s.size - (intOf i).toNat)
  case atStart => exact ⟨0, 0, .map [], Nat.zero_le _, Nat.zero_le _, rfl, World.ownsMap_made _ _ _ _, KindsAre.empty, (Below.refl _ _).alloc (Nat.le_refl _) _⟩
  case round =>
    obtain ⟨k, n, D, hk, hn, rfl, hown, hD, hb⟩ := hrel
    by_cases hlt : k < s.size
    · have hx : s.data.toList[k]? = some s[k] := by rw [List.getElem?_eq_getElem (by simpa using hlt)]; rfl
      have hhas0 := (hD.out.2 s[k]).2
      by_cases h58 : s[k] = 58
      · have hD' := Lib.hid (Pl.kindTo_keep hx (.inl h58) ▸ hD.out)
        have b58 : ((s[k].toNat : Int) == 58) = true := (Pl.u8_beq _ 58).trans (beq_iff_eq.2 h58)
        clear h58 hx hhas0
        go_wp2_with (at_lookup; refine wpList_lookup_own_ok_int _ rfl _ _ 293 rfl 5 3 .i64 law5 Tryz.underlying293 Tryz.underlying3 (zeroInt _) w.heap.size n D rfl hown _ _ rfl (keyOf_int_mk Tryz.underlying5 (u8_wf _)) ?_; intro c0 hat hwc; have hat' := Lib.hid hat; clear hat)
        go_roundw
        case rel => exact ⟨k + 1, n, D, by omega, by omega, by go_num, hown, hD', hb⟩
        case measure => simp [intOf]; omega
      have b58 : ((s[k].toNat : Int) == 58) = false := (Pl.u8_beq _ 58).trans (beq_eq_false_iff_ne.2 h58)
      by_cases h45 : s[k] = 45
      · have hD' := Lib.hid (Pl.kindTo_keep hx (.inr (.inl h45)) ▸ hD.out)
        have b45 : ((s[k].toNat : Int) == 45) = true := (Pl.u8_beq _ 45).trans (beq_iff_eq.2 h45)
        clear h58 h45 hx hhas0
        go_wp2_with (at_lookup; refine wpList_lookup_own_ok_int _ rfl _ _ 293 rfl 5 3 .i64 law5 Tryz.underlying293 Tryz.underlying3 (zeroInt _) w.heap.size n D rfl hown _ _ rfl (keyOf_int_mk Tryz.underlying5 (u8_wf _)) ?_; intro c0 hat hwc; have hat' := Lib.hid hat; clear hat)
        go_roundw
        case rel => exact ⟨k + 1, n, D, by omega, by omega, by go_num, hown, hD', hb⟩
        case measure => simp [intOf]; omega
      have b45 : ((s[k].toNat : Int) == 45) = false := (Pl.u8_beq _ 45).trans (beq_eq_false_iff_ne.2 h45)
      by_cases h0 : Pl.kindTo s.data.toList k s[k] = 0
      · have hno : Maps.has D (.int .u8 (s[k].toNat : Int)) = false := by rw [hhas0, h0]; rfl
        have hput := Pl.kindTo_put hx h58 h45 h0
        have hd1 := hD.out.put s[k] 1 (by decide)
        clear hhas0
        by_cases h1 : k + 1 < s.size
        · have hx1 : s.data.toList[k + 1]? = some s[k + 1] := by rw [List.getElem?_eq_getElem (by simpa using h1)]; rfl
          by_cases h2 : s[k + 1] = 58
          · have b2 : ((s[k + 1].toNat : Int) == 58) = true := (Pl.u8_beq _ 58).trans (beq_iff_eq.2 h2)
            have hd2 := hd1.put s[k] 2 (by decide)
            have hD' := Lib.hid (hd2.congr (g := Pl.kindTo s.data.toList (k + 1)) (fun c => by rw [hput c, hx1, h2]; by_cases hc : c = s[k] <;> simp [hc]))
            clear hput hx hx1 h2 h58 h45 h0 hd1 hd2
            have tok1 : True := trivial
            go_wp2_with (first | (at_lookup; refine wpList_lookup_own_ok_int _ rfl _ _ 293 rfl 5 3 .i64 law5 Tryz.underlying293 Tryz.underlying3 (zeroInt _) w.heap.size n D rfl hown _ _ rfl (keyOf_int_mk Tryz.underlying5 (u8_wf _)) ?_; intro c0 hat hwc; have hat' := Lib.hid hat; clear hat) | (at_mapUpdate; have _t := tok1; refine wpList_mapUpdate_own _ rfl _ _ _ 293 rfl 5 3 law5 Tryz.underlying293 _ w.heap.size (n) _ rfl hown (by unfold maxLen; omega) _ _ _ rfl rfl (keyOf_int_mk Tryz.underlying5 (u8_wf _)) (.lit (.int .i64 1)) [] (plainElem_int Tryz.underlying3 (by decide)) ?_; intro w1 hown1 hgrow1; clear tok1) | (at_mapUpdate; refine wpList_mapUpdate_own _ rfl _ _ _ 293 rfl 5 3 law5 Tryz.underlying293 _ w.heap.size (n + 1) _ rfl hown1 (by unfold maxLen; omega) _ _ _ rfl rfl (keyOf_int_mk Tryz.underlying5 (u8_wf _)) (.lit (.int .i64 2)) [] (plainElem_int Tryz.underlying3 (by decide)) ?_; intro w2 hown2 hgrow2))
            go_roundw
            case rel => exact ⟨k + 1, n + 1 + 1, _, by omega, by omega, by go_num, hown2, hD', (hb.grown hgrow1 hb.size (fun j hj => by cases hj; exact Nat.le_refl _)).grown hgrow2 (Nat.le_trans hb.size hgrow1.size) (fun j hj => by cases hj; exact Nat.le_refl _)⟩
            case measure => simp [intOf]; omega
          · have b2 : ((s[k + 1].toNat : Int) == 58) = false := (Pl.u8_beq _ 58).trans (beq_eq_false_iff_ne.2 h2)
            have hD' := Lib.hid (hd1.congr (g := Pl.kindTo s.data.toList (k + 1)) (fun c => by rw [hput c, hx1]; by_cases hc : c = s[k] <;> simp [hc, h2]))
            clear hput hx hx1 h2 h58 h45 h0 hd1
            go_wp2_with (first | (at_lookup; refine wpList_lookup_own_ok_int _ rfl _ _ 293 rfl 5 3 .i64 law5 Tryz.underlying293 Tryz.underlying3 (zeroInt _) w.heap.size n D rfl hown _ _ rfl (keyOf_int_mk Tryz.underlying5 (u8_wf _)) ?_; intro c0 hat hwc; have hat' := Lib.hid hat; clear hat) | (at_mapUpdate; refine wpList_mapUpdate_own _ rfl _ _ _ 293 rfl 5 3 law5 Tryz.underlying293 _ w.heap.size (n) _ rfl hown (by unfold maxLen; omega) _ _ _ rfl rfl (keyOf_int_mk Tryz.underlying5 (u8_wf _)) (.lit (.int .i64 1)) [] (plainElem_int Tryz.underlying3 (by decide)) ?_; intro w1 hown1 hgrow1))
            go_roundw
            case rel => exact ⟨k + 1, n + 1, _, by omega, by omega, by go_num, hown1, hD', hb.grown hgrow1 hb.size (fun j hj => by cases hj; exact Nat.le_refl _)⟩
            case measure => simp [intOf]; omega
        · have hx1 : s.data.toList[k + 1]? = none := List.getElem?_eq_none (by rw [Array.length_toList]; show s.size ≤ _; omega)
          have hD' := Lib.hid (hd1.congr (g := Pl.kindTo s.data.toList (k + 1)) (fun c => by rw [hput c, hx1]; by_cases hc : c = s[k] <;> simp [hc]))
          clear hput hx hx1 h58 h45 h0 hd1
          go_wp2_with (first | (at_lookup; refine wpList_lookup_own_ok_int _ rfl _ _ 293 rfl 5 3 .i64 law5 Tryz.underlying293 Tryz.underlying3 (zeroInt _) w.heap.size n D rfl hown _ _ rfl (keyOf_int_mk Tryz.underlying5 (u8_wf _)) ?_; intro c0 hat hwc; have hat' := Lib.hid hat; clear hat) | (at_mapUpdate; refine wpList_mapUpdate_own _ rfl _ _ _ 293 rfl 5 3 law5 Tryz.underlying293 _ w.heap.size (n) _ rfl hown (by unfold maxLen; omega) _ _ _ rfl rfl (keyOf_int_mk Tryz.underlying5 (u8_wf _)) (.lit (.int .i64 1)) [] (plainElem_int Tryz.underlying3 (by decide)) ?_; intro w1 hown1 hgrow1))
          go_roundw
          case rel => exact ⟨k + 1, n + 1, _, by omega, by omega, by go_num, hown1, hD', hb.grown hgrow1 hb.size (fun j hj => by cases hj; exact Nat.le_refl _)⟩
          case measure => simp [intOf]; omega
      · have hD' := Lib.hid (Pl.kindTo_keep hx (.inr (.inr h0)) ▸ hD.out)
        have hyes : Maps.has D (.int .u8 (s[k].toNat : Int)) = true := by rw [hhas0]; simpa using h0
        clear h58 h45 h0 hx hhas0
        go_wp2_with (at_lookup; refine wpList_lookup_own_ok_int _ rfl _ _ 293 rfl 5 3 .i64 law5 Tryz.underlying293 Tryz.underlying3 (zeroInt _) w.heap.size n D rfl hown _ _ rfl (keyOf_int_mk Tryz.underlying5 (u8_wf _)) ?_; intro c0 hat hwc; have hat' := Lib.hid hat; clear hat)
        go_roundw
        case rel => exact ⟨k + 1, n, D, by omega, by omega, by go_num, hown, hD', hb⟩
        case measure => simp [intOf]; omega
    · obtain rfl : k = s.size := by omega
      go_wp2
      go_returns
      exact ⟨rfl, ⟨n, D, hown, hD.out.congr (fun c => (Pl.kindTo_all s.data.toList c).symm)⟩, hb⟩
end Go.Proofs.YtlhiadnolckoeaaGreatDoor
end

section
namespace Go.Proofs.YtlhiadnolckoeaaGreatDoor
open Go.RowKit Go.Maps
attribute [local go_sem ↓] Go.wp_at_zero Go.wp_at_succ

theorem ownsMap_below {H : Type} {P : Program} {k : TypeId} {R : Value → Option (DataW H × List MemPlace)} {w w' : World} {b n B : Nat} {D : DataW H} (h : w.ownsMap P k R b n D) (hb : Below B w w') (hlt : b < B) : w'.ownsMap P k R b n D := by
  obtain ⟨es, clock, h1, h2⟩ := h
  exact ⟨es, clock, (hb.block b hlt).trans h1, h2⟩

theorem kind_eq {D : DataW Unit} {f : UInt8 → Int} (h : KindsAre D f) {x : UInt8} {c v : Int} (hat : D.atKey (.int .u8 x.toNat) (.lit (.int .i64 0)) = .lit (.int .i64 c)) (hv : f x = v) : c = v := by
  have := (h.2 x).1.symm.trans hat
  rw [hv] at this
  injection this with this
  injection this with _ this
  exact this.symm

theorem ownsRow_below {w w' : World} {base base' : Nat} {e : TypeId} {size n : Nat} {v : Value} {xs : List Value} (h : w.ownsRow base e size v n xs) (hb : Below w.heap.size w w') (hB : base' ≤ base) : w'.ownsRow base' e size v n xs := by
  refine ⟨h.1, h.2.imp id ?_⟩
  rintro ⟨g, cap, cur, rfl, h1, h2, h3⟩
  exact ⟨g, cap, cur, rfl, by omega, (hb.block g (Array.getElem?_eq_some_iff.1 h2).1).trans h2, h3⟩

/-- what a call of Parse leaves -/
def Parsed (w : World) (args : List ByteArray) (r : Option (List Pl.Opt × Nat)) (e : Ending) (w' : World) : Prop :=
  Below w.heap.size w w' ∧ match r with
  | none => e = .returned (.tuple #[.slice none 0 0, .slice none 0 0, .int .i64 19])
  | some (l, j) => ∃ v v2, e = .returned (.tuple #[v, v2, .int .i64 0]) ∧ w'.ownsRow w.heap.size 296 2 v l.length (optCells l) ∧ w'.ownsRow w.heap.size 9 1 v2 (args.length - j) (strs (args.drop j))

theorem parsed_some {w wr w2 : World} {args : List ByteArray} {acc : List Pl.Opt} {j n base : Nat} {v v2 : Value} {r : Option (List Pl.Opt × Nat)} (hr : r = some (acc, j)) (hb0 : Below w.heap.size w wr) (hb2 : Below wr.heap.size wr w2) (hB : w.heap.size ≤ base)
    (hown : wr.ownsRow base 296 2 v acc.length (optCells acc)) (hn : n = args.length - j) (hown2 : w2.ownsRow wr.heap.size 9 1 v2 n (strs (args.drop j))) :
    Parsed w args r (.returned (.tuple #[v, v2, .int .i64 0])) w2 := by
  subst hr hn
  exact ⟨hb0.trans (hb2.mono hb0.size), v, v2, rfl, ownsRow_below hown hb2 hB, ownsRow_below hown2 (Below.refl _ _) hb0.size⟩

theorem strs_drop (l : List ByteArray) (k : Nat) : strs (l.drop k) = (strs l).drop k := by simp [strs]

set_option maxRecDepth 100000 in
set_option maxHeartbeats 400000 in
theorem parse_any (A : Option Addr) (cap : Nat) (args : List ByteArray) (s : ByteArray) (w : World) (hs : s.size ≤ 2000000) (hcap : args.length ≤ cap)
    (hr : Reads w w.heap.size 1 A args.length (strs args)) (ht : Pl.total args ≤ 2000000) (hl : args.length ≤ 2000000) (ha : ∀ (k : Nat) (a : ByteArray), args[k]? = some a → a.size ≤ 2000000) :
    Calls Tryz.prog 144 #[.slice A args.length cap, .string s] w (Parsed w args (Pl.outer (Pl.kind s.data.toList) args 0)) := by
  have hR := Lib.hid hr
  have Ha := Lib.hid ha
  clear hr ha
  obtain ⟨iS, hiS, hS0, hS1, hS2⟩ := info_parts Tryz.infoStr
  have hcut := Lib.hid (fun (A : Option Addr) (len cap : Nat) (hk : 1 ≤ len) (W : World) => run_cut (P := Tryz.prog) 31 9 iS 1 Tryz.underlying31 hiS hS1 A len cap .i64 1 1 rfl hk W)
  clear hiS hS0 hS1 hS2
  go_enter Tryz.func144, Tryz.ntmps144
  go_wp2_with fail
  go_step3
  go_wp2_with (go_at_call 181; refine (letters_any s _ hs).mono ?_; rintro e w1 ⟨rfl, ⟨nM, D, hmap, hK⟩, hb1⟩; have hKA := Lib.hid hK; clear hK)
  go_step3
  go_wp2_with fail
  have hs1 := hb1.size
  have hmlt := hmap.lt
  go_loopg [0, 8] args.length (fun g av v wr => ∃ (k : Nat) (A' : Option Addr) (cap' : Nat) (acc : List Pl.Opt), k ≤ args.length ∧ g = args.length - k ∧ av = .slice A' (args.length - k) cap' ∧ args.length - k ≤ cap' ∧
    Reads w w.heap.size 1 A' (args.length - k) (strs (args.drop k)) ∧ wr.ownsRow w1.heap.size 296 2 v acc.length (optCells acc) ∧ Below w1.heap.size w1 wr ∧
    acc.length + Pl.total (args.drop k) ≤ 2000000 ∧ Hid (Pl.outer (Pl.kind s.data.toList) args 0 = Pl.rest (Pl.kind s.data.toList) args acc k))
  case atStart =>
    exact ⟨0, A, cap, [], by omega, by omega, rfl, hcap, by simpa using hR.out, World.ownsRow_nil _ _ _ _, Below.refl _ _, by simpa using ht, (Pl.rest_nil _ _ _).symm⟩
  case round =>
    obtain ⟨k, A', cap', acc, hk, rfl, rfl, hcap', hr', hown, hb, hlen, hres⟩ := hrel
    have hR' := Lib.hid hr'
    clear hr'
    by_cases hlt : k < args.length
    · have hb0 := hb1.trans (hb.mono hs1)
      obtain ⟨ad, u, rfl, hadB, hu, hc⟩ := (hR'.out.below hb0).at_ (k := 0) (by omega)
      obtain ⟨a, ha0, rfl⟩ := strs_at hu
      have hak0 : args[k]? = some a := by simpa using ha0
      have hasz := Ha.out k a hak0
      have hak := Lib.hid hak0
      rw [show ad.add 0 = ad from rfl] at hc
      have hpos : 0 < args.length - k := by omega
      clear hu hak0 ha0
      by_cases h2 : a.size < 2
      · have h45 : a.data.toList ≠ [45, 45] := fun e => by
          have h := congrArg List.length e
          have h' : a.size = 2 := by simpa using h
          omega
        have hfin := Lib.hid (hres.out.trans (Pl.rest_stop hak.out h45 (.inl h2)))
        clear h45
        go_wp2_with (go_at_call 105; refine (clone_any (some ad) (args.length - k) cap' (args.drop (k)) _ w.heap.size (by simp) (hR'.out.below hb0) hb0.size (by omega)).mono ?_; rintro e w2 ⟨v2, rfl, hown2, hb2⟩)
        rw [Exit.noGoto_ret]
        go_ret3
        exact parsed_some hfin.out hb0 hb2 hs1 hown (by omega) hown2
      have hd0 := Lib.hid (Pl.drop_at a 0 (by omega))
      by_cases h0 : a[0] = 45
      · have b0 : (((a[0]'(by omega)).toNat : Int) != 45) = false := by
          have := (Pl.u8_beq (a[0]'(by omega)) 45).trans (beq_iff_eq.2 h0)
          rw [bne, show (45 : Int) = ((45 : UInt8).toNat : Int) from rfl, this]; rfl
        have hsl := hcut.out (some ad) (args.length - k) cap' (by omega)
        have hR1 := Lib.hid (show Reads w w.heap.size 1 (cutA (some ad) cap' 1 1) (args.length - k - 1) (strs (args.drop (k + 1))) by
          have h := hR'.out.cutA (k := 1) (cap := cap') (by omega) hcap'
          rw [Nat.mul_one, ← strs_drop, List.drop_drop] at h
          exact h)
        by_cases h45 : a.data.toList = [45, 45]
        · have b45 : (a.toList == [45, 45]) = true := by rw [Lib.toList_data, h45]; rfl
          have hfin := Lib.hid (hres.out.trans (Pl.rest_stroke hak.out h45))
          clear h45 h0
          go_wp2_with (go_at_call 105; refine (clone_any (cutA (some ad) cap' 1 1) (args.length - k - 1) (cap' - 1) (args.drop (k + 1)) _ w.heap.size (by simp; omega) (hR1.out.below hb0) hb0.size (by omega)).mono ?_; rintro e w2 ⟨v2, rfl, hown2, hb2⟩)
          rw [Exit.noGoto_ret]
          go_ret3
          exact parsed_some hfin.out hb0 hb2 hs1 hown (by omega) hown2
        · have b45 : (a.toList == [45, 45]) = false := by rw [Lib.toList_data]; exact beq_eq_false_iff_ne.2 h45
          have hfin := Lib.hid (hres.out.trans (Pl.rest_go hak.out h45 h2 (by have := hd0.out; simp only [List.drop_zero] at this; rw [this]; simp [h0])))
          have htot := Pl.total_drop hak.out
          clear h45 h0
          go_wp2_with fail
          obtain ⟨wo, rfl⟩ : ∃ wo : World, wo = wr := ⟨_, rfl⟩
          go_loopg [0, 8, 10] (a.size - 1) (fun g av v l wr => ∃ (kk j : Nat) (A2 : Option Addr) (cap2 : Nat) (acc' : List Pl.Opt), 1 ≤ kk ∧ kk ≤ a.size ∧ g = a.size - kk ∧ l = .int .i64 kk ∧ k + 1 ≤ j ∧ j ≤ args.length ∧
            av = .slice A2 (args.length - j) cap2 ∧ args.length - j ≤ cap2 ∧ Reads w w.heap.size 1 A2 (args.length - j) (strs (args.drop j)) ∧
            wr.ownsRow w1.heap.size 296 2 v acc'.length (optCells acc') ∧ Below w1.heap.size w1 wr ∧ acc'.length + (a.size - kk) + Pl.total (args.drop j) ≤ 2000000 ∧
            Hid (Pl.outer (Pl.kind s.data.toList) args 0 = Pl.within (Pl.kind s.data.toList) args acc' (a.data.toList.drop kk) j))
          case atStart =>
            exact ⟨1, k + 1, cutA (some ad) cap' 1 1, cap' - 1, acc, by omega, by omega, rfl, rfl, by omega, by omega, rfl, by omega, hR1.out, hown, hb, by omega, hfin⟩
          case round =>
            obtain ⟨kk, j, A2, cap2, acc', hk1, hk2, rfl, rfl, hj1, hj2, rfl, hcap2, hr2, hown', hb', hlen', hres'⟩ := hrel
            have hmap' := ownsMap_below hmap hb' hmlt
            have hR2 := Lib.hid hr2
            clear hr2 hsl
            by_cases hklt : kk < a.size
            · have hd := Lib.hid (Pl.drop_at a kk hklt)
              rcases Pl.kind_range s.data.toList a[kk] with h0 | h1 | h2'
              · have HV := Lib.hid h0
                have hfin' := Lib.hid (hres'.out.trans (by rw [hd.out, Pl.within_none h0]))
                clear h0
                go_wp2_with (at_lookup; refine wpList_lookup_own_int _ rfl _ _ 293 rfl 5 3 .i64 law5 Tryz.underlying293 Tryz.underlying3 (zeroInt _) w.heap.size nM D rfl hmap' _ _ rfl (keyOf_int_mk Tryz.underlying5 (u8_wf _)) ?_; intro c0 hat hwc; obtain rfl := kind_eq hKA.out hat HV.out; clear hat hwc)
                rw [Exit.noGoto_ret]
                go_ret3
                exact ⟨hb1.trans (hb'.mono hs1), by rw [hfin'.out]; rfl⟩
              · have HV := Lib.hid h1
                have hfin' := Lib.hid (hres'.out.trans (by rw [hd.out, Pl.within_alone h1]))
                clear h1
                go_wp2_with (first | (at_lookup; refine wpList_lookup_own_int _ rfl _ _ 293 rfl 5 3 .i64 law5 Tryz.underlying293 Tryz.underlying3 (zeroInt _) w.heap.size nM D rfl hmap' _ _ rfl (keyOf_int_mk Tryz.underlying5 (u8_wf _)) ?_; intro c0 hat hwc; obtain rfl := kind_eq hKA.out hat HV.out; clear hat hwc) | (at_builtin; refine append_opt rfl _ _ rfl w1 wr u8 acc' a[kk] ⟨#[]⟩ rfl rfl hown' hb' (by omega) ?_; intro v1 w2 hown2 hb2))
                go_roundg (a.size - (kk + 1))
                case measure => omega
                case rel => exact ⟨kk + 1, j, A2, cap2, _, by omega, by omega, rfl, by go_num, hj1, hj2, rfl, hcap2, hR2.out, hown2, hb2, by simp; omega, hfin'⟩
              · have HV := Lib.hid h2'
                by_cases hk3 : kk + 1 < a.size
                · have hd2 := Pl.drop_at a (kk + 1) hk3
                  have hfin' := Lib.hid (hres'.out.trans (by rw [hd.out, Pl.within_here h2' (by rw [hd2]; simp), ← extract_drop]))
                  clear h2' hd2
                  go_wp2_with (at_lookup; refine wpList_lookup_own_int _ rfl _ _ 293 rfl 5 3 .i64 law5 Tryz.underlying293 Tryz.underlying3 (zeroInt _) w.heap.size nM D rfl hmap' _ _ rfl (keyOf_int_mk Tryz.underlying5 (u8_wf _)) ?_; intro c0 hat hwc; obtain rfl := kind_eq hKA.out hat HV.out; clear hat hwc)
                  have hw1 : IntKind.i64.wrap (↑kk + 1) = ↑kk + 1 := IntWalk.i64_in _ (by omega)
                  have hw2 : (0 : Int) ≤ (kk : Int) + 1 := by omega
                  have hw3 : ((kk : Int) + 1).toNat = kk + 1 := by omega
                  have hw4 : ((kk : Int) + 1) ≤ (a.size : Int) := by omega
                  go_region_law ((refine step_append_opt rfl _ _ rfl w1 _ u8 acc' a[kk] (a.extract (kk + 1) a.size) ⟨wr.heap.size, 0, none⟩ (by rfl) (by rfl) (by exact cell_two_new wr _ _ _) (by exact hown'.alloc _) (by exact (hb'.alloc hb'.size _).drew) (by omega) ?_; intro v1 w2 hown2 hb2))
                  clear hw1 hw2 hw3 hw4
                  go_wp2_with fail
                  go_roundg (args.length - j)
                  case measure => omega
                  case rel => exact ⟨j, A2, cap2, _, hj2, rfl, rfl, hcap2, hR2.out, hown2, hb2, by simp; omega, hfin'⟩
                · have hnil : a.data.toList.drop (kk + 1) = [] := List.drop_eq_nil_of_le (by rw [Array.length_toList]; show a.size ≤ _; omega)
                  by_cases hjl : j < args.length
                  · obtain ⟨bd, u, rfl, _, hu, hcj⟩ := (hR2.out.below (hb1.trans (hb'.mono hs1))).at_ (k := 0) (by omega)
                    obtain ⟨x, hxj, rfl⟩ := strs_at hu
                    have hxj0 : args[j]? = some x := by simpa using hxj
                    have hfin' := Lib.hid (hres'.out.trans (by rw [hd.out, hnil, Pl.within_next h2' hxj0, ← Pl.within_nil, ← hnil]))
                    have htj := Pl.total_drop hxj0
                    have hz : (((args.length - j : Nat) : Int) == 0) = false := beq_eq_false_iff_ne.2 (by omega)
                    have hpj : 0 < args.length - j := by omega
                    rw [show bd.add 0 = bd from rfl] at hcj
                    have hsl2 := hcut.out (some bd) (args.length - j) cap2 (by omega)
                    have hR3 := Lib.hid (show Reads w w.heap.size 1 (cutA (some bd) cap2 1 1) (args.length - j - 1) (strs (args.drop (j + 1))) by
                      have h := hR2.out.cutA (k := 1) (cap := cap2) (by omega) hcap2
                      rw [Nat.mul_one, ← strs_drop, List.drop_drop] at h
                      exact h)
                    clear h2' hnil hu hxj hxj0
                    go_wp2_with (at_lookup; refine wpList_lookup_own_int _ rfl _ _ 293 rfl 5 3 .i64 law5 Tryz.underlying293 Tryz.underlying3 (zeroInt _) w.heap.size nM D rfl hmap' _ _ rfl (keyOf_int_mk Tryz.underlying5 (u8_wf _)) ?_; intro c0 hat hwc; obtain rfl := kind_eq hKA.out hat HV.out; clear hat hwc)
                    go_region_law ((refine step_append_opt rfl _ _ rfl w1 _ u8 acc' a[kk] x ⟨wr.heap.size, 0, none⟩ (by rfl) (by rfl) (by exact cell_two_new wr _ _ _) (by exact hown'.alloc _) (by exact (hb'.alloc hb'.size _).drew) (by omega) ?_; intro v1 w2 hown2 hb2))
                    all_goals
                      go_wp2_with fail
                      go_roundg (a.size - (kk + 1))
                      case measure => omega
                      case rel => exact ⟨kk + 1, j + 1, _, _, _, by omega, by omega, rfl, by go_num, by omega, by omega, rfl, by omega, hR3.out, hown2, hb2, by simp; omega, hfin'⟩
                  · have hfin' := Lib.hid (hres'.out.trans (by rw [hd.out, hnil, Pl.within_lacks h2' (List.getElem?_eq_none (by omega))]))
                    have hz : (((args.length - j : Nat) : Int) == 0) = true := beq_iff_eq.2 (by omega)
                    clear h2' hnil
                    go_wp2_with (at_lookup; refine wpList_lookup_own_int _ rfl _ _ 293 rfl 5 3 .i64 law5 Tryz.underlying293 Tryz.underlying3 (zeroInt _) w.heap.size nM D rfl hmap' _ _ rfl (keyOf_int_mk Tryz.underlying5 (u8_wf _)) ?_; intro c0 hat hwc; obtain rfl := kind_eq hKA.out hat HV.out; clear hat hwc)
                    rw [Exit.noGoto_ret]
                    go_ret3
                    exact ⟨hb1.trans (hb'.mono hs1), by rw [hfin'.out]; rfl⟩
            · have hfin' := Lib.hid (hres'.out.trans (by rw [List.drop_eq_nil_of_le (by simp; omega), Pl.within_nil]))
              go_wp2_with fail
              go_roundg (args.length - j)
              case measure => omega
              case rel => exact ⟨j, A2, cap2, acc', hj2, rfl, rfl, hcap2, hR2.out, hown', hb', by omega, hfin'⟩
      · have b0 : (((a[0]'(by omega)).toNat : Int) != 45) = true := by
          have := (Pl.u8_beq (a[0]'(by omega)) 45).trans (beq_eq_false_iff_ne.2 h0)
          rw [bne, show (45 : Int) = ((45 : UInt8).toNat : Int) from rfl, this]; rfl
        have h45 : a.data.toList ≠ [45, 45] := fun e => h0 (by
          have h := hd0.out
          rw [List.drop_zero, e] at h
          exact (List.cons.inj h).1.symm)
        have hfin := Lib.hid (hres.out.trans (Pl.rest_stop hak.out h45 (.inr (by have := hd0.out; simp only [List.drop_zero] at this; rw [this]; simp [h0]))))
        clear h45 h0
        go_wp2_with (go_at_call 105; refine (clone_any (some ad) (args.length - k) cap' (args.drop (k)) _ w.heap.size (by simp) (hR'.out.below hb0) hb0.size (by omega)).mono ?_; rintro e w2 ⟨v2, rfl, hown2, hb2⟩)
        rw [Exit.noGoto_ret]
        go_ret3
        exact parsed_some hfin.out hb0 hb2 hs1 hown (by omega) hown2
    · have hfin := Lib.hid (hres.out.trans (Pl.rest_end (List.getElem?_eq_none (by omega))))
      have hb0 := hb1.trans (hb.mono hs1)
      go_wp2_with (go_at_call 105; refine (clone_any A' (args.length - k) cap' (args.drop (k)) _ w.heap.size (by simp) (hR'.out.below hb0) hb0.size (by omega)).mono ?_; rintro e w2 ⟨v2, rfl, hown2, hb2⟩)
      rw [Exit.noGoto_ret]
      go_ret3
      exact parsed_some hfin.out hb0 hb2 hs1 hown (by omega) hown2
end Go.Proofs.YtlhiadnolckoeaaGreatDoor
end

section
namespace Go.Proofs.YtlhiadnolckoeaaGreatDoor
open Go.RowKit

/-- the closure: is it that letter -/
theorem has1_any (x : UInt8) (t : ByteArray) (c : UInt8) (b : Nat) (w : World) (hc : w.cell? ⟨b, 0, none⟩ = some (.int .u8 c.toNat)) (hb : b < w.heap.size) :
    Calls Tryz.prog 183 #[.agg #[.int .u8 x.toNat, .string t], .pointer (some ⟨b, 0, none⟩)] w fun e w' => e = .returned (.bool (x == c)) ∧ Below w.heap.size w w' := by
  have hx := Lib.hid (Pl.u8_beq x c)
  have hc' := fun (o : Obj) => (World.cell?_alloc_lt w o ⟨b, 0, none⟩ hb).trans hc
  clear hc
  go_enter Tryz.func183, Tryz.ntmps183
  go_wp2
  go_returns
  exact ⟨by rw [← hx.out]; rfl, (Below.refl _ _).alloc (Nat.le_refl _) _⟩

set_option maxHeartbeats 400000 in
theorem indexFunc_any (A : Option Addr) (cap : Nat) (l : List Pl.Opt) (c : UInt8) (b : Nat) (w : World) (B : Nat) (hr : Reads w B 2 A l.length (optCells l)) (hB : B ≤ w.heap.size) (hl : l.length ≤ 2097152)
    (hc : w.cell? ⟨b, 0, none⟩ = some (.int .u8 c.toNat)) (hb : b < w.heap.size) :
    Calls Tryz.prog 212 #[.slice A l.length cap, .func (.func 183) #[] #[.pointer (some ⟨b, 0, none⟩)]] w fun e w' =>
      ∃ n : Int, e = .returned (.int .i64 n) ∧ (hasOpt l c = decide (0 ≤ n)) ∧ Below w.heap.size w w' := by
  have hR := Lib.hid (hr.more hB)
  have hC := Lib.hid hc
  clear hr hc
  go_enter Tryz.func212, Tryz.ntmps212
  go_wp2_with fail
  go_loopw [8] (fun i wr => ∃ k : Nat, k ≤ l.length ∧ i = .int .i64 k ∧ Below w.heap.size w wr ∧ Hid (hasOpt l c = hasOpt (l.drop k) c)) (fun i _ => l.length - (intOf i).toNat)
  case atStart => exact ⟨0, Nat.zero_le _, rfl, Below.refl _ _, Lib.hid (by simp)⟩
  case round =>
    obtain ⟨k, hk, rfl, hbl, hs⟩ := hrel
    by_cases hlt : k < l.length
    · obtain ⟨ad, rfl, _, hc1, hc2⟩ := reads_opt (hR.out.below hbl) hlt
      have hdr := Lib.hid (List.drop_eq_getElem_cons hlt)
      have hcb := Lib.hid ((hbl.cell (p := ⟨b, 0, none⟩) hb).trans hC.out)
      by_cases hx : (l[k]).1 = c
      · have hfin := Lib.hid (hs.out.trans (by rw [hdr.out, hasOpt_cons, beq_iff_eq.2 hx]; rfl : _ = true))
        have hcall := Lib.hid (by simpa only [beq_iff_eq.2 hx] using has1_any (l[k]).1 (l[k]).2 c b wr hcb.out (by have := hbl.size; omega))
        clear hx
        go_wp2_with (go_at_call 183; refine hcall.out.mono ?_; rintro e w1 ⟨rfl, hb1⟩)
        go_returns
        exact ⟨k, rfl, by rw [hfin.out]; simp, hbl.trans (hb1.mono hbl.size)⟩
      · have hfin := Lib.hid (hs.out.trans (by rw [hdr.out, hasOpt_cons, beq_eq_false_iff_ne.2 hx]; rfl : _ = hasOpt (l.drop (k + 1)) c))
        have hcall := Lib.hid (by simpa only [beq_eq_false_iff_ne.2 hx] using has1_any (l[k]).1 (l[k]).2 c b wr hcb.out (by have := hbl.size; omega))
        clear hx
        go_wp2_with (go_at_call 183; refine hcall.out.mono ?_; rintro e w1 ⟨rfl, hb1⟩)
        go_roundw
        case rel => exact ⟨k + 1, by omega, by go_num, hbl.trans (hb1.mono hbl.size), hfin⟩
        case measure => simp [intOf]; omega
    · go_wp2_with fail
      go_returns
      exact ⟨-1, rfl, by rw [hs.out, List.drop_eq_nil_of_le (by omega)]; rfl, hbl⟩

set_option maxHeartbeats 400000 in
theorem containsFunc_any (A : Option Addr) (cap : Nat) (l : List Pl.Opt) (c : UInt8) (b : Nat) (w : World) (B : Nat) (hr : Reads w B 2 A l.length (optCells l)) (hB : B ≤ w.heap.size) (hl : l.length ≤ 2097152)
    (hc : w.cell? ⟨b, 0, none⟩ = some (.int .u8 c.toNat)) (hb : b < w.heap.size) :
    Calls Tryz.prog 182 #[.slice A l.length cap, .func (.func 183) #[] #[.pointer (some ⟨b, 0, none⟩)]] w fun e w' =>
      e = .returned (.bool (hasOpt l c)) ∧ Below w.heap.size w w' := by
  have hcall := Lib.hid (indexFunc_any A cap l c b w B hr hB hl hc hb)
  clear hr hc
  go_enter Tryz.func182, Tryz.ntmps182
  go_wp2_with (go_at_call 212; refine hcall.out.mono ?_; rintro e w1 ⟨n, rfl, hn, hb1⟩; have hn' := Lib.hid hn; clear hn)
  go_returns
  exact ⟨by rw [hn'.out]; rfl, hb1⟩

set_option maxHeartbeats 400000 in
theorem has_any (A : Option Addr) (cap : Nat) (l : List Pl.Opt) (c : UInt8) (w : World) (hr : Reads w w.heap.size 2 A l.length (optCells l)) (hl : l.length ≤ 2097152) :
    Calls Tryz.prog 145 #[.slice A l.length cap, .int .u8 c.toNat] w fun e w' => e = .returned (.bool (hasOpt l c)) ∧ Below w.heap.size w w' := by
  have hcall := Lib.hid (containsFunc_any A cap l c w.heap.size (w.alloc (.cells #[.int .u8 c.toNat] 5)) w.heap.size (hr.alloc (Nat.le_refl _) _) (by simp) hl (by simp) (by simp))
  clear hr
  go_enter Tryz.func145, Tryz.ntmps145
  go_wp2_with (go_at_call 182; refine hcall.out.mono ?_; rintro e w1 ⟨rfl, hb1⟩)
  go_returns
  exact ⟨rfl, ((Below.refl _ _).alloc (Nat.le_refl _) _).trans (hb1.mono (by simp))⟩
end Go.Proofs.YtlhiadnolckoeaaGreatDoor
end

section
namespace Go.Proofs.YtlhiadnolckoeaaGreatDoor

namespace Pl
theorem becomes_out (two : List UInt8) : ∀ (l : List UInt8) (i : Nat) (c d : UInt8), c ∉ l → becomes two l i c d = d
  | [], _, _, _, _ => rfl
  | x :: l, i, c, d, h => by
    simp only [List.mem_cons, not_or] at h
    unfold becomes
    rw [if_neg (fun e => h.1 e.symm)]
    exact becomes_out two l (i + 1) c d h.2
theorem becomes_at (two : List UInt8) : ∀ (l : List UInt8) (i k : Nat) (c d : UInt8), l.Nodup → l[k]? = some c → becomes two l i c d = two.getD (min (i + k) (two.length - 1)) 0
  | [], _, _, _, _, _, h => by simp at h
  | x :: l, i, 0, c, d, hn, h => by
    obtain rfl : x = c := by simpa using h
    unfold becomes
    rw [if_pos rfl, becomes_out two l (i + 1) x _ (List.nodup_cons.1 hn).1]
    rfl
  | x :: l, i, k + 1, c, d, hn, h => by
    unfold becomes
    rw [becomes_at two l (i + 1) k c _ (List.nodup_cons.1 hn).2 (by simpa using h)]
    rw [show i + 1 + k = i + (k + 1) by omega]
/-- a byte is translated by its place -/
theorem to_at (x y : List UInt8) (hx : x.Nodup) (hl : x.length = y.length) (k : Nat) (c : UInt8) (h : x[k]? = some c) : some (Tab.to ⟨x, y, false, true, false⟩ c) = y[k]? := by
  have hk := (List.getElem?_eq_some_iff.1 h).1
  have e : Tab.to ⟨x, y, false, true, false⟩ c = y.getD (min (0 + k) (y.length - 1)) 0 := becomes_at y x 0 k c c hx h
  rw [e, show min (0 + k) (y.length - 1) = k by omega, List.getD_eq_getElem?_getD, List.getElem?_eq_getElem (by omega)]
  rfl
theorem to_out (x y : List UInt8) (c : UInt8) (h : c ∉ x) : Tab.to ⟨x, y, false, true, false⟩ c = c := becomes_out y x 0 c c h
theorem to_back (x y : List UInt8) (hx : x.Nodup) (hy : y.Nodup) (hl : x.length = y.length) (c : UInt8) (h : c ∈ y → c ∈ x) : Tab.to ⟨y, x, false, true, false⟩ (Tab.to ⟨x, y, false, true, false⟩ c) = c := by
  by_cases hc : c ∈ x
  · obtain ⟨k, hk, e⟩ := List.mem_iff_getElem.1 hc
    have h1 : x[k]? = some c := by rw [List.getElem?_eq_getElem hk, e]
    have h2 := to_at x y hx hl k c h1
    have h3 := to_at y x hy hl.symm k _ h2.symm
    rw [h1] at h3
    exact Option.some.inj h3
  · rw [to_out x y c hc, to_out y x c (fun e => hc (h e))]
theorem tell_back (x y : List UInt8) (hx : x.Nodup) (hy : y.Nodup) (hl : x.length = y.length) (l : List UInt8) (h : ∀ c ∈ l, c ∈ y → c ∈ x) : Tab.tell ⟨y, x, false, true, false⟩ (Tab.tell ⟨x, y, false, true, false⟩ l) = l := by
  rw [tell_plain _ rfl rfl, tell_plain _ rfl rfl, List.map_map]
  have : ∀ c ∈ l, (Tab.to ⟨y, x, false, true, false⟩ ∘ Tab.to ⟨x, y, false, true, false⟩) c = id c := fun c hc => to_back x y hx hy hl c (h c hc)
  rw [List.map_congr_left this, List.map_id]
end Pl

end Go.Proofs.YtlhiadnolckoeaaGreatDoor
end

section
namespace Go.Proofs.YtlhiadnolckoeaaGreatDoor
open Go.RowKit Go.Maps

namespace Pl
def othersL (l : List UInt8) : List UInt8 := allB.filter (fun c => !l.contains c)
def oneOf (comp : Bool) (l : List UInt8) : List UInt8 := if comp then othersL l else l
def filledL (y : TS) (size : Nat) : List UInt8 := if y.rest < 0 then y.out else fillL y.out y.rest.toNat size
theorem setFrom_len : ∀ (n : Nat) (s : List UInt8) (x : TS), s.length ≤ n → (setFrom s x).out.length ≤ x.out.length + 65536 * s.length := by
  intro n
  induction n with
  | zero =>
    intro s x h
    rw [show s = [] from List.eq_nil_of_length_eq_zero (by omega), setFrom_nil]
    simp
  | succ n ih =>
    intro s x h
    by_cases h0 : s = []
    · rw [h0, setFrom_nil]; simp
    · rw [setFrom_step h0]
      have h1 := step_lt h0 x
      have h2 := stepS_out s x
      have h3 := ih (stepS s x).1 (stepS s x).2 (by omega)
      omega
theorem setL_len (s : List UInt8) : (setL s).out.length ≤ 65536 * s.length := by
  have := setFrom_len s.length s ⟨[], -1, false⟩ (Nat.le_refl _)
  simpa [setL] using this
theorem becomes_snoc (two : List UInt8) (x : UInt8) : ∀ (l : List UInt8) (i : Nat) (c d : UInt8), becomes two (l ++ [x]) i c d = if x = c then two.getD (min (i + l.length) (two.length - 1)) 0 else becomes two l i c d := by
  intro l
  induction l with
  | nil => intro i c d; simp [becomes]
  | cons y l ih =>
    intro i c d
    rw [List.cons_append]
    unfold becomes
    rw [ih]
    rw [List.length_cons, show i + 1 + l.length = i + (l.length + 1) by omega]
/-- what bytes have become behind so many places -/
def toK (two one : List UInt8) (k : Nat) (c : UInt8) : UInt8 := becomes two (one.take k) 0 c c
end Pl
/-- where a set is to be filled: nowhere, or at one of its places -/
def RestOk (y : Pl.TS) : Prop := y.rest = -1 ∨ ∃ r : Nat, y.rest = (r : Int) ∧ r < y.out.length
/-- arguments that are not too great -/
def Small (args : List ByteArray) : Prop := args.length ≤ 1000 ∧ Pl.total args ≤ 2000000 ∧ ∀ a ∈ args, a.size ≤ 2000000
/-- arguments that are parted so -/
structure Asked (args : List ByteArray) (L : List Pl.Opt) (j : Nat) (del sq comp : Bool) : Prop where
  parse : Pl.outer (Pl.kind [99, 67, 100, 115]) args 0 = some (L, j)
  del : hasOpt L 100 = del
  sq : hasOpt L 115 = sq
  comp : hasOpt L 99 = comp
  capital : hasOpt L 67 = false
  few : L.length ≤ 1000

theorem read_parse (w : World) (A : Option Addr) (cap n : Nat) (args : List ByteArray) (L : List Pl.Opt) (j m : Nat) (ops : List ByteArray) (del sq comp : Bool) (hr : Reads w w.heap.size 1 A n (strs args)) (hn : args.length = n) (hcap : n ≤ cap) (ha : Asked args L j del sq comp) (hargs : args.drop j = ops) (hm : ops.length = m) (hs : Small args) :
    Calls Tryz.prog 144 #[.slice A n cap, .string ⟨#[99, 67, 100, 115]⟩] w fun e w' => ∃ Ao co Ax cx, e = .returned (.tuple #[.slice Ao L.length co, .slice Ax m cx, .int .i64 0]) ∧ Below w.heap.size w w' ∧
      Reads w' w'.heap.size 2 Ao L.length (optCells L) ∧ Reads w' w'.heap.size 1 Ax m (strs ops) := by
  subst hn
  refine (parse_any A cap args ⟨#[99, 67, 100, 115]⟩ w (by decide) hcap hr hs.2.1 (by have := hs.1; omega) (fun k a hk => hs.2.2 a (List.mem_of_getElem? hk))).mono ?_
  intro e w' h
  have hp : Pl.outer (Pl.kind (⟨#[99, 67, 100, 115]⟩ : ByteArray).data.toList) args 0 = some (L, j) := ha.parse
  rw [hp] at h
  obtain ⟨hb, v, v2, he, ho, hx⟩ := h
  have hm' : args.length - j = m := by rw [← hm, ← hargs, List.length_drop]
  rw [hm', hargs] at hx
  obtain ⟨Ao, co, rfl, _, _, hro⟩ := own_slice ho
  obtain ⟨Ax, cx, rfl, _, _, hrx⟩ := own_slice hx
  exact ⟨Ao, co, Ax, cx, he, hb, hro, hrx⟩
theorem read_has (Ao : Option Addr) (co : Nat) (L : List Pl.Opt) (c : UInt8) (z : Int) (hz : (c.toNat : Int) = z) (b : Bool) (hb : hasOpt L c = b) (V : World) (hR : Reads V V.heap.size 2 Ao L.length (optCells L)) (hl : L.length ≤ 1000) :
    Calls Tryz.prog 145 #[.slice Ao L.length co, .int .u8 z] V fun e w' => e = .returned (.bool b) ∧ Below V.heap.size V w' := by
  subst hz hb
  exact has_any Ao co L c V hR (by omega)
theorem fillL_len (l : List UInt8) (r size : Nat) : (Pl.fillL l r size).length ≤ l.length + size + 1 := by
  unfold Pl.fillL
  simp only [List.length_append, List.length_take, List.length_replicate, List.length_drop]
  omega
theorem filledL_len (y : Pl.TS) (size : Nat) : (Pl.filledL y size).length ≤ y.out.length + size + 1 := by
  unfold Pl.filledL
  split
  · omega
  · exact fillL_len _ _ _
theorem read_fill (V : World) (A : Option Addr) (cap n size : Nat) (y : Pl.TS) (hr : Reads V V.heap.size 1 A n (bytesC y.out)) (hn : y.out.length = n) (hcap : n ≤ cap) (hy : RestOk y) (hl : n ≤ 70368744177664) (hs : size ≤ 17592186044416) (m : Nat) (hm : (Pl.filledL y size).length = m) :
    Calls Tryz.prog 147 #[.slice A n cap, .int .i64 y.rest, .int .i64 (size : Int)] V fun e w' => ∃ A2 c2, e = .returned (.slice A2 m c2) ∧ Reads w' w'.heap.size 1 A2 m (bytesC (Pl.filledL y size)) ∧ Below V.heap.size V w' := by
  subst hm
  rcases hy with hy | ⟨r, hy, hrl⟩
  · have hf : Pl.filledL y size = y.out := if_pos (by omega)
    rw [hf, hn]
    refine (fill_neg V A cap n y.rest size (by omega)).mono ?_
    rintro e w' ⟨rfl, rfl⟩
    exact ⟨A, cap, rfl, hr, Below.refl _ _⟩
  · have hf : Pl.filledL y size = Pl.fillL y.out r size := by
      unfold Pl.filledL
      rw [if_neg (by omega), hy]
      rfl
    rw [hf, hy]
    refine (fill_any V A cap n r size y.out hr hn (by omega) hcap hl hs).mono ?_
    rintro e w' ⟨v, rfl, hown, hb⟩
    obtain ⟨A2, c2, rfl, _, _, hrd⟩ := own_slice hown
    exact ⟨A2, c2, rfl, hrd, hb⟩
/-! ### the table while it is filled -/
def zB (_ : Nat) : Value := .bool false
def idF (k j : Nat) : Value := if j < k then .int .u8 (j : Int) else .int .u8 0
theorem tabC_congr {a b c d e f : Nat → Value} (h1 : ∀ i, i < 256 → a i = d i) (h2 : ∀ i, i < 256 → b i = e i) (h3 : ∀ i, i < 256 → c i = f i) : tabC a b c = tabC d e f := by
  unfold tabC
  refine arrF_congr fun i hi => ?_
  unfold tabF
  split
  · exact h1 _ (by assumption)
  · split
    · exact h2 _ (by omega)
    · exact h3 _ (by omega)
theorem zeros_tab0 : Tryz.zeroCells222 = tabC (idF 0) zB zB := by
  rw [zeros_tab]
  refine tabC_congr (fun i _ => ?_) (fun _ _ => rfl) (fun _ _ => rfl)
  unfold idF
  rw [if_neg (by omega)]
theorem idF_succ {k : Nat} (hk : k < 256) (b c : Nat → Value) : (tabC (idF k) b c).setIfInBounds k (.int .u8 (k : Int)) = tabC (idF (k + 1)) b c := by
  rw [tabC_set hk]
  refine tabC_congr (fun i _ => ?_) (fun _ _ => rfl) (fun _ _ => rfl)
  unfold idF
  by_cases e : i = k
  · subst e; simp
  · simp only [if_neg e]
    by_cases h : i < k
    · rw [if_pos h, if_pos (by omega)]
    · rw [if_neg h, if_neg (by omega)]
theorem idF_all (b c : Nat → Value) : tabC (idF 256) b c = tabC (byteF fun x => x) b c := by
  refine tabC_congr (fun i hi => ?_) (fun _ _ => rfl) (fun _ _ => rfl)
  unfold idF byteF
  rw [if_pos hi, UInt8.toNat_ofNat', Nat.mod_eq_of_lt hi]
theorem ofNat_ne {j : Nat} {c : UInt8} (hj : j < 256) (e : j ≠ c.toNat) : UInt8.ofNat j ≠ c := fun h => e (by rw [← h, UInt8.toNat_ofNat', Nat.mod_eq_of_lt hj])
theorem toK_zero (two one : List UInt8) (b c : Nat → Value) : tabC (byteF fun x => x) b c = tabC (byteF (Pl.toK two one 0)) b c := by
  refine tabC_congr (fun i _ => ?_) (fun _ _ => rfl) (fun _ _ => rfl)
  unfold byteF Pl.toK
  rw [List.take_zero]
  rfl
theorem toK_succ {two one : List UInt8} {k : Nat} {c x : UInt8} (hc : one[k]? = some c) (hx : two[min k (two.length - 1)]? = some x) (b d : Nat → Value) :
    (tabC (byteF (Pl.toK two one k)) b d).setIfInBounds c.toNat (.int .u8 (x.toNat : Int)) = tabC (byteF (Pl.toK two one (k + 1))) b d := by
  have hk : k < one.length := (List.getElem?_eq_some_iff.1 hc).1
  rw [tabC_set c.toNat_lt]
  refine tabC_congr (fun i hi => ?_) (fun _ _ => rfl) (fun _ _ => rfl)
  unfold byteF Pl.toK
  rw [List.take_add_one, hc, Option.toList_some, Pl.becomes_snoc, List.length_take, Nat.min_eq_left (Nat.le_of_lt hk), Nat.zero_add, List.getD_eq_getElem?_getD, hx, Option.getD_some]
  by_cases e : i = c.toNat
  · subst e
    rw [if_pos rfl, show UInt8.ofNat c.toNat = c from UInt8.ofNat_toNat, if_pos rfl]
  · rw [if_neg e, if_neg (fun h => ofNat_ne hi e h.symm)]
theorem toK_all (two one : List UInt8) (sq : Bool) : Pl.toK two one one.length = Pl.Tab.to ⟨one, two, false, true, sq⟩ := by
  funext c
  unfold Pl.toK Pl.Tab.to
  rw [List.take_length, if_neg (by simp)]
theorem to_same (one two : List UInt8) (del sq : Bool) : (fun x => x) = Pl.Tab.to ⟨one, two, del, false, sq⟩ := by
  funext c
  unfold Pl.Tab.to
  rw [if_pos (by simp)]
theorem bx_grown {B g : Nat} {w w' : World} (h : w.grownBy w' (some g)) (hB : B ≤ w.heap.size) : BX B g w w' := ⟨h.os, h.tape, h.output, h.size, fun k hk hg => h.block k (by omega) (fun e => hg (by injection e))⟩
/-- what is older than the table's block -/
theorem reads_bx {g n : Nat} {W V : World} {A : Option Addr} {l : List UInt8} (h : Reads W g 1 A n (bytesC l)) (hV : BX (g + 1) g W V) (hg : g ≤ V.heap.size) : Reads V V.heap.size 1 A n (bytesC l) :=
  (h.keep fun p hp => World.cell?_of_block (hV.block p.block (by omega) (by omega))).more hg
theorem tab_two {V : World} {g : Nat} {one two : List UInt8} {n1 : Nat} {sq : Bool} (hn : one.length = n1) (h : Blk V g 222 (tabC (byteF (Pl.toK two one n1)) zB (if sq then markF two else zB))) : TabAt V g ⟨one, two, false, true, sq⟩ := by
  subst hn
  unfold TabAt
  rw [toK_all two one sq] at h
  have e : tabC (byteF (Pl.Tab.to ⟨one, two, false, true, sq⟩)) (boolF (Pl.Tab.gone ⟨one, two, false, true, sq⟩)) (boolF (Pl.Tab.squ ⟨one, two, false, true, sq⟩)) = tabC (byteF (Pl.Tab.to ⟨one, two, false, true, sq⟩)) zB (if sq then markF two else zB) :=
    tabC_congr (fun _ _ => rfl) (fun _ _ => rfl) (fun _ _ => by cases sq <;> rfl)
  rw [e]
  exact h
theorem tab_one {V : World} {g : Nat} {one : List UInt8} {del sq : Bool} (h : Blk V g 222 (tabC (byteF fun x => x) (if del then markF one else zB) (if sq then markF one else zB))) : TabAt V g ⟨one, one, del, false, sq⟩ := by
  unfold TabAt
  rw [to_same one one del sq] at h
  have e : tabC (byteF (Pl.Tab.to ⟨one, one, del, false, sq⟩)) (boolF (Pl.Tab.gone ⟨one, one, del, false, sq⟩)) (boolF (Pl.Tab.squ ⟨one, one, del, false, sq⟩)) = tabC (byteF (Pl.Tab.to ⟨one, one, del, false, sq⟩)) (if del then markF one else zB) (if sq then markF one else zB) :=
    tabC_congr (fun _ _ => rfl) (fun _ _ => by cases del <;> rfl) (fun _ _ => by cases sq <;> rfl)
  rw [e]
  exact h

end Go.Proofs.YtlhiadnolckoeaaGreatDoor
end

section
namespace Go.Proofs.YtlhiadnolckoeaaGreatDoor
open Go.RowKit Go.Maps

set_option maxRecDepth 100000 in
set_option maxHeartbeats 16000000 in
theorem read_2ff (w : World) (A : Option Addr) (cap n : Nat) (args : List ByteArray) (L : List Pl.Opt) (j : Nat) (s1 s2 : List UInt8) (hT : Tabs w) (hr : Reads w w.heap.size 1 A n (strs args)) (hn : args.length = n) (hcap : n ≤ cap)
    (ha : Asked args L j false false false) (hargs : args.drop j = [strB s1, strB s2]) (hsm : Small args) (h1 : s1.length ≤ 1048576) (g1 : (Pl.setL s1).bad = false) (r1 : (Pl.setL s1).rest = -1) (h2 : s2.length ≤ 1048576) (g2 : (Pl.setL s2).bad = false) (r2 : RestOk (Pl.setL s2)) (hne : Pl.oneOf false (Pl.setL s1).out ≠ [] → Pl.filledL (Pl.setL s2) (Pl.oneOf false (Pl.setL s1).out).length ≠ []) :
    Calls Tryz.prog 115 #[.slice A n cap] w fun e w' => ∃ t, e = .returned (.tuple #[.pointer (some ⟨t, 0, none⟩), .bool true]) ∧ TabAt w' t ⟨Pl.oneOf false (Pl.setL s1).out, Pl.filledL (Pl.setL s2) (Pl.oneOf false (Pl.setL s1).out).length, false, true, false⟩ ∧ w.heap.size ≤ t ∧ Below w.heap.size w w' := by
  have hpar := read_parse w A cap n args L j 2 [strB s1, strB s2] _ _ _ hr hn hcap ha hargs rfl hsm
  have hLf := ha.few
  have HD := Lib.hid ha.del
  have HQ := Lib.hid ha.sq
  have HC := Lib.hid ha.comp
  have HP := Lib.hid ha.capital
  have HT := Lib.hid hT
  have hl1 := Pl.setL_len s1
  have hl2 := Pl.setL_len s2
  have hset1 := fun V (hV : Below w.heap.size w V) => set_any V s1 h1 (HT.out.below hV)
  unfold setRes at hset1
  simp only [g1, r1, Bool.false_eq_true, if_false] at hset1
  have hset2 := fun V (hV : Below w.heap.size w V) => set_any V s2 h2 (HT.out.below hV)
  unfold setRes at hset2
  simp only [g2, Bool.false_eq_true, if_false] at hset2
  obtain ⟨one0, hone0⟩ : ∃ l, (Pl.setL s1).out = l := ⟨_, rfl⟩
  rw [hone0] at hset1 hl1 hne
  obtain ⟨n0, hn0⟩ : ∃ n0, one0.length = n0 := ⟨_, rfl⟩
  rw [hn0] at hset1 hl1
  have HONE0 := Lib.hid hone0
  have HN0 := Lib.hid hn0
  clear hT hr ha hargs hsm g1 r1 hone0 hn0
  go_enter Tryz.func115, Tryz.ntmps115
  go_wp2_with (first
    | (go_at_call 144; refine hpar.mono ?_; rintro e w1 ⟨Ao, co, Ax, cx, rfl, hb1, hro, hrx⟩
       have hs01 := hb1.size
       have hasD := fun V (hV : Below w1.heap.size w1 V) => read_has Ao co L 100 100 rfl _ HD.out V (Reads.more (hro.below hV) hV.size) hLf
       have hasQ := fun V (hV : Below w1.heap.size w1 V) => read_has Ao co L 115 115 rfl _ HQ.out V (Reads.more (hro.below hV) hV.size) hLf
       have hasC := fun V (hV : Below w1.heap.size w1 V) => read_has Ao co L 99 99 rfl _ HC.out V (Reads.more (hro.below hV) hV.size) hLf
       have hasP := fun V (hV : Below w1.heap.size w1 V) => read_has Ao co L 67 67 rfl _ HP.out V (Reads.more (hro.below hV) hV.size) hLf
       have hopd := fun V (hV : Below w1.heap.size w1 V) => Reads.more (hrx.below hV) hV.size
       clear hro hrx)
    | (go_at_call 145; (with_reducible refine (hasD w1 (Below.refl _ _)).mono ?_); rintro e w2 ⟨rfl, hb2⟩)
    | (go_at_call 145; (with_reducible refine (hasQ w2 hb2).mono ?_); rintro e w3 ⟨rfl, hb3⟩
       have hb13 := hb2.trans (hb3.mono hb2.size)
       obtain ⟨ad, u, rfl, _, hu, hx1⟩ := (hopd w3 hb13).at_ (k := 0) (by omega)
       obtain rfl : u = .string (strB s1) := (Option.some.inj hu).symm
       clear hu
       have hx1' : w3.cell? ad = some (.string (strB s1)) := (by simpa [Addr.add] using hx1)
       have hb03 := hb1.trans (hb13.mono hs01))
    | (go_at_call 7; (with_reducible refine (hset1 w3 hb03).mono ?_); rintro e w4 ⟨v4, rfl, hown4, hb4⟩; obtain ⟨OA, oc, rfl, hc4, _, hrd4⟩ := own_slice hown4
       have hb14 := hb13.trans (hb4.mono hb13.size))
    | (go_at_call 145; (with_reducible refine (hasC w4 hb14).mono ?_); rintro e w5 ⟨rfl, hb5⟩; have hb15 := hb14.trans (hb5.mono hb14.size)
       have hrd5 := Reads.more (hrd4.below hb5) hb5.size)
    | (go_at_call 145; (with_reducible refine (hasP w5 hb15).mono ?_); rintro e w6 ⟨rfl, hb6⟩; have hb16 := hb15.trans (hb6.mono hb15.size)
       have hb06 := hb1.trans (hb16.mono hs01)
       have hrd6 := Reads.more (hrd5.below hb6) hb6.size
       obtain ⟨n1, hn01⟩ : ∃ n1, n0 = n1 := ⟨_, rfl⟩
       have hn1 := HN0.out.trans hn01
       have hn1b : n1 ≤ 70368744177664 := (by omega)
       rw [hn01] at hrd6 ⊢
       obtain ⟨ad', u, had, _, hu, hx2⟩ := (hopd w6 hb16).at_ (k := 1) (by omega)
       obtain rfl : u = .string (strB s2) := (Option.some.inj hu).symm
       obtain rfl : ad = ad' := Option.some.inj had
       have hx2' : w6.cell? ⟨ad.block, ad.off + 1, none⟩ = some (.string (strB s2)) := (by simpa [Addr.add] using hx2)
       clear had hu hx2)
    | (go_at_call 7; (with_reducible refine (hset2 w6 hb06).mono ?_); rintro e w7 ⟨v7, rfl, hown7, hb7⟩; obtain ⟨A7, c7, rfl, hc7, _, hrd7⟩ := own_slice hown7
       obtain ⟨n2, hn2⟩ : ∃ n2, (Pl.filledL (Pl.setL s2) n1).length = n2 := ⟨_, rfl⟩
       have hfil := read_fill w7 A7 c7 _ n1 (Pl.setL s2) hrd7 rfl hc7 r2 (by omega) (by omega) n2 hn2)
    | (go_at_call 147; (with_reducible refine hfil.mono ?_); rintro e V0 ⟨TA, tc, rfl, hrdT, hb8⟩))
  have hb68 : Below w6.heap.size w6 V0 := hb7.trans (hb8.mono hb7.size)
  have hb0 : Below w.heap.size w V0 := hb06.trans (hb68.mono hb06.size)
  have hrdO := Reads.more (hrd6.below hb68) hb68.size
  have hn2b : n2 ≤ 70368744177664 := by have := filledL_len (Pl.setL s2) n1; omega
  have hfin : ∀ V t, Blk V t 222 (tabC (byteF (Pl.toK (Pl.filledL (Pl.setL s2) n1) one0 n1)) zB (zB)) → TabAt V t ⟨Pl.oneOf false (Pl.setL s1).out, Pl.filledL (Pl.setL s2) (Pl.oneOf false (Pl.setL s1).out).length, false, true, false⟩ := fun V t h => by
    rw [HONE0.out, show Pl.oneOf false one0 = one0 from rfl, hn1]
    exact tab_two hn1 h
  rw [show Pl.oneOf false one0 = one0 from rfl, hn1] at hne
  clear hasD hasQ hasC hasP hopd
  obtain ⟨g, hg⟩ : ∃ g, V0.heap.size = g := ⟨_, rfl⟩
  have hK0 : Blk (V0.alloc (.cells Tryz.zeroCells222 222)) g 222 (tabC (idF 0) zB zB) := by rw [← hg, zeros_tab0]; exact Blk.new V0 _ _
  obtain ⟨W, hW⟩ : ∃ W, V0.alloc (.cells Tryz.zeroCells222 222) = W := ⟨_, rfl⟩
  have hbw : Below w.heap.size w W := by rw [← hW]; exact hb0.alloc hb0.size _
  have hwg : w.heap.size ≤ g := by rw [← hg]; exact hb0.size
  have hRO : Reads W g 1 OA n1 (bytesC one0) := by rw [← hW, ← hg]; exact hrdO.alloc (Nat.le_refl _) _
  have hRT : Reads W g 1 TA n2 (bytesC (Pl.filledL (Pl.setL s2) n1)) := by rw [← hW, ← hg]; exact hrdT.alloc (Nat.le_refl _) _
  rw [hW] at hK0 ⊢
  rw [hg]
  have H0 := Lib.hid hK0
  have HW := Lib.hid hbw
  have HRO := Lib.hid hRO
  have HRT := Lib.hid hRT
  have HN1 := Lib.hid hn1
  have HN2 := Lib.hid hn2
  have HFIN := Lib.hid hfin
  have HNE := Lib.hid hne
  clear hK0 hbw hRO hRT hW hn1 hn2 hfin hrdO hrdT hb0 hne
  go_loopw [17, 110] (fun _ iv wr => ∃ k : Nat, k ≤ 256 ∧ iv = .int .i64 k ∧ Hid (Blk wr g 222 (tabC (idF k) zB zB)) ∧ Hid (BX (g + 1) g W wr)) (fun _ iv _ => 256 - (intOf iv).toNat)
  case atStart => exact ⟨0, by omega, rfl, H0, Lib.hid (bx (Below.refl _ _))⟩
  case round =>
    obtain ⟨k, hk, rfl, hkb, hx⟩ := hrel
    by_cases hlt : k < 256
    · have m1 : wr.cell? ⟨g, k, none⟩ = some (idF k k) := (hkb.out.cell _).trans (tabC_to hlt)
      have m2 : wr.frozen? ⟨g, k, none⟩ = false := hkb.out.frozen _
      have m3 := hkb.out.lt
      have HS := Lib.hid (idF_succ hlt zB zB)
      go_wp2_with fail
      exact ⟨⟨k + 1, by omega, by go_num, Lib.hid (by rw [← HS.out]; exact hkb.out.set_ k _), Lib.hid (hx.out.setG k _)⟩, by simp [intOf]; omega⟩
    · obtain rfl : k = 256 := by omega
      have HK1 : Hid (Blk wr g 222 (tabC (byteF (Pl.toK (Pl.filledL (Pl.setL s2) n1) one0 0)) zB zB)) := Lib.hid (by rw [← toK_zero, ← idF_all]; exact hkb.out)
      clear hkb
      have hcase : (n1 = 0 ∧ n2 = 0) ∨ 0 < n2 := by
        rcases Nat.eq_zero_or_pos n2 with h | h
        · refine .inl ⟨?_, h⟩
          rcases Nat.eq_zero_or_pos n1 with h' | h'
          · exact h'
          · exact absurd (List.eq_nil_of_length_eq_zero (HN2.out.trans h)) (HNE.out (List.length_pos_iff.1 (by rw [HN1.out]; exact h')))
        · exact .inr h
      rcases hcase with ⟨h10, h20⟩ | hp2
      · subst h10 h20
        go_wp2_with fail
        refine wp_loop_rounds 1 ?_
        rw [rounds_succ]
        go_wp2_with fail
        go_returns
        exact ⟨g, rfl, HFIN.out _ _ HK1.out, hwg, HW.out.trans (hx.out.low hwg (by omega))⟩
      · have hz2 : ((n2 : Int) == 0) = false := by simp; omega
        go_wp2_with fail
        have HX := Lib.hid hx.out
        clear hx
        go_loopw [18, 19, 146] (fun _ _ iv wr' => ∃ k : Nat, k ≤ n1 ∧ iv = .int .i64 k ∧ Hid (Blk wr' g 222 (tabC (byteF (Pl.toK (Pl.filledL (Pl.setL s2) n1) one0 k)) zB zB)) ∧ Hid (BX (g + 1) g W wr')) (fun _ _ iv _ => n1 - (intOf iv).toNat)
        case atStart => exact ⟨0, by omega, rfl, HK1, HX⟩
        case round =>
          obtain ⟨k, hk, rfl, hkb, hx⟩ := hrel
          have hgw := hkb.out.lt
          by_cases hlt : k < n1
          · obtain ⟨ao, u, rfl, _, hu, hco⟩ := (reads_bx HRO.out hx.out (by omega)).at_ hlt
            obtain ⟨c, hc⟩ : ∃ c, (one0)[k]? = some c := ⟨_, List.getElem?_eq_getElem (by rw [HN1.out]; exact hlt)⟩
            obtain rfl : u = .int .u8 (c.toNat : Int) := by
              simp only [bytesC, List.getElem?_map, hc, Option.map_some] at hu
              exact (Option.some.inj hu).symm
            obtain ⟨m, hm⟩ : ∃ m, min k (n2 - 1) = m := ⟨_, rfl⟩
            have hmi0 : min (k : Int) ((n2 : Int) - 1) = (m : Int) := by omega
            have hmi : min (k : Int) (wrap64 ((n2 : Int) - 1)) = (m : Int) := by rw [w64' _ (by omega)]; exact hmi0
            have hmi2 : min (k : Int) (IntKind.i64.wrap ((n2 : Int) - 1)) = (m : Int) := by rw [IntWalk.i64_in _ (by omega)]; exact hmi0
            have hm2 : m < n2 := by omega
            obtain ⟨at', v, rfl, _, hv, hct⟩ := (reads_bx HRT.out hx.out (by omega)).at_ hm2
            obtain ⟨x, hx'⟩ : ∃ x, ((Pl.filledL (Pl.setL s2) n1))[m]? = some x := ⟨_, List.getElem?_eq_getElem (by rw [HN2.out]; exact hm2)⟩
            obtain rfl : v = .int .u8 (x.toNat : Int) := by
              simp only [bytesC, List.getElem?_map, hx', Option.map_some] at hv
              exact (Option.some.inj hv).symm
            have hcl : c.toNat < 256 := c.toNat_lt
            have m1 : wr.cell? ⟨g, c.toNat, none⟩ = some (byteF (Pl.toK (Pl.filledL (Pl.setL s2) n1) one0 k) c.toNat) := (hkb.out.cell _).trans (tabC_to hcl)
            have m2 : wr.frozen? ⟨g, c.toNat, none⟩ = false := hkb.out.frozen _
            have HS := Lib.hid (toK_succ hc (by rw [HN2.out, hm]; exact hx') zB zB)
            clear hu hv hc hx' hm
            go_wp2_with fail
            go_region
            go_wp2_with fail
            exact ⟨⟨k + 1, by omega, by go_num, Lib.hid (by rw [← HS.out]; exact hkb.out.drew.set_ _ _), Lib.hid ((hx.out.then (below_drewN (Below.refl _ _) 1)).setG _ _)⟩, by simp [intOf]; omega⟩
          · obtain rfl : k = n1 := by omega
            go_wp2_with fail
            go_returns
            exact ⟨g, rfl, HFIN.out _ _ hkb.out, hwg, HW.out.trans (hx.out.low hwg (by omega))⟩

end Go.Proofs.YtlhiadnolckoeaaGreatDoor
end

section
namespace Go.Proofs.YtlhiadnolckoeaaGreatDoor
open Go.RowKit Go.Maps

set_option maxRecDepth 100000 in
set_option maxHeartbeats 16000000 in
theorem read_1df (w : World) (A : Option Addr) (cap n : Nat) (args : List ByteArray) (L : List Pl.Opt) (j : Nat) (s1 : List UInt8) (hT : Tabs w) (hr : Reads w w.heap.size 1 A n (strs args)) (hn : args.length = n) (hcap : n ≤ cap)
    (ha : Asked args L j true false false) (hargs : args.drop j = [strB s1]) (hsm : Small args) (h1 : s1.length ≤ 1048576) (g1 : (Pl.setL s1).bad = false) (r1 : (Pl.setL s1).rest = -1) :
    Calls Tryz.prog 115 #[.slice A n cap] w fun e w' => ∃ t, e = .returned (.tuple #[.pointer (some ⟨t, 0, none⟩), .bool true]) ∧ TabAt w' t ⟨Pl.oneOf false (Pl.setL s1).out, Pl.oneOf false (Pl.setL s1).out, true, false, false⟩ ∧ w.heap.size ≤ t ∧ Below w.heap.size w w' := by
  have hpar := read_parse w A cap n args L j 1 [strB s1] _ _ _ hr hn hcap ha hargs rfl hsm
  have hLf := ha.few
  have HD := Lib.hid ha.del
  have HQ := Lib.hid ha.sq
  have HC := Lib.hid ha.comp
  have HP := Lib.hid ha.capital
  have HT := Lib.hid hT
  have hl1 := Pl.setL_len s1
  have hset1 := fun V (hV : Below w.heap.size w V) => set_any V s1 h1 (HT.out.below hV)
  unfold setRes at hset1
  simp only [g1, r1, Bool.false_eq_true, if_false] at hset1
  obtain ⟨one0, hone0⟩ : ∃ l, (Pl.setL s1).out = l := ⟨_, rfl⟩
  rw [hone0] at hset1 hl1
  obtain ⟨n0, hn0⟩ : ∃ n0, one0.length = n0 := ⟨_, rfl⟩
  rw [hn0] at hset1 hl1
  have HONE0 := Lib.hid hone0
  have HN0 := Lib.hid hn0
  clear hT hr ha hargs hsm g1 r1 hone0 hn0
  go_enter Tryz.func115, Tryz.ntmps115
  go_wp2_with (first
    | (go_at_call 144; refine hpar.mono ?_; rintro e w1 ⟨Ao, co, Ax, cx, rfl, hb1, hro, hrx⟩
       have hs01 := hb1.size
       have hasD := fun V (hV : Below w1.heap.size w1 V) => read_has Ao co L 100 100 rfl _ HD.out V (Reads.more (hro.below hV) hV.size) hLf
       have hasQ := fun V (hV : Below w1.heap.size w1 V) => read_has Ao co L 115 115 rfl _ HQ.out V (Reads.more (hro.below hV) hV.size) hLf
       have hasC := fun V (hV : Below w1.heap.size w1 V) => read_has Ao co L 99 99 rfl _ HC.out V (Reads.more (hro.below hV) hV.size) hLf
       have hasP := fun V (hV : Below w1.heap.size w1 V) => read_has Ao co L 67 67 rfl _ HP.out V (Reads.more (hro.below hV) hV.size) hLf
       have hopd := fun V (hV : Below w1.heap.size w1 V) => Reads.more (hrx.below hV) hV.size
       clear hro hrx)
    | (go_at_call 145; (with_reducible refine (hasD w1 (Below.refl _ _)).mono ?_); rintro e w2 ⟨rfl, hb2⟩)
    | (go_at_call 145; (with_reducible refine (hasQ w2 hb2).mono ?_); rintro e w3 ⟨rfl, hb3⟩
       have hb13 := hb2.trans (hb3.mono hb2.size)
       obtain ⟨ad, u, rfl, _, hu, hx1⟩ := (hopd w3 hb13).at_ (k := 0) (by omega)
       obtain rfl : u = .string (strB s1) := (Option.some.inj hu).symm
       clear hu
       have hx1' : w3.cell? ad = some (.string (strB s1)) := (by simpa [Addr.add] using hx1)
       have hb03 := hb1.trans (hb13.mono hs01))
    | (go_at_call 7; (with_reducible refine (hset1 w3 hb03).mono ?_); rintro e w4 ⟨v4, rfl, hown4, hb4⟩; obtain ⟨OA, oc, rfl, hc4, _, hrd4⟩ := own_slice hown4
       have hb14 := hb13.trans (hb4.mono hb13.size))
    | (go_at_call 145; (with_reducible refine (hasC w4 hb14).mono ?_); rintro e w5 ⟨rfl, hb5⟩; have hb15 := hb14.trans (hb5.mono hb14.size)
       have hrd5 := Reads.more (hrd4.below hb5) hb5.size)
    | (go_at_call 145; (with_reducible refine (hasP w5 hb15).mono ?_); rintro e w6 ⟨rfl, hb6⟩; have hb16 := hb15.trans (hb6.mono hb15.size)
       have hb06 := hb1.trans (hb16.mono hs01)
       have hrd6 := Reads.more (hrd5.below hb6) hb6.size
       obtain ⟨n1, hn01⟩ : ∃ n1, n0 = n1 := ⟨_, rfl⟩
       have hn1 := HN0.out.trans hn01
       have hn1b : n1 ≤ 70368744177664 := (by omega)
       rw [hn01] at hrd6 ⊢))
  obtain ⟨V0, hV0⟩ : ∃ V0, w6 = V0 := ⟨_, rfl⟩
  rw [hV0] at hrd6 hb06 ⊢
  have hb0 := hb06
  have hrdO := hrd6
  have hrdT := hrd6
  have hn2 := hn1
  have hfin : ∀ V t, Blk V t 222 (tabC (byteF fun x => x) (markF one0) (zB)) → TabAt V t ⟨Pl.oneOf false (Pl.setL s1).out, Pl.oneOf false (Pl.setL s1).out, true, false, false⟩ := fun V t h => by
    rw [HONE0.out]
    exact tab_one h
  clear hasD hasQ hasC hasP hopd
  obtain ⟨g, hg⟩ : ∃ g, V0.heap.size = g := ⟨_, rfl⟩
  have hK0 : Blk (V0.alloc (.cells Tryz.zeroCells222 222)) g 222 (tabC (idF 0) zB zB) := by rw [← hg, zeros_tab0]; exact Blk.new V0 _ _
  obtain ⟨W, hW⟩ : ∃ W, V0.alloc (.cells Tryz.zeroCells222 222) = W := ⟨_, rfl⟩
  have hbw : Below w.heap.size w W := by rw [← hW]; exact hb0.alloc hb0.size _
  have hwg : w.heap.size ≤ g := by rw [← hg]; exact hb0.size
  have hRO : Reads W g 1 OA n1 (bytesC one0) := by rw [← hW, ← hg]; exact hrdO.alloc (Nat.le_refl _) _
  have hRT : Reads W g 1 OA n1 (bytesC one0) := by rw [← hW, ← hg]; exact hrdT.alloc (Nat.le_refl _) _
  rw [hW] at hK0 ⊢
  rw [hg]
  have H0 := Lib.hid hK0
  have HW := Lib.hid hbw
  have HRO := Lib.hid hRO
  have HRT := Lib.hid hRT
  have HN1 := Lib.hid hn1
  have HN2 := Lib.hid hn2
  have HFIN := Lib.hid hfin
  skip
  clear hK0 hbw hRO hRT hW hn1 hn2 hfin hrdO hrdT hb0
  go_loopw [17, 110] (fun _ iv wr => ∃ k : Nat, k ≤ 256 ∧ iv = .int .i64 k ∧ Hid (Blk wr g 222 (tabC (idF k) zB zB)) ∧ Hid (BX (g + 1) g W wr)) (fun _ iv _ => 256 - (intOf iv).toNat)
  case atStart => exact ⟨0, by omega, rfl, H0, Lib.hid (bx (Below.refl _ _))⟩
  case round =>
    obtain ⟨k, hk, rfl, hkb, hx⟩ := hrel
    by_cases hlt : k < 256
    · have m1 : wr.cell? ⟨g, k, none⟩ = some (idF k k) := (hkb.out.cell _).trans (tabC_to hlt)
      have m2 : wr.frozen? ⟨g, k, none⟩ = false := hkb.out.frozen _
      have m3 := hkb.out.lt
      have HS := Lib.hid (idF_succ hlt zB zB)
      go_wp2_with fail
      exact ⟨⟨k + 1, by omega, by go_num, Lib.hid (by rw [← HS.out]; exact hkb.out.set_ k _), Lib.hid (hx.out.setG k _)⟩, by simp [intOf]; omega⟩
    · obtain rfl : k = 256 := by omega
      have HK1 : Hid (Blk wr g 222 (tabC (byteF fun x => x) zB zB)) := Lib.hid (by rw [← idF_all]; exact hkb.out)
      clear hkb
      have HBS := HK1
      have HRS := Lib.hid (reads_bx HRO.out hx.out (by have := HK1.out.lt; omega))
      go_wp2_with (first
        | (go_at_call 146; refine (marks_any _ OA oc n1 one0 HRS.out HN1.out (by omega)).mono ?_; rintro e w20 ⟨rfl, hb20⟩
           have b20 := HBS.out.on hb20)
        | (refine wpList_store_part rfl 104 (.tmp 127) (.tmp 125) rfl g 256 222 (tabC (byteF fun x => x) zB zB) (arrF 256 (markF one0)) (tabC (byteF fun x => x) (markF one0) zB) rfl rfl b20 (by rw [arrF_size, tabC_size]; omega) (by rw [arrF_size]; kernel_rfl) (arrF_one fun _ => rfl) (tabC_putGone _ _ _ _) ?_
           intro w21 b21 g21))
      go_returns
      have hgl20 := HBS.out.lt
      have hsz20 := hb20.size
      exact ⟨g, rfl, HFIN.out _ _ b21, hwg, HW.out.trans (((hx.out.then (below_le hb20 (by omega))).trans (bx_grown (B := g + 1) g21 (by omega))).low hwg (by omega))⟩

end Go.Proofs.YtlhiadnolckoeaaGreatDoor
end

section
namespace Go.Proofs.YtlhiadnolckoeaaGreatDoor
open Go.RowKit Go.Maps

set_option maxRecDepth 100000 in
set_option maxHeartbeats 16000000 in
theorem read_1sf (w : World) (A : Option Addr) (cap n : Nat) (args : List ByteArray) (L : List Pl.Opt) (j : Nat) (s1 : List UInt8) (hT : Tabs w) (hr : Reads w w.heap.size 1 A n (strs args)) (hn : args.length = n) (hcap : n ≤ cap)
    (ha : Asked args L j false true false) (hargs : args.drop j = [strB s1]) (hsm : Small args) (h1 : s1.length ≤ 1048576) (g1 : (Pl.setL s1).bad = false) (r1 : (Pl.setL s1).rest = -1) :
    Calls Tryz.prog 115 #[.slice A n cap] w fun e w' => ∃ t, e = .returned (.tuple #[.pointer (some ⟨t, 0, none⟩), .bool true]) ∧ TabAt w' t ⟨Pl.oneOf false (Pl.setL s1).out, Pl.oneOf false (Pl.setL s1).out, false, false, true⟩ ∧ w.heap.size ≤ t ∧ Below w.heap.size w w' := by
  have hpar := read_parse w A cap n args L j 1 [strB s1] _ _ _ hr hn hcap ha hargs rfl hsm
  have hLf := ha.few
  have HD := Lib.hid ha.del
  have HQ := Lib.hid ha.sq
  have HC := Lib.hid ha.comp
  have HP := Lib.hid ha.capital
  have HT := Lib.hid hT
  have hl1 := Pl.setL_len s1
  have hset1 := fun V (hV : Below w.heap.size w V) => set_any V s1 h1 (HT.out.below hV)
  unfold setRes at hset1
  simp only [g1, r1, Bool.false_eq_true, if_false] at hset1
  obtain ⟨one0, hone0⟩ : ∃ l, (Pl.setL s1).out = l := ⟨_, rfl⟩
  rw [hone0] at hset1 hl1
  obtain ⟨n0, hn0⟩ : ∃ n0, one0.length = n0 := ⟨_, rfl⟩
  rw [hn0] at hset1 hl1
  have HONE0 := Lib.hid hone0
  have HN0 := Lib.hid hn0
  clear hT hr ha hargs hsm g1 r1 hone0 hn0
  go_enter Tryz.func115, Tryz.ntmps115
  go_wp2_with (first
    | (go_at_call 144; refine hpar.mono ?_; rintro e w1 ⟨Ao, co, Ax, cx, rfl, hb1, hro, hrx⟩
       have hs01 := hb1.size
       have hasD := fun V (hV : Below w1.heap.size w1 V) => read_has Ao co L 100 100 rfl _ HD.out V (Reads.more (hro.below hV) hV.size) hLf
       have hasQ := fun V (hV : Below w1.heap.size w1 V) => read_has Ao co L 115 115 rfl _ HQ.out V (Reads.more (hro.below hV) hV.size) hLf
       have hasC := fun V (hV : Below w1.heap.size w1 V) => read_has Ao co L 99 99 rfl _ HC.out V (Reads.more (hro.below hV) hV.size) hLf
       have hasP := fun V (hV : Below w1.heap.size w1 V) => read_has Ao co L 67 67 rfl _ HP.out V (Reads.more (hro.below hV) hV.size) hLf
       have hopd := fun V (hV : Below w1.heap.size w1 V) => Reads.more (hrx.below hV) hV.size
       clear hro hrx)
    | (go_at_call 145; (with_reducible refine (hasD w1 (Below.refl _ _)).mono ?_); rintro e w2 ⟨rfl, hb2⟩)
    | (go_at_call 145; (with_reducible refine (hasQ w2 hb2).mono ?_); rintro e w3 ⟨rfl, hb3⟩
       have hb13 := hb2.trans (hb3.mono hb2.size)
       obtain ⟨ad, u, rfl, _, hu, hx1⟩ := (hopd w3 hb13).at_ (k := 0) (by omega)
       obtain rfl : u = .string (strB s1) := (Option.some.inj hu).symm
       clear hu
       have hx1' : w3.cell? ad = some (.string (strB s1)) := (by simpa [Addr.add] using hx1)
       have hb03 := hb1.trans (hb13.mono hs01))
    | (go_at_call 7; (with_reducible refine (hset1 w3 hb03).mono ?_); rintro e w4 ⟨v4, rfl, hown4, hb4⟩; obtain ⟨OA, oc, rfl, hc4, _, hrd4⟩ := own_slice hown4
       have hb14 := hb13.trans (hb4.mono hb13.size))
    | (go_at_call 145; (with_reducible refine (hasC w4 hb14).mono ?_); rintro e w5 ⟨rfl, hb5⟩; have hb15 := hb14.trans (hb5.mono hb14.size)
       have hrd5 := Reads.more (hrd4.below hb5) hb5.size)
    | (go_at_call 145; (with_reducible refine (hasP w5 hb15).mono ?_); rintro e w6 ⟨rfl, hb6⟩; have hb16 := hb15.trans (hb6.mono hb15.size)
       have hb06 := hb1.trans (hb16.mono hs01)
       have hrd6 := Reads.more (hrd5.below hb6) hb6.size
       obtain ⟨n1, hn01⟩ : ∃ n1, n0 = n1 := ⟨_, rfl⟩
       have hn1 := HN0.out.trans hn01
       have hn1b : n1 ≤ 70368744177664 := (by omega)
       rw [hn01] at hrd6 ⊢))
  obtain ⟨V0, hV0⟩ : ∃ V0, w6 = V0 := ⟨_, rfl⟩
  rw [hV0] at hrd6 hb06 ⊢
  have hb0 := hb06
  have hrdO := hrd6
  have hrdT := hrd6
  have hn2 := hn1
  have hfin : ∀ V t, Blk V t 222 (tabC (byteF fun x => x) (zB) (markF one0)) → TabAt V t ⟨Pl.oneOf false (Pl.setL s1).out, Pl.oneOf false (Pl.setL s1).out, false, false, true⟩ := fun V t h => by
    rw [HONE0.out]
    exact tab_one h
  clear hasD hasQ hasC hasP hopd
  obtain ⟨g, hg⟩ : ∃ g, V0.heap.size = g := ⟨_, rfl⟩
  have hK0 : Blk (V0.alloc (.cells Tryz.zeroCells222 222)) g 222 (tabC (idF 0) zB zB) := by rw [← hg, zeros_tab0]; exact Blk.new V0 _ _
  obtain ⟨W, hW⟩ : ∃ W, V0.alloc (.cells Tryz.zeroCells222 222) = W := ⟨_, rfl⟩
  have hbw : Below w.heap.size w W := by rw [← hW]; exact hb0.alloc hb0.size _
  have hwg : w.heap.size ≤ g := by rw [← hg]; exact hb0.size
  have hRO : Reads W g 1 OA n1 (bytesC one0) := by rw [← hW, ← hg]; exact hrdO.alloc (Nat.le_refl _) _
  have hRT : Reads W g 1 OA n1 (bytesC one0) := by rw [← hW, ← hg]; exact hrdT.alloc (Nat.le_refl _) _
  rw [hW] at hK0 ⊢
  rw [hg]
  have H0 := Lib.hid hK0
  have HW := Lib.hid hbw
  have HRO := Lib.hid hRO
  have HRT := Lib.hid hRT
  have HN1 := Lib.hid hn1
  have HN2 := Lib.hid hn2
  have HFIN := Lib.hid hfin
  skip
  clear hK0 hbw hRO hRT hW hn1 hn2 hfin hrdO hrdT hb0
  go_loopw [17, 110] (fun _ iv wr => ∃ k : Nat, k ≤ 256 ∧ iv = .int .i64 k ∧ Hid (Blk wr g 222 (tabC (idF k) zB zB)) ∧ Hid (BX (g + 1) g W wr)) (fun _ iv _ => 256 - (intOf iv).toNat)
  case atStart => exact ⟨0, by omega, rfl, H0, Lib.hid (bx (Below.refl _ _))⟩
  case round =>
    obtain ⟨k, hk, rfl, hkb, hx⟩ := hrel
    by_cases hlt : k < 256
    · have m1 : wr.cell? ⟨g, k, none⟩ = some (idF k k) := (hkb.out.cell _).trans (tabC_to hlt)
      have m2 : wr.frozen? ⟨g, k, none⟩ = false := hkb.out.frozen _
      have m3 := hkb.out.lt
      have HS := Lib.hid (idF_succ hlt zB zB)
      go_wp2_with fail
      exact ⟨⟨k + 1, by omega, by go_num, Lib.hid (by rw [← HS.out]; exact hkb.out.set_ k _), Lib.hid (hx.out.setG k _)⟩, by simp [intOf]; omega⟩
    · obtain rfl : k = 256 := by omega
      have HK1 : Hid (Blk wr g 222 (tabC (byteF fun x => x) zB zB)) := Lib.hid (by rw [← idF_all]; exact hkb.out)
      clear hkb
      have HBS := HK1
      have HRS := Lib.hid (reads_bx HRT.out hx.out (by have := HK1.out.lt; omega))
      go_wp2_with (first
        | (go_at_call 146; refine (marks_any _ OA oc n1 one0 HRS.out HN2.out (by omega)).mono ?_; rintro e w20 ⟨rfl, hb20⟩
           have b20 := HBS.out.on hb20)
        | (refine wpList_store_part rfl 104 (.tmp 170) (.tmp 168) rfl g 512 222 (tabC (byteF fun x => x) zB zB) (arrF 256 (markF one0)) (tabC (byteF fun x => x) zB (markF one0)) rfl rfl b20 (by rw [arrF_size, tabC_size]; omega) (by rw [arrF_size]; kernel_rfl) (arrF_one fun _ => rfl) (tabC_putSqu _ _ _ _) ?_
           intro w21 b21 g21))
      go_returns
      have hgl20 := HBS.out.lt
      have hsz20 := hb20.size
      exact ⟨g, rfl, HFIN.out _ _ b21, hwg, HW.out.trans (((hx.out.then (below_le hb20 (by omega))).trans (bx_grown (B := g + 1) g21 (by omega))).low hwg (by omega))⟩

end Go.Proofs.YtlhiadnolckoeaaGreatDoor
end

section
namespace Go.Proofs.YtlhiadnolckoeaaGreatDoor
open Go.RowKit Go.Maps

set_option maxRecDepth 100000 in
set_option maxHeartbeats 16000000 in
theorem read_1dt (w : World) (A : Option Addr) (cap n : Nat) (args : List ByteArray) (L : List Pl.Opt) (j : Nat) (s1 : List UInt8) (hT : Tabs w) (hr : Reads w w.heap.size 1 A n (strs args)) (hn : args.length = n) (hcap : n ≤ cap)
    (ha : Asked args L j true false true) (hargs : args.drop j = [strB s1]) (hsm : Small args) (h1 : s1.length ≤ 1048576) (g1 : (Pl.setL s1).bad = false) (r1 : (Pl.setL s1).rest = -1) :
    Calls Tryz.prog 115 #[.slice A n cap] w fun e w' => ∃ t, e = .returned (.tuple #[.pointer (some ⟨t, 0, none⟩), .bool true]) ∧ TabAt w' t ⟨Pl.oneOf true (Pl.setL s1).out, Pl.oneOf true (Pl.setL s1).out, true, false, false⟩ ∧ w.heap.size ≤ t ∧ Below w.heap.size w w' := by
  have hpar := read_parse w A cap n args L j 1 [strB s1] _ _ _ hr hn hcap ha hargs rfl hsm
  have hLf := ha.few
  have HD := Lib.hid ha.del
  have HQ := Lib.hid ha.sq
  have HC := Lib.hid ha.comp
  have HP := Lib.hid ha.capital
  have HT := Lib.hid hT
  have hl1 := Pl.setL_len s1
  have hset1 := fun V (hV : Below w.heap.size w V) => set_any V s1 h1 (HT.out.below hV)
  unfold setRes at hset1
  simp only [g1, r1, Bool.false_eq_true, if_false] at hset1
  obtain ⟨one0, hone0⟩ : ∃ l, (Pl.setL s1).out = l := ⟨_, rfl⟩
  rw [hone0] at hset1 hl1
  obtain ⟨n0, hn0⟩ : ∃ n0, one0.length = n0 := ⟨_, rfl⟩
  rw [hn0] at hset1 hl1
  have HONE0 := Lib.hid hone0
  have HN0 := Lib.hid hn0
  clear hT hr ha hargs hsm g1 r1 hone0 hn0
  go_enter Tryz.func115, Tryz.ntmps115
  go_wp2_with (first
    | (go_at_call 144; refine hpar.mono ?_; rintro e w1 ⟨Ao, co, Ax, cx, rfl, hb1, hro, hrx⟩
       have hs01 := hb1.size
       have hasD := fun V (hV : Below w1.heap.size w1 V) => read_has Ao co L 100 100 rfl _ HD.out V (Reads.more (hro.below hV) hV.size) hLf
       have hasQ := fun V (hV : Below w1.heap.size w1 V) => read_has Ao co L 115 115 rfl _ HQ.out V (Reads.more (hro.below hV) hV.size) hLf
       have hasC := fun V (hV : Below w1.heap.size w1 V) => read_has Ao co L 99 99 rfl _ HC.out V (Reads.more (hro.below hV) hV.size) hLf
       have hasP := fun V (hV : Below w1.heap.size w1 V) => read_has Ao co L 67 67 rfl _ HP.out V (Reads.more (hro.below hV) hV.size) hLf
       have hopd := fun V (hV : Below w1.heap.size w1 V) => Reads.more (hrx.below hV) hV.size
       clear hro hrx)
    | (go_at_call 145; (with_reducible refine (hasD w1 (Below.refl _ _)).mono ?_); rintro e w2 ⟨rfl, hb2⟩)
    | (go_at_call 145; (with_reducible refine (hasQ w2 hb2).mono ?_); rintro e w3 ⟨rfl, hb3⟩
       have hb13 := hb2.trans (hb3.mono hb2.size)
       obtain ⟨ad, u, rfl, _, hu, hx1⟩ := (hopd w3 hb13).at_ (k := 0) (by omega)
       obtain rfl : u = .string (strB s1) := (Option.some.inj hu).symm
       clear hu
       have hx1' : w3.cell? ad = some (.string (strB s1)) := (by simpa [Addr.add] using hx1)
       have hb03 := hb1.trans (hb13.mono hs01))
    | (go_at_call 7; (with_reducible refine (hset1 w3 hb03).mono ?_); rintro e w4 ⟨v4, rfl, hown4, hb4⟩; obtain ⟨OA, oc, rfl, hc4, _, hrd4⟩ := own_slice hown4
       have hb14 := hb13.trans (hb4.mono hb13.size))
    | (go_at_call 145; (with_reducible refine (hasC w4 hb14).mono ?_); rintro e w5 ⟨rfl, hb5⟩; have hb15 := hb14.trans (hb5.mono hb14.size)
       have hrd5 := Reads.more (hrd4.below hb5) hb5.size)
    | (go_at_call 146; refine (marks_any w5 OA oc n0 one0 hrd5 HN0.out (by omega)).mono ?_; rintro e w8 ⟨rfl, hb8'⟩
       obtain ⟨mb, hmb⟩ : ∃ mb, w8.heap.size = mb := ⟨_, rfl⟩)
    | (refine wpList_store_blk rfl 104 (.tmp 13) (.tmp 76) rfl mb 104 (arrF 256 (markF [])) (arrF 256 (markF one0)) (by rw [← hmb]; rfl) rfl (by rw [← hmb, zeros_marks]; exact Blk.new w8 _ _) (by rw [arrF_size, arrF_size]) (by rw [arrF_size]; kernel_rfl) (arrF_one fun _ => rfl) ?_
       intro w9 b9 g9))
  have hb59 : Below w5.heap.size w5 w9 := (hb8'.alloc hb8'.size _).grown g9 (by have := hb8'.size; simp; omega) (fun j hj => by cases hj; rw [← hmb]; exact hb8'.size)
  have hb19 := hb15.trans (hb59.mono hb15.size)
  have H9 := Lib.hid b9
  obtain ⟨B9, hB9⟩ : ∃ B9, w9.heap.size = B9 := ⟨_, rfl⟩
  have hmb9 : mb < B9 := by rw [← hB9]; exact b9.lt
  clear b9 g9
  go_loopw [10, 14, 77] (fun ov _ iv wr => ∃ (k nk : Nat) (A2 : Option Addr) (c2 : Nat), k ≤ 256 ∧ iv = .int .i64 k ∧ ov = .slice A2 nk c2 ∧ Hid (((Pl.allB.take k).filter fun c => !one0.contains c).length = nk) ∧ Hid (wr.ownsRow B9 5 1 (.slice A2 nk c2) nk (bytesC ((Pl.allB.take k).filter fun c => !one0.contains c))) ∧ Hid (Below B9 w9 wr)) (fun _ _ iv _ => 256 - (intOf iv).toNat)
  case atStart => exact ⟨0, 0, none, 0, by omega, rfl, rfl, Lib.hid rfl, Lib.hid (World.ownsRow_nil _ _ _ _), Lib.hid (Below.refl _ _)⟩
  case round =>
    obtain ⟨k, nk, OA', oc', hk, rfl, rfl, hnk, ho, hb⟩ := hrel
    have hszr : B9 ≤ wr.heap.size := by rw [← hB9]; exact hb.out.size
    have hmr : Blk wr mb 104 (arrF 256 (markF one0)) := H9.out.below hb.out hmb9
    have hnb : nk ≤ 256 := by rw [← hnk.out]; exact Pl.allB_part k _
    by_cases hlt : k < 256
    · have hml := hmr.lt
      have m1 : wr.cell? ⟨mb, k, none⟩ = some (.bool (one0.contains (UInt8.ofNat k))) := (hmr.cell _).trans (arrF_get _ hlt)
      have h8 : ((UInt8.ofNat k).toNat : Int) = (k : Int) := by rw [UInt8.toNat_ofNat', Nat.mod_eq_of_lt hlt]
      cases hcon : one0.contains (UInt8.ofNat k) with
      | true =>
        rw [hcon] at m1
        have HS := Lib.hid (Pl.allB_no (f := fun c => !one0.contains c) hlt (by rw [hcon]; rfl))
        clear hcon
        go_wp2_with fail
        exact ⟨⟨k + 1, nk, OA', oc', by omega, by go_num, rfl, Lib.hid (by rw [HS.out]; exact hnk.out), Lib.hid (by rw [HS.out]; exact ho.out), hb⟩, by simp [intOf]; omega⟩
      | false =>
        rw [hcon] at m1
        have HS := Lib.hid (Pl.allB_yes (f := fun c => !one0.contains c) hlt (by rw [hcon]; rfl))
        clear hcon
        go_wp2_with (at_builtin; refine wpList_pushI rfl _ _ rfl wr B9 (.slice OA' nk oc') nk ((Pl.allB.take k).filter fun c => !one0.contains c) (UInt8.ofNat k) _ h8 rfl ho.out hnk.out.symm rfl hszr (by omega) ?_; intro A3 c3 w3' hown3 hg3 hat3)
        exact ⟨⟨k + 1, nk + 1, A3, c3, by omega, by go_num, rfl, Lib.hid (by rw [HS.out, List.length_append, hnk.out]; rfl), Lib.hid (by rw [HS.out]; exact hown3), Lib.hid ((hb.out.alloc hszr _).grown hg3 (by simp; omega) (fun j hj => (ho.out.lt j hj).1))⟩, by simp [intOf]; omega⟩
    · obtain rfl : k = 256 := by omega
      have hon : ((Pl.allB.take 256).filter fun c => !one0.contains c) = Pl.othersL one0 := by rw [Pl.allB_all]; rfl
      have hn1' := hnk.out
      have hown6 := ho.out
      rw [hon] at hn1' hown6
      obtain ⟨OA6, oc6, hsl, hc6, _, hrd6'⟩ := own_slice hown6
      obtain ⟨w6, hw6⟩ : ∃ w6, wr = w6 := ⟨_, rfl⟩
      rw [hw6] at hrd6' hb
      have hb16 : Below w1.heap.size w1 w6 := hb19.trans ((hB9 ▸ hb.out : Below w9.heap.size w9 w6).mono hb19.size)
      have hb06 := hb1.trans (hb16.mono hs01)
      rw [hw6]
      clear ho hnk hmr hown6
      obtain ⟨n1, hn01⟩ : ∃ n1, nk = n1 := ⟨_, rfl⟩
      have hn1 := hn1'.trans hn01
      have hn1b : n1 ≤ 70368744177664 := by omega
      rw [hn01] at hrd6' hsl ⊢
      obtain ⟨OA, hOA⟩ : ∃ OA, OA' = OA := ⟨_, rfl⟩
      obtain ⟨oc, hoc⟩ : ∃ oc, oc' = oc := ⟨_, rfl⟩
      rw [hOA, hoc] at hsl ⊢
      have hrd6 : Reads w6 w6.heap.size 1 OA n1 (bytesC (Pl.othersL one0)) := by cases hsl; exact hrd6'
      clear hsl hrd6'
      go_wp2_with fail
      obtain ⟨V0, hV0⟩ : ∃ V0, w6 = V0 := ⟨_, rfl⟩
      rw [hV0] at hrd6 hb06 ⊢
      have hb0 := hb06
      have hrdO := hrd6
      have hrdT := hrd6
      have hn2 := hn1
      have hfin : ∀ V t, Blk V t 222 (tabC (byteF fun x => x) (markF (Pl.othersL one0)) (zB)) → TabAt V t ⟨Pl.oneOf true (Pl.setL s1).out, Pl.oneOf true (Pl.setL s1).out, true, false, false⟩ := fun V t h => by
        rw [HONE0.out]
        exact tab_one h
      clear hasD hasQ hasC hasP hopd
      obtain ⟨g, hg⟩ : ∃ g, V0.heap.size = g := ⟨_, rfl⟩
      have hK0 : Blk (V0.alloc (.cells Tryz.zeroCells222 222)) g 222 (tabC (idF 0) zB zB) := by rw [← hg, zeros_tab0]; exact Blk.new V0 _ _
      obtain ⟨W, hW⟩ : ∃ W, V0.alloc (.cells Tryz.zeroCells222 222) = W := ⟨_, rfl⟩
      have hbw : Below w.heap.size w W := by rw [← hW]; exact hb0.alloc hb0.size _
      have hwg : w.heap.size ≤ g := by rw [← hg]; exact hb0.size
      have hRO : Reads W g 1 OA n1 (bytesC (Pl.othersL one0)) := by rw [← hW, ← hg]; exact hrdO.alloc (Nat.le_refl _) _
      have hRT : Reads W g 1 OA n1 (bytesC (Pl.othersL one0)) := by rw [← hW, ← hg]; exact hrdT.alloc (Nat.le_refl _) _
      rw [hW] at hK0 ⊢
      rw [hg]
      have H0 := Lib.hid hK0
      have HW := Lib.hid hbw
      have HRO := Lib.hid hRO
      have HRT := Lib.hid hRT
      have HN1 := Lib.hid hn1
      have HN2 := Lib.hid hn2
      have HFIN := Lib.hid hfin
      skip
      clear hK0 hbw hRO hRT hW hn1 hn2 hfin hrdO hrdT hb0
      go_loopw [17, 110] (fun _ iv wr => ∃ k : Nat, k ≤ 256 ∧ iv = .int .i64 k ∧ Hid (Blk wr g 222 (tabC (idF k) zB zB)) ∧ Hid (BX (g + 1) g W wr)) (fun _ iv _ => 256 - (intOf iv).toNat)
      case atStart => exact ⟨0, by omega, rfl, H0, Lib.hid (bx (Below.refl _ _))⟩
      case round =>
        obtain ⟨k, hk, rfl, hkb, hx⟩ := hrel
        by_cases hlt : k < 256
        · have m1 : wr.cell? ⟨g, k, none⟩ = some (idF k k) := (hkb.out.cell _).trans (tabC_to hlt)
          have m2 : wr.frozen? ⟨g, k, none⟩ = false := hkb.out.frozen _
          have m3 := hkb.out.lt
          have HS := Lib.hid (idF_succ hlt zB zB)
          go_wp2_with fail
          exact ⟨⟨k + 1, by omega, by go_num, Lib.hid (by rw [← HS.out]; exact hkb.out.set_ k _), Lib.hid (hx.out.setG k _)⟩, by simp [intOf]; omega⟩
        · obtain rfl : k = 256 := by omega
          have HK1 : Hid (Blk wr g 222 (tabC (byteF fun x => x) zB zB)) := Lib.hid (by rw [← idF_all]; exact hkb.out)
          clear hkb
          have HBS := HK1
          have HRS := Lib.hid (reads_bx HRO.out hx.out (by have := HK1.out.lt; omega))
          go_wp2_with (first
            | (go_at_call 146; refine (marks_any _ OA oc n1 (Pl.othersL one0) HRS.out HN1.out (by omega)).mono ?_; rintro e w20 ⟨rfl, hb20⟩
               have b20 := HBS.out.on hb20)
            | (refine wpList_store_part rfl 104 (.tmp 127) (.tmp 125) rfl g 256 222 (tabC (byteF fun x => x) zB zB) (arrF 256 (markF (Pl.othersL one0))) (tabC (byteF fun x => x) (markF (Pl.othersL one0)) zB) rfl rfl b20 (by rw [arrF_size, tabC_size]; omega) (by rw [arrF_size]; kernel_rfl) (arrF_one fun _ => rfl) (tabC_putGone _ _ _ _) ?_
               intro w21 b21 g21))
          go_returns
          have hgl20 := HBS.out.lt
          have hsz20 := hb20.size
          exact ⟨g, rfl, HFIN.out _ _ b21, hwg, HW.out.trans (((hx.out.then (below_le hb20 (by omega))).trans (bx_grown (B := g + 1) g21 (by omega))).low hwg (by omega))⟩

end Go.Proofs.YtlhiadnolckoeaaGreatDoor
end

section
namespace Go.Proofs.YtlhiadnolckoeaaGreatDoor
open Go.RowKit Go.Maps

set_option maxRecDepth 100000 in
set_option maxHeartbeats 16000000 in
theorem read_2tt (w : World) (A : Option Addr) (cap n : Nat) (args : List ByteArray) (L : List Pl.Opt) (j : Nat) (s1 s2 : List UInt8) (hT : Tabs w) (hr : Reads w w.heap.size 1 A n (strs args)) (hn : args.length = n) (hcap : n ≤ cap)
    (ha : Asked args L j false true true) (hargs : args.drop j = [strB s1, strB s2]) (hsm : Small args) (h1 : s1.length ≤ 1048576) (g1 : (Pl.setL s1).bad = false) (r1 : (Pl.setL s1).rest = -1) (h2 : s2.length ≤ 1048576) (g2 : (Pl.setL s2).bad = false) (r2 : RestOk (Pl.setL s2)) (hne : Pl.oneOf true (Pl.setL s1).out ≠ [] → Pl.filledL (Pl.setL s2) (Pl.oneOf true (Pl.setL s1).out).length ≠ []) :
    Calls Tryz.prog 115 #[.slice A n cap] w fun e w' => ∃ t, e = .returned (.tuple #[.pointer (some ⟨t, 0, none⟩), .bool true]) ∧ TabAt w' t ⟨Pl.oneOf true (Pl.setL s1).out, Pl.filledL (Pl.setL s2) (Pl.oneOf true (Pl.setL s1).out).length, false, true, true⟩ ∧ w.heap.size ≤ t ∧ Below w.heap.size w w' := by
  have hpar := read_parse w A cap n args L j 2 [strB s1, strB s2] _ _ _ hr hn hcap ha hargs rfl hsm
  have hLf := ha.few
  have HD := Lib.hid ha.del
  have HQ := Lib.hid ha.sq
  have HC := Lib.hid ha.comp
  have HP := Lib.hid ha.capital
  have HT := Lib.hid hT
  have hl1 := Pl.setL_len s1
  have hl2 := Pl.setL_len s2
  have hset1 := fun V (hV : Below w.heap.size w V) => set_any V s1 h1 (HT.out.below hV)
  unfold setRes at hset1
  simp only [g1, r1, Bool.false_eq_true, if_false] at hset1
  have hset2 := fun V (hV : Below w.heap.size w V) => set_any V s2 h2 (HT.out.below hV)
  unfold setRes at hset2
  simp only [g2, Bool.false_eq_true, if_false] at hset2
  obtain ⟨one0, hone0⟩ : ∃ l, (Pl.setL s1).out = l := ⟨_, rfl⟩
  rw [hone0] at hset1 hl1 hne
  obtain ⟨n0, hn0⟩ : ∃ n0, one0.length = n0 := ⟨_, rfl⟩
  rw [hn0] at hset1 hl1
  have HONE0 := Lib.hid hone0
  have HN0 := Lib.hid hn0
  clear hT hr ha hargs hsm g1 r1 hone0 hn0
  go_enter Tryz.func115, Tryz.ntmps115
  go_wp2_with (first
    | (go_at_call 144; refine hpar.mono ?_; rintro e w1 ⟨Ao, co, Ax, cx, rfl, hb1, hro, hrx⟩
       have hs01 := hb1.size
       have hasD := fun V (hV : Below w1.heap.size w1 V) => read_has Ao co L 100 100 rfl _ HD.out V (Reads.more (hro.below hV) hV.size) hLf
       have hasQ := fun V (hV : Below w1.heap.size w1 V) => read_has Ao co L 115 115 rfl _ HQ.out V (Reads.more (hro.below hV) hV.size) hLf
       have hasC := fun V (hV : Below w1.heap.size w1 V) => read_has Ao co L 99 99 rfl _ HC.out V (Reads.more (hro.below hV) hV.size) hLf
       have hasP := fun V (hV : Below w1.heap.size w1 V) => read_has Ao co L 67 67 rfl _ HP.out V (Reads.more (hro.below hV) hV.size) hLf
       have hopd := fun V (hV : Below w1.heap.size w1 V) => Reads.more (hrx.below hV) hV.size
       clear hro hrx)
    | (go_at_call 145; (with_reducible refine (hasD w1 (Below.refl _ _)).mono ?_); rintro e w2 ⟨rfl, hb2⟩)
    | (go_at_call 145; (with_reducible refine (hasQ w2 hb2).mono ?_); rintro e w3 ⟨rfl, hb3⟩
       have hb13 := hb2.trans (hb3.mono hb2.size)
       obtain ⟨ad, u, rfl, _, hu, hx1⟩ := (hopd w3 hb13).at_ (k := 0) (by omega)
       obtain rfl : u = .string (strB s1) := (Option.some.inj hu).symm
       clear hu
       have hx1' : w3.cell? ad = some (.string (strB s1)) := (by simpa [Addr.add] using hx1)
       have hb03 := hb1.trans (hb13.mono hs01))
    | (go_at_call 7; (with_reducible refine (hset1 w3 hb03).mono ?_); rintro e w4 ⟨v4, rfl, hown4, hb4⟩; obtain ⟨OA, oc, rfl, hc4, _, hrd4⟩ := own_slice hown4
       have hb14 := hb13.trans (hb4.mono hb13.size))
    | (go_at_call 145; (with_reducible refine (hasC w4 hb14).mono ?_); rintro e w5 ⟨rfl, hb5⟩; have hb15 := hb14.trans (hb5.mono hb14.size)
       have hrd5 := Reads.more (hrd4.below hb5) hb5.size)
    | (go_at_call 146; refine (marks_any w5 OA oc n0 one0 hrd5 HN0.out (by omega)).mono ?_; rintro e w8 ⟨rfl, hb8'⟩
       obtain ⟨mb, hmb⟩ : ∃ mb, w8.heap.size = mb := ⟨_, rfl⟩)
    | (refine wpList_store_blk rfl 104 (.tmp 13) (.tmp 76) rfl mb 104 (arrF 256 (markF [])) (arrF 256 (markF one0)) (by rw [← hmb]; rfl) rfl (by rw [← hmb, zeros_marks]; exact Blk.new w8 _ _) (by rw [arrF_size, arrF_size]) (by rw [arrF_size]; kernel_rfl) (arrF_one fun _ => rfl) ?_
       intro w9 b9 g9))
  have hb59 : Below w5.heap.size w5 w9 := (hb8'.alloc hb8'.size _).grown g9 (by have := hb8'.size; simp; omega) (fun j hj => by cases hj; rw [← hmb]; exact hb8'.size)
  have hb19 := hb15.trans (hb59.mono hb15.size)
  have H9 := Lib.hid b9
  obtain ⟨B9, hB9⟩ : ∃ B9, w9.heap.size = B9 := ⟨_, rfl⟩
  have hmb9 : mb < B9 := by rw [← hB9]; exact b9.lt
  clear b9 g9
  go_loopw [10, 14, 77] (fun ov _ iv wr => ∃ (k nk : Nat) (A2 : Option Addr) (c2 : Nat), k ≤ 256 ∧ iv = .int .i64 k ∧ ov = .slice A2 nk c2 ∧ Hid (((Pl.allB.take k).filter fun c => !one0.contains c).length = nk) ∧ Hid (wr.ownsRow B9 5 1 (.slice A2 nk c2) nk (bytesC ((Pl.allB.take k).filter fun c => !one0.contains c))) ∧ Hid (Below B9 w9 wr)) (fun _ _ iv _ => 256 - (intOf iv).toNat)
  case atStart => exact ⟨0, 0, none, 0, by omega, rfl, rfl, Lib.hid rfl, Lib.hid (World.ownsRow_nil _ _ _ _), Lib.hid (Below.refl _ _)⟩
  case round =>
    obtain ⟨k, nk, OA', oc', hk, rfl, rfl, hnk, ho, hb⟩ := hrel
    have hszr : B9 ≤ wr.heap.size := by rw [← hB9]; exact hb.out.size
    have hmr : Blk wr mb 104 (arrF 256 (markF one0)) := H9.out.below hb.out hmb9
    have hnb : nk ≤ 256 := by rw [← hnk.out]; exact Pl.allB_part k _
    by_cases hlt : k < 256
    · have hml := hmr.lt
      have m1 : wr.cell? ⟨mb, k, none⟩ = some (.bool (one0.contains (UInt8.ofNat k))) := (hmr.cell _).trans (arrF_get _ hlt)
      have h8 : ((UInt8.ofNat k).toNat : Int) = (k : Int) := by rw [UInt8.toNat_ofNat', Nat.mod_eq_of_lt hlt]
      cases hcon : one0.contains (UInt8.ofNat k) with
      | true =>
        rw [hcon] at m1
        have HS := Lib.hid (Pl.allB_no (f := fun c => !one0.contains c) hlt (by rw [hcon]; rfl))
        clear hcon
        go_wp2_with fail
        exact ⟨⟨k + 1, nk, OA', oc', by omega, by go_num, rfl, Lib.hid (by rw [HS.out]; exact hnk.out), Lib.hid (by rw [HS.out]; exact ho.out), hb⟩, by simp [intOf]; omega⟩
      | false =>
        rw [hcon] at m1
        have HS := Lib.hid (Pl.allB_yes (f := fun c => !one0.contains c) hlt (by rw [hcon]; rfl))
        clear hcon
        go_wp2_with (at_builtin; refine wpList_pushI rfl _ _ rfl wr B9 (.slice OA' nk oc') nk ((Pl.allB.take k).filter fun c => !one0.contains c) (UInt8.ofNat k) _ h8 rfl ho.out hnk.out.symm rfl hszr (by omega) ?_; intro A3 c3 w3' hown3 hg3 hat3)
        exact ⟨⟨k + 1, nk + 1, A3, c3, by omega, by go_num, rfl, Lib.hid (by rw [HS.out, List.length_append, hnk.out]; rfl), Lib.hid (by rw [HS.out]; exact hown3), Lib.hid ((hb.out.alloc hszr _).grown hg3 (by simp; omega) (fun j hj => (ho.out.lt j hj).1))⟩, by simp [intOf]; omega⟩
    · obtain rfl : k = 256 := by omega
      have hon : ((Pl.allB.take 256).filter fun c => !one0.contains c) = Pl.othersL one0 := by rw [Pl.allB_all]; rfl
      have hn1' := hnk.out
      have hown6 := ho.out
      rw [hon] at hn1' hown6
      obtain ⟨OA6, oc6, hsl, hc6, _, hrd6'⟩ := own_slice hown6
      obtain ⟨w6, hw6⟩ : ∃ w6, wr = w6 := ⟨_, rfl⟩
      rw [hw6] at hrd6' hb
      have hb16 : Below w1.heap.size w1 w6 := hb19.trans ((hB9 ▸ hb.out : Below w9.heap.size w9 w6).mono hb19.size)
      have hb06 := hb1.trans (hb16.mono hs01)
      rw [hw6]
      clear ho hnk hmr hown6
      obtain ⟨n1, hn01⟩ : ∃ n1, nk = n1 := ⟨_, rfl⟩
      have hn1 := hn1'.trans hn01
      have hn1b : n1 ≤ 70368744177664 := by omega
      rw [hn01] at hrd6' hsl ⊢
      obtain ⟨OA, hOA⟩ : ∃ OA, OA' = OA := ⟨_, rfl⟩
      obtain ⟨oc, hoc⟩ : ∃ oc, oc' = oc := ⟨_, rfl⟩
      rw [hOA, hoc] at hsl ⊢
      have hrd6 : Reads w6 w6.heap.size 1 OA n1 (bytesC (Pl.othersL one0)) := by cases hsl; exact hrd6'
      clear hsl hrd6'
      obtain ⟨ad', u, had, _, hu, hx2⟩ := (hopd w6 hb16).at_ (k := 1) (by omega)
      obtain rfl : u = .string (strB s2) := (Option.some.inj hu).symm
      obtain rfl : ad = ad' := Option.some.inj had
      have hx2' : w6.cell? ⟨ad.block, ad.off + 1, none⟩ = some (.string (strB s2)) := (by simpa [Addr.add] using hx2)
      clear had hu hx2
      go_wp2_with (first
        | (go_at_call 7; (with_reducible refine (hset2 w6 hb06).mono ?_); rintro e w7 ⟨v7, rfl, hown7, hb7⟩; obtain ⟨A7, c7, rfl, hc7, _, hrd7⟩ := own_slice hown7
           obtain ⟨n2, hn2⟩ : ∃ n2, (Pl.filledL (Pl.setL s2) n1).length = n2 := ⟨_, rfl⟩
           have hfil := read_fill w7 A7 c7 _ n1 (Pl.setL s2) hrd7 rfl hc7 r2 (by omega) (by omega) n2 hn2)
        | (go_at_call 147; (with_reducible refine hfil.mono ?_); rintro e V0 ⟨TA, tc, rfl, hrdT, hb8⟩))
      have hb68 : Below w6.heap.size w6 V0 := hb7.trans (hb8.mono hb7.size)
      have hb0 : Below w.heap.size w V0 := hb06.trans (hb68.mono hb06.size)
      have hrdO := Reads.more (hrd6.below hb68) hb68.size
      have hn2b : n2 ≤ 70368744177664 := by have := filledL_len (Pl.setL s2) n1; omega
      have hfin : ∀ V t, Blk V t 222 (tabC (byteF (Pl.toK (Pl.filledL (Pl.setL s2) n1) (Pl.othersL one0) n1)) zB (markF (Pl.filledL (Pl.setL s2) n1))) → TabAt V t ⟨Pl.oneOf true (Pl.setL s1).out, Pl.filledL (Pl.setL s2) (Pl.oneOf true (Pl.setL s1).out).length, false, true, true⟩ := fun V t h => by
        rw [HONE0.out, show Pl.oneOf true one0 = (Pl.othersL one0) from rfl, hn1]
        exact tab_two hn1 h
      rw [show Pl.oneOf true one0 = (Pl.othersL one0) from rfl, hn1] at hne
      clear hasD hasQ hasC hasP hopd
      obtain ⟨g, hg⟩ : ∃ g, V0.heap.size = g := ⟨_, rfl⟩
      have hK0 : Blk (V0.alloc (.cells Tryz.zeroCells222 222)) g 222 (tabC (idF 0) zB zB) := by rw [← hg, zeros_tab0]; exact Blk.new V0 _ _
      obtain ⟨W, hW⟩ : ∃ W, V0.alloc (.cells Tryz.zeroCells222 222) = W := ⟨_, rfl⟩
      have hbw : Below w.heap.size w W := by rw [← hW]; exact hb0.alloc hb0.size _
      have hwg : w.heap.size ≤ g := by rw [← hg]; exact hb0.size
      have hRO : Reads W g 1 OA n1 (bytesC (Pl.othersL one0)) := by rw [← hW, ← hg]; exact hrdO.alloc (Nat.le_refl _) _
      have hRT : Reads W g 1 TA n2 (bytesC (Pl.filledL (Pl.setL s2) n1)) := by rw [← hW, ← hg]; exact hrdT.alloc (Nat.le_refl _) _
      rw [hW] at hK0 ⊢
      rw [hg]
      have H0 := Lib.hid hK0
      have HW := Lib.hid hbw
      have HRO := Lib.hid hRO
      have HRT := Lib.hid hRT
      have HN1 := Lib.hid hn1
      have HN2 := Lib.hid hn2
      have HFIN := Lib.hid hfin
      have HNE := Lib.hid hne
      clear hK0 hbw hRO hRT hW hn1 hn2 hfin hrdO hrdT hb0 hne
      go_loopw [17, 110] (fun _ iv wr => ∃ k : Nat, k ≤ 256 ∧ iv = .int .i64 k ∧ Hid (Blk wr g 222 (tabC (idF k) zB zB)) ∧ Hid (BX (g + 1) g W wr)) (fun _ iv _ => 256 - (intOf iv).toNat)
      case atStart => exact ⟨0, by omega, rfl, H0, Lib.hid (bx (Below.refl _ _))⟩
      case round =>
        obtain ⟨k, hk, rfl, hkb, hx⟩ := hrel
        by_cases hlt : k < 256
        · have m1 : wr.cell? ⟨g, k, none⟩ = some (idF k k) := (hkb.out.cell _).trans (tabC_to hlt)
          have m2 : wr.frozen? ⟨g, k, none⟩ = false := hkb.out.frozen _
          have m3 := hkb.out.lt
          have HS := Lib.hid (idF_succ hlt zB zB)
          go_wp2_with fail
          exact ⟨⟨k + 1, by omega, by go_num, Lib.hid (by rw [← HS.out]; exact hkb.out.set_ k _), Lib.hid (hx.out.setG k _)⟩, by simp [intOf]; omega⟩
        · obtain rfl : k = 256 := by omega
          have HK1 : Hid (Blk wr g 222 (tabC (byteF (Pl.toK (Pl.filledL (Pl.setL s2) n1) (Pl.othersL one0) 0)) zB zB)) := Lib.hid (by rw [← toK_zero, ← idF_all]; exact hkb.out)
          clear hkb
          have hcase : (n1 = 0 ∧ n2 = 0) ∨ 0 < n2 := by
            rcases Nat.eq_zero_or_pos n2 with h | h
            · refine .inl ⟨?_, h⟩
              rcases Nat.eq_zero_or_pos n1 with h' | h'
              · exact h'
              · exact absurd (List.eq_nil_of_length_eq_zero (HN2.out.trans h)) (HNE.out (List.length_pos_iff.1 (by rw [HN1.out]; exact h')))
            · exact .inr h
          rcases hcase with ⟨h10, h20⟩ | hp2
          · subst h10 h20
            go_wp2_with fail
            refine wp_loop_rounds 1 ?_
            rw [rounds_succ]
            have HBS := HK1
            have HRS := Lib.hid (reads_bx HRT.out hx.out (by have := HK1.out.lt; omega))
            go_wp2_with (first
              | (go_at_call 146; refine (marks_any _ TA tc 0 (Pl.filledL (Pl.setL s2) 0) HRS.out HN2.out (by omega)).mono ?_; rintro e w20 ⟨rfl, hb20⟩
                 have b20 := HBS.out.on hb20)
              | (refine wpList_store_part rfl 104 (.tmp 170) (.tmp 168) rfl g 512 222 (tabC (byteF (Pl.toK (Pl.filledL (Pl.setL s2) 0) (Pl.othersL one0) 0)) zB zB) (arrF 256 (markF (Pl.filledL (Pl.setL s2) 0))) (tabC (byteF (Pl.toK (Pl.filledL (Pl.setL s2) 0) (Pl.othersL one0) 0)) zB (markF (Pl.filledL (Pl.setL s2) 0))) rfl rfl b20 (by rw [arrF_size, tabC_size]; omega) (by rw [arrF_size]; kernel_rfl) (arrF_one fun _ => rfl) (tabC_putSqu _ _ _ _) ?_
                 intro w21 b21 g21))
            go_returns
            have hgl20 := HBS.out.lt
            have hsz20 := hb20.size
            exact ⟨g, rfl, HFIN.out _ _ b21, hwg, HW.out.trans (((hx.out.then (below_le hb20 (by omega))).trans (bx_grown (B := g + 1) g21 (by omega))).low hwg (by omega))⟩
          · have hz2 : ((n2 : Int) == 0) = false := by simp; omega
            go_wp2_with fail
            have HX := Lib.hid hx.out
            clear hx
            go_loopw [18, 19, 146] (fun _ _ iv wr' => ∃ k : Nat, k ≤ n1 ∧ iv = .int .i64 k ∧ Hid (Blk wr' g 222 (tabC (byteF (Pl.toK (Pl.filledL (Pl.setL s2) n1) (Pl.othersL one0) k)) zB zB)) ∧ Hid (BX (g + 1) g W wr')) (fun _ _ iv _ => n1 - (intOf iv).toNat)
            case atStart => exact ⟨0, by omega, rfl, HK1, HX⟩
            case round =>
              obtain ⟨k, hk, rfl, hkb, hx⟩ := hrel
              have hgw := hkb.out.lt
              by_cases hlt : k < n1
              · obtain ⟨ao, u, rfl, _, hu, hco⟩ := (reads_bx HRO.out hx.out (by omega)).at_ hlt
                obtain ⟨c, hc⟩ : ∃ c, ((Pl.othersL one0))[k]? = some c := ⟨_, List.getElem?_eq_getElem (by rw [HN1.out]; exact hlt)⟩
                obtain rfl : u = .int .u8 (c.toNat : Int) := by
                  simp only [bytesC, List.getElem?_map, hc, Option.map_some] at hu
                  exact (Option.some.inj hu).symm
                obtain ⟨m, hm⟩ : ∃ m, min k (n2 - 1) = m := ⟨_, rfl⟩
                have hmi0 : min (k : Int) ((n2 : Int) - 1) = (m : Int) := by omega
                have hmi : min (k : Int) (wrap64 ((n2 : Int) - 1)) = (m : Int) := by rw [w64' _ (by omega)]; exact hmi0
                have hmi2 : min (k : Int) (IntKind.i64.wrap ((n2 : Int) - 1)) = (m : Int) := by rw [IntWalk.i64_in _ (by omega)]; exact hmi0
                have hm2 : m < n2 := by omega
                obtain ⟨at', v, rfl, _, hv, hct⟩ := (reads_bx HRT.out hx.out (by omega)).at_ hm2
                obtain ⟨x, hx'⟩ : ∃ x, ((Pl.filledL (Pl.setL s2) n1))[m]? = some x := ⟨_, List.getElem?_eq_getElem (by rw [HN2.out]; exact hm2)⟩
                obtain rfl : v = .int .u8 (x.toNat : Int) := by
                  simp only [bytesC, List.getElem?_map, hx', Option.map_some] at hv
                  exact (Option.some.inj hv).symm
                have hcl : c.toNat < 256 := c.toNat_lt
                have m1 : wr.cell? ⟨g, c.toNat, none⟩ = some (byteF (Pl.toK (Pl.filledL (Pl.setL s2) n1) (Pl.othersL one0) k) c.toNat) := (hkb.out.cell _).trans (tabC_to hcl)
                have m2 : wr.frozen? ⟨g, c.toNat, none⟩ = false := hkb.out.frozen _
                have HS := Lib.hid (toK_succ hc (by rw [HN2.out, hm]; exact hx') zB zB)
                clear hu hv hc hx' hm
                go_wp2_with fail
                go_region
                go_wp2_with fail
                exact ⟨⟨k + 1, by omega, by go_num, Lib.hid (by rw [← HS.out]; exact hkb.out.drew.set_ _ _), Lib.hid ((hx.out.then (below_drewN (Below.refl _ _) 1)).setG _ _)⟩, by simp [intOf]; omega⟩
              · obtain rfl : k = n1 := by omega
                have HBS := hkb
                have HRS := Lib.hid (reads_bx HRT.out hx.out (by have := hkb.out.lt; omega))
                go_wp2_with (first
                  | (go_at_call 146; refine (marks_any _ TA tc n2 (Pl.filledL (Pl.setL s2) k) HRS.out HN2.out (by omega)).mono ?_; rintro e w20 ⟨rfl, hb20⟩
                     have b20 := HBS.out.on hb20)
                  | (refine wpList_store_part rfl 104 (.tmp 170) (.tmp 168) rfl g 512 222 (tabC (byteF (Pl.toK (Pl.filledL (Pl.setL s2) k) (Pl.othersL one0) k)) zB zB) (arrF 256 (markF (Pl.filledL (Pl.setL s2) k))) (tabC (byteF (Pl.toK (Pl.filledL (Pl.setL s2) k) (Pl.othersL one0) k)) zB (markF (Pl.filledL (Pl.setL s2) k))) rfl rfl b20 (by rw [arrF_size, tabC_size]; omega) (by rw [arrF_size]; kernel_rfl) (arrF_one fun _ => rfl) (tabC_putSqu _ _ _ _) ?_
                     intro w21 b21 g21))
                go_returns
                have hgl20 := HBS.out.lt
                have hsz20 := hb20.size
                exact ⟨g, rfl, HFIN.out _ _ b21, hwg, HW.out.trans (((hx.out.then (below_le hb20 (by omega))).trans (bx_grown (B := g + 1) g21 (by omega))).low hwg (by omega))⟩

end Go.Proofs.YtlhiadnolckoeaaGreatDoor
end
