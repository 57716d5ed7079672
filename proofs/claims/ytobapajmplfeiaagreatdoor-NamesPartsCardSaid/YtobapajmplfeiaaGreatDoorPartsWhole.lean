/-
  A path's parts are as the document says, and put together and parted again they are the same: the law NamesParts returns true, for every input; the card ties the listed variables.
  Conditions: none beyond the row's own.
-/
import Derived.Test.YtobapajmplfeiaaGreatDoorRows
import Derived.WalkKit
import Derived.ProofKit
import Derived.OpenShut
import Derived.JoinedCond
import Derived.Carry
import Derived.SliceStrings
import Derived.Test.YtobapajmplfeiaaGreatDoorQ03
import Derived.Test.YtobapajmplfeiaaGreatDoorQ12
import Derived.Test.YtobapajmplfeiaaGreatDoorQ09
import Derived.Lib.LaidU8T
import Derived.Lib.LaidTab
import Derived.Stop.LaidErr
import Derived.LaidMore
import Derived.Lay
import Derived.Deep.DeepHandedRow
import Derived.Test.YtobapajmplfeiaaGreatDoorCards
import Derived.Test.YtobapajmplfeiaaGreatDoorTie
import Derived.SizedLaws

section
namespace Go.Proofs.YtobapajmplfeiaaGreatDoor
open Go.ChangeShapes Go.WideShapes Go.ChangeAt Go.RowKit
open Go.ChangeMaps (open_string shut_string)

theorem Tryz.own : ownKnob Tryz.prog.godebug = none := by kernel_rfl
theorem Tryz.laidOut : laidOutB Tryz.prog = true := by kernel_rfl

theorem trodAll_below {H : Type} {enc : TypeId × Value → H} {P : Program} (hl : laidOutB P = true) {W W' : World} (hb : Below W.heap.size W W') :
    ∀ (ts : List TypeId) (vs : List Value) (ds : List (DataW H)) (ps : List MemPlace), (∀ t ∈ ts, P.readableRec t = true ∧ t < P.types.size) →
      DataW.TrodAll enc P W 0 (fun _ => true) true ts vs ds ps → (∀ x ∈ ps, x.block < W.heap.size) → DataW.TrodAll enc P W' 0 (fun b => decide (b < W.heap.size)) true ts vs ds ps := by
  intro ts
  induction ts with
  | nil => intro vs ds ps _ h _; obtain ⟨rfl, rfl, rfl⟩ := trodAll_nil h; exact trodAll_mk0
  | cons t ts ih =>
    intro vs ds ps ht h hlt
    obtain ⟨v, vs', d, ds', p, q, rfl, rfl, rfl, h0, hr⟩ := trodAll_cons h
    exact trodAll_cons_mk (Below.trod hl (ht t (by simp)).1 (ht t (by simp)).2 h0 hb (fun x hx => hlt x (by simp [hx]))) (ih vs' ds' q (fun u hu => ht u (by simp [hu])) hr (fun x hx => hlt x (by simp [hx])))

theorem post_true {H : Type} {enc : TypeId × Value → H} {P : Program} {f : Func} {s : ChangeSpec} {tb : TypeId} {W W' : World} {args : Array Value} {ds : List (DataW H)} {before : List MemPlace} (hl : laidOutB P = true)
    (hW : DataW.Whole enc P f.params.toList s.vars false W args.toList ds [] before) (hv : s.vars = []) (hres : (s.fn H (ds ++ [])).results = [.lit (.bool true)]) (hargs : (s.fn H (ds ++ [])).args = ds) (hvars : (s.fn H (ds ++ [])).vars = [])
    (hf : f.resultTypes.toList = [tb]) (hn : f.resultTypes.size = 1) (hb : P.underlying tb = some .bool) (ht : ∀ t ∈ f.params.toList, P.readableRec t = true ∧ t < P.types.size) (hbe : Below W.heap.size W W') :
    s.post enc P f false true false false W args (.bool true) W' := by
  have hlt : ∀ x ∈ before, x.block < W.heap.size := fun x hx => hW.lt x hx
  have hW' := hW
  obtain ⟨p, q, hA, hV, rfl, _, _⟩ := hW
  rw [hv] at hV
  obtain ⟨_, rfl⟩ := trodVars_none hV
  refine ⟨ds, [], p ++ [], [] ++ [], p, [], hW', ?_, ?_, ?_, hbe.frame _, fun h => by cases h⟩
  · rw [hres, hf, hn]
    exact trodAll_mk1 (shut_bool hb true)
  · rw [hargs]
    exact trodAll_below hl hbe _ _ _ _ ht hA (fun x hx => hlt x (by simp [hx]))
  · rw [hvars, hv]; rfl

/-! ### what the bound gives -/
theorem bulk_one {H : Type} (d : DataW H) : 1 ≤ Rows.uptoBulk d := by
  cases d with
  | lit l => cases l <;> simp [Rows.uptoBulk]
  | nil => simp [Rows.uptoBulk]
  | ptr d => simp [Rows.uptoBulk]
  | slice elems spare => simp [Rows.uptoBulk]
  | agg parts => simp [Rows.uptoBulk]
  | iface t d => simp [Rows.uptoBulk]
  | map entries => simp [Rows.uptoBulk]
  | held h => simp [Rows.uptoBulk]
theorem bulk_bound {H : Type} {l : List (DataW H)} (hk : Rows.uptoSmall H l = true) : Rows.uptoBulkAll l ≤ 1048576 := of_decide_eq_true hk
theorem bulk_string {H : Type} (s : ByteArray) : Rows.uptoBulk (DataW.lit (H := H) (.string s.data.toList)) = s.size + 1 := by
  simp only [Rows.uptoBulk]
  rw [Array.length_toList]; rfl
theorem bulk_strs {H : Type} (l : List ByteArray) : Rows.uptoBulkAll (strs (H := H) l) = (l.map (·.size)).sum + l.length := by
  induction l with
  | nil => simp [strs, Rows.uptoBulkAll]
  | cons s l ih =>
    have h : Rows.uptoBulkAll (strs (H := H) (s :: l)) = Rows.uptoBulk (DataW.lit (H := H) (.string s.data.toList)) + Rows.uptoBulkAll (strs (H := H) l) := by simp [strs, Rows.uptoBulkAll]
    rw [h, ih, bulk_string, List.map_cons, List.sum_cons, List.length_cons]
    omega
end Go.Proofs.YtobapajmplfeiaaGreatDoor
end

section
namespace Go.Proofs.YtobapajmplfeiaaGreatDoor
open Go.RowKit

def strLenR : Value → Nat
  | .string s => s.size
  | _ => 0
theorem strLenR_B (l : List UInt8) : strLenR (.string (strB l)) = l.length := strB_size l

theorem strB_extract (l : List UInt8) (a b : Nat) : (strB l).extract a b = strB ((l.drop a).take (b - a)) := by
  rw [show strB l = ⟨l.toArray⟩ from rfl, Lib.extract_mk]; rfl

set_option maxRecDepth 100000 in
set_option maxHeartbeats 1000000 in
theorem refCut (l : List UInt8) (hl : l.length < 4611686018427387904) (w : World) :
    Calls Tryz.prog 16 #[.string (strB l)] w fun e w' => e = .returned (.string (strB (Pl.cut l))) ∧ w' = w := by
  go_enter Tryz.func16, Tryz.ntmps16
  go_wp2
  go_loopw [0] (fun x wr => ∃ t : List UInt8, t.length ≤ l.length ∧ x = .string (strB t) ∧ Hid (Pl.cut l = Pl.cut t) ∧ wr = w) (fun x _ => strLenR x)
  case atStart => exact ⟨l, Nat.le_refl _, rfl, Lib.hid rfl, rfl⟩
  case round =>
    obtain ⟨t, htl, rfl, hc, rfl⟩ := hrel
    have hsz : (strB t).size = t.length := strB_size t
    rcases List.eq_nil_or_concat t with rfl | ⟨m, c, rfl⟩
    · have hsz' : (strB []).size = 0 := rfl
      go_wp2
      go_ret
      exact ⟨by rw [hc.out]; rfl, rfl⟩
    · simp only [List.concat_eq_append] at hsz htl hc ⊢
      simp only [List.length_append, List.length_singleton] at hsz htl
      have hix : ∀ h : m.length < (strB (m ++ [c])).size, (strB (m ++ [c]))[m.length]'h = c := fun h => by
        show (m ++ [c]).toArray[m.length]'(by simp) = c
        simp
      have hex : (strB (m ++ [c])).extract 0 m.length = strB m := by rw [strB_extract]; simp
      by_cases h47 : c = 47
      · subst h47
        have hcm : Hid (Pl.cut l = Pl.cut m) := Lib.hid (by
          rw [hc.out]
          unfold Pl.cut Lib.trimRightB
          rw [List.reverse_append, List.reverse_singleton, List.singleton_append, List.dropWhile_cons_of_pos (by simp)])
        clear hc
        go_wp2
        go_roundw
        case rel => exact ⟨m, by omega, by first | rfl | (rw [hex]), hcm, by trivial⟩
        case measure => simp only [strLenR_B, List.length_append, List.length_singleton]; omega
      · have hcl : Hid (Pl.cut l = m ++ [c]) := Lib.hid (hc.out.trans (Pl.cut_last m c h47))
        have hne : (((c.toNat : Int)) == 47) = false := by
          simp only [beq_eq_false_iff_ne, ne_eq]
          exact fun h => h47 (UInt8.toNat_inj.1 (by show _ = 47; omega))
        clear hc
        go_wp2
        go_returns
        exact ⟨by rw [hcl.out]; rfl, rfl⟩

set_option maxRecDepth 100000 in
set_option maxHeartbeats 1000000 in
theorem refLast (l : List UInt8) (hl : l.length < 4611686018427387904) (w : World) :
    Calls Tryz.prog 17 #[.string (strB l)] w fun e w' => e = .returned (.int .i64 (Pl.lastI l)) ∧ w' = w := by
  have hsz : (strB l).size = l.length := strB_size l
  have hstart : Pl.lastI l = Lib.lastIdx (strB l) 47 l.length := by
    unfold Pl.lastI Lib.lastIndexByte
    rw [show (⟨l.toArray⟩ : ByteArray) = strB l from rfl, hsz]
  have hst := Lib.hid hstart
  clear hstart
  go_enter Tryz.func17, Tryz.ntmps17
  go_wp2
  go_loopw [3] (fun x wr => ∃ k : Nat, k ≤ l.length ∧ x = .int .i64 ((k : Int) - 1) ∧ Hid (Pl.lastI l = Lib.lastIdx (strB l) 47 k) ∧ wr = w) (fun x _ => (intOf x + 1).toNat)
  case atStart => exact ⟨l.length, Nat.le_refl _, by go_num, hst, rfl⟩
  case round =>
    obtain ⟨k, hk, rfl, hc, rfl⟩ := hrel
    rcases k with _ | k
    · go_wp2
      go_ret
      exact ⟨by rw [hc.out]; rfl, rfl⟩
    · have e : (((k + 1 : Nat) : Int) - 1) = (k : Int) := by omega
      rw [e]
      obtain ⟨c, hcc⟩ : ∃ c, (strB l).data[k]! = c := ⟨_, rfl⟩
      have hix : ∀ h : k < (strB l).size, (strB l)[k]'h = c := fun h => by
        rw [← hcc, getElem!_pos (strB l).data k h]
        rfl
      by_cases h47 : c = 47
      · have hr : Hid (Pl.lastI l = (k : Int)) := Lib.hid (hc.out.trans (Lib.lastIdx_hit _ _ _ (by rw [hcc, h47]; rfl)))
        subst h47
        clear hc hcc
        go_wp2
        go_returns
        exact ⟨by rw [hr.out]; rfl, rfl⟩
      · have hne : (((c.toNat : Int)) == 47) = false := by
          simp only [beq_eq_false_iff_ne, ne_eq]
          exact fun h => h47 (UInt8.toNat_inj.1 (by show _ = 47; omega))
        have hr : Hid (Pl.lastI l = Lib.lastIdx (strB l) 47 k) := Lib.hid (hc.out.trans (Lib.lastIdx_miss _ _ _ (by rw [hcc]; simpa using hne)))
        clear hc hcc h47
        go_wp2
        go_roundw
        case rel => exact ⟨k, by omega, by go_num, hr, by trivial⟩
        case measure => simp [intOf]

set_option maxHeartbeats 1000000 in
theorem refDir (l : List UInt8) (hl : l.length < 4611686018427387904) (w : World) :
    Calls Tryz.prog 9 #[.string (strB l)] w fun e w' => e = .returned (.string (strB (Pl.dirL l))) ∧ w' = w := by
  have hd : Pl.dirL l = if l = [] then [46] else if Pl.cut l = [] then [47] else if Pl.lastI (Pl.cut l) < 0 then [46] else if Pl.cut ((Pl.cut l).take (Pl.lastI (Pl.cut l)).toNat) = [] then [47] else Pl.cut ((Pl.cut l).take (Pl.lastI (Pl.cut l)).toNat) := rfl
  have htr := fun W => refCut l hl W
  obtain ⟨T, hT⟩ : ∃ T, Pl.cut l = T := ⟨_, rfl⟩
  have hTl : T.length < 4611686018427387904 := by have := cut_le l; rw [hT] at this; omega
  rw [hT] at hd htr
  have hli := fun W => refLast T hTl W
  have hib := Pl.lastI_lt T
  obtain ⟨i, hi⟩ : ∃ i, Pl.lastI T = i := ⟨_, rfl⟩
  rw [hi] at hd hli hib
  have e1 : (strB l).toList.isEmpty = l.isEmpty := by rw [strB_toList]
  have e2 : (strB T).toList.isEmpty = T.isEmpty := by rw [strB_toList]
  by_cases h0 : l = []
  · have e0 : (strB l).toList.isEmpty = true := e1.trans (isEmpty_of h0)
    rw [if_pos h0] at hd
    have HD := Lib.hid hd
    clear hd e1 e2 hT hi h0
    go_enter Tryz.func9, Tryz.ntmps9
    go_wp2_with (go_at_call 16; refine (htr _).mono ?_; rintro e w1 ⟨rfl, rfl⟩)
    go_ret
    exact ⟨by rw [HD.out]; rfl, rfl⟩
  have e0 : (strB l).toList.isEmpty = false := e1.trans (isEmpty_no h0)
  rw [if_neg h0] at hd
  by_cases h1 : T = []
  · have e3 : (strB T).toList.isEmpty = true := e2.trans (isEmpty_of h1)
    rw [if_pos h1] at hd
    have HD := Lib.hid hd
    clear hd e1 e2 hT hi h0 h1
    go_enter Tryz.func9, Tryz.ntmps9
    go_wp2_with (go_at_call 16; refine (htr _).mono ?_; rintro e w1 ⟨rfl, rfl⟩)
    go_ret
    exact ⟨by rw [HD.out]; rfl, rfl⟩
  have e3 : (strB T).toList.isEmpty = false := e2.trans (isEmpty_no h1)
  rw [if_neg h1] at hd
  by_cases h2 : i < 0
  · rw [if_pos h2] at hd
    have HD := Lib.hid hd
    clear hd e1 e2 hT hi h0 h1
    go_enter Tryz.func9, Tryz.ntmps9
    go_wp2_with (first | (go_at_call 16; refine (htr _).mono ?_; rintro e w1 ⟨rfl, rfl⟩) | (go_at_call 17; refine (hli _).mono ?_; rintro e w1 ⟨rfl, rfl⟩))
    go_ret
    exact ⟨by rw [HD.out]; rfl, rfl⟩
  rw [if_neg h2] at hd
  obtain ⟨k, rfl⟩ : ∃ k : Nat, i = (k : Int) := ⟨i.toNat, by omega⟩
  rw [Int.toNat_natCast] at hd
  have htr2 := fun W => refCut (T.take k) (by rw [List.length_take]; omega) W
  obtain ⟨U, hU⟩ : ∃ U, Pl.cut (T.take k) = U := ⟨_, rfl⟩
  rw [hU] at hd htr2
  have e4 : (strB U).toList.isEmpty = U.isEmpty := by rw [strB_toList]
  have hkT : (k : Int) ≤ T.length := by omega
  have hsz : (strB T).size = T.length := strB_size T
  have hex : (strB T).extract 0 k = strB (T.take k) := by rw [strB, Lib.extract_mk]; rfl
  have H0 := Lib.hid h0
  have H1 := Lib.hid h1
  have HD := Lib.hid hd
  clear hd e1 e2 hT hi h0 h1 hU
  by_cases h3 : U = []
  · have e5 : (strB U).toList.isEmpty = true := e4.trans (isEmpty_of h3)
    have H3 := Lib.hid h3
    clear h3 e4
    go_enter Tryz.func9, Tryz.ntmps9
    go_wp2_with (first | (go_at_call 17; refine (hli _).mono ?_; rintro e w1 ⟨rfl, rfl⟩) | (go_at_call 16; first | (with_reducible refine (htr _).mono ?_; rintro e w1 ⟨rfl, rfl⟩) | (with_reducible refine (htr2 _).mono ?_; rintro e w1 ⟨rfl, rfl⟩)))
    go_ret
    exact ⟨by rw [HD.out, if_pos H3.out]; rfl, rfl⟩
  · have e5 : (strB U).toList.isEmpty = false := e4.trans (isEmpty_no h3)
    have H3 := Lib.hid h3
    clear h3 e4
    go_enter Tryz.func9, Tryz.ntmps9
    go_wp2_with (first | (go_at_call 17; refine (hli _).mono ?_; rintro e w1 ⟨rfl, rfl⟩) | (go_at_call 16; first | (with_reducible refine (htr _).mono ?_; rintro e w1 ⟨rfl, rfl⟩) | (with_reducible refine (htr2 _).mono ?_; rintro e w1 ⟨rfl, rfl⟩)))
    go_ret
    exact ⟨by rw [HD.out, if_neg H3.out]; rfl, rfl⟩

namespace Pl
theorem trim_cases (b sfx : List UInt8) :
    (sfx.length < b.length → b.drop (b.length - sfx.length) = sfx → (if b = sfx then b else Lib.trimSuffix b sfx) = b.take (b.length - sfx.length)) ∧
    (sfx.length < b.length → ¬ b.drop (b.length - sfx.length) = sfx → (if b = sfx then b else Lib.trimSuffix b sfx) = b) ∧
    (¬ sfx.length < b.length → (if b = sfx then b else Lib.trimSuffix b sfx) = b) := by
  have hs : ∀ h : sfx <:+ b, b.drop (b.length - sfx.length) = sfx := fun ⟨t, h⟩ => by
    subst h
    rw [List.length_append, Nat.add_sub_cancel]
    exact List.drop_left' rfl
  refine ⟨fun h1 h2 => ?_, fun h1 h2 => ?_, fun h1 => ?_⟩
  · rw [if_neg (fun e => by rw [e] at h1; omega)]
    unfold Lib.trimSuffix Lib.hasSuffix
    rw [if_pos (List.isSuffixOf_iff_suffix.2 (by rw [← h2]; exact List.drop_suffix _ _))]
  · split
    · rfl
    · unfold Lib.trimSuffix Lib.hasSuffix
      rw [if_neg (fun h => h2 (hs (List.isSuffixOf_iff_suffix.1 h)))]
  · split
    · rfl
    · rename_i hne
      unfold Lib.trimSuffix Lib.hasSuffix
      rw [if_neg (fun h => by
        have h3 := List.isSuffixOf_iff_suffix.1 h
        exact hne (h3.eq_of_length (Nat.le_antisymm h3.length_le (by omega))).symm)]
end Pl

set_option maxRecDepth 100000 in
set_option maxHeartbeats 1000000 in
theorem refBase (l sfx : List UInt8) (hl : l.length < 4611686018427387904) (hs : sfx.length < 4611686018427387904) (w : World) :
    Calls Tryz.prog 10 #[.string (strB l), .string (strB sfx)] w fun e w' => e = .returned (.string (strB (Pl.baseL l sfx))) ∧ w' = w := by
  have hd : Pl.baseL l sfx = if l = [] then [] else if Pl.cut l = [] then [47] else if Pl.lastPart (Pl.cut l) = sfx then Pl.lastPart (Pl.cut l) else Lib.trimSuffix (Pl.lastPart (Pl.cut l)) sfx := rfl
  have htr := fun W => refCut l hl W
  obtain ⟨T, hT⟩ : ∃ T, Pl.cut l = T := ⟨_, rfl⟩
  have hTl : T.length < 4611686018427387904 := by have := cut_le l; rw [hT] at this; omega
  rw [hT] at hd htr
  have hli := fun W => refLast T hTl W
  have hib := Pl.lastI_lt T
  have hlp : Pl.lastPart T = T.drop (Pl.lastI T + 1).toNat := rfl
  obtain ⟨i, hi⟩ : ∃ i, Pl.lastI T = i := ⟨_, rfl⟩
  rw [hi] at hlp hli hib
  have e1 : (strB l).toList.isEmpty = l.isEmpty := by rw [strB_toList]
  have e2 : (strB T).toList.isEmpty = T.isEmpty := by rw [strB_toList]
  by_cases h0 : l = []
  · have e0 : (strB l).toList.isEmpty = true := e1.trans (isEmpty_of h0)
    rw [if_pos h0] at hd
    have HD := Lib.hid hd
    clear hd e1 e2 hT hi h0 hlp
    go_enter Tryz.func10, Tryz.ntmps10
    go_wp2_with (go_at_call 16; refine (htr _).mono ?_; rintro e w1 ⟨rfl, rfl⟩)
    go_ret
    exact ⟨by rw [HD.out]; rfl, rfl⟩
  have e0 : (strB l).toList.isEmpty = false := e1.trans (isEmpty_no h0)
  rw [if_neg h0] at hd
  by_cases h1 : T = []
  · have e3 : (strB T).toList.isEmpty = true := e2.trans (isEmpty_of h1)
    rw [if_pos h1] at hd
    have HD := Lib.hid hd
    clear hd e1 e2 hT hi h0 h1 hlp
    go_enter Tryz.func10, Tryz.ntmps10
    go_wp2_with (go_at_call 16; refine (htr _).mono ?_; rintro e w1 ⟨rfl, rfl⟩)
    go_ret
    exact ⟨by rw [HD.out]; rfl, rfl⟩
  have e3 : (strB T).toList.isEmpty = false := e2.trans (isEmpty_no h1)
  rw [if_neg h1] at hd
  obtain ⟨k, hk⟩ : ∃ k : Nat, i + 1 = (k : Int) := ⟨(i + 1).toNat, by omega⟩
  have hkT : (k : Int) ≤ T.length := by omega
  rw [hk, Int.toNat_natCast] at hlp
  obtain rfl : i = (k : Int) - 1 := by omega
  have hb0 : (-1 : Int) ≤ (k : Int) - 1 := by omega
  have hb1 : (k : Int) - 1 < (T.length : Int) := by omega
  have hsz : (strB T).size = T.length := strB_size T
  have hex : (strB T).extract k T.length = strB (T.drop k) := by
    rw [show strB T = ⟨T.toArray⟩ from rfl, Lib.extract_mk, List.take_of_length_le (by rw [List.length_drop]; exact Nat.le_refl _)]
    rfl
  obtain ⟨b, hb⟩ : ∃ b, T.drop k = b := ⟨_, rfl⟩
  have hbl : b.length < 4611686018427387904 := by rw [← hb, List.length_drop]; omega
  rw [hb] at hlp hex
  rw [hlp] at hd
  have hpl := Pl.trim_cases b sfx
  have HB := Lib.hid hb
  have hbz : (strB b).size = b.length := strB_size b
  have hsz2 : (strB sfx).size = sfx.length := strB_size sfx
  clear e1 e2 hT hi h0 h1 hlp hb hk hib
  by_cases hn : sfx.length < b.length
  · obtain ⟨n, hnn⟩ : ∃ n, b.length - sfx.length = n := ⟨_, rfl⟩
    have hex2 : (strB b).extract n b.length = strB (b.drop n) := by
      rw [strB_extract, List.take_of_length_le (by rw [List.length_drop]; exact Nat.le_refl _)]
    have hex3 : (strB b).extract 0 n = strB (b.take n) := by rw [strB_extract]; rfl
    have hn1 : (b.length : Int) - sfx.length = (n : Int) := by omega
    have hn2 : 0 < n := by omega
    have hn3 : n ≤ b.length := by omega
    rw [hnn] at hpl
    by_cases hq0 : b.drop n = sfx
    · have hq : ((strB (b.drop n)).toList == (strB sfx).toList) = true := by rw [hq0]; simp
      have HD := Lib.hid (hd.trans (hpl.1 hn hq0))
      clear hd hpl hq0
      go_enter Tryz.func10, Tryz.ntmps10
      go_wp2_with (first | (go_at_call 17; refine (hli _).mono ?_; rintro e w1 ⟨rfl, rfl⟩) | (go_at_call 16; refine (htr _).mono ?_; rintro e w1 ⟨rfl, rfl⟩))
      go_ret
      exact ⟨by rw [HD.out]; rfl, rfl⟩
    · have hq : ((strB (b.drop n)).toList == (strB sfx).toList) = false := by rw [strB_toList, strB_toList]; simpa using hq0
      have HD := Lib.hid (hd.trans (hpl.2.1 hn hq0))
      clear hd hpl hq0
      go_enter Tryz.func10, Tryz.ntmps10
      go_wp2_with (first | (go_at_call 17; refine (hli _).mono ?_; rintro e w1 ⟨rfl, rfl⟩) | (go_at_call 16; refine (htr _).mono ?_; rintro e w1 ⟨rfl, rfl⟩))
      go_ret
      exact ⟨by rw [HD.out]; rfl, rfl⟩
  · have HD := Lib.hid (hd.trans (hpl.2.2 hn))
    clear hd hpl
    go_enter Tryz.func10, Tryz.ntmps10
    go_wp2_with (first | (go_at_call 17; refine (hli _).mono ?_; rintro e w1 ⟨rfl, rfl⟩) | (go_at_call 16; refine (htr _).mono ?_; rintro e w1 ⟨rfl, rfl⟩))
    go_ret
    exact ⟨by rw [HD.out]; rfl, rfl⟩

end Go.Proofs.YtobapajmplfeiaaGreatDoor
end

section
namespace Go.Proofs.YtobapajmplfeiaaGreatDoor
open Go.RowKit Go.Maps

theorem parts_len (l : List UInt8) (h0 : l ≠ []) : (Pl.dirL l).length + (Pl.baseL l []).length ≤ l.length + 1 := by
  rw [Pl.base_nil, if_neg h0]
  unfold Pl.dirL
  rw [if_neg h0]
  have hc := cut_le l
  have hl : 1 ≤ l.length := by
    cases l with
    | nil => exact absurd rfl h0
    | cons a l => simp
  obtain ⟨T, hT⟩ : ∃ T, Pl.cut l = T := ⟨_, rfl⟩
  rw [hT] at hc ⊢
  by_cases h1 : T = []
  · rw [if_pos h1, if_pos h1]
    simp
    omega
  rw [if_neg h1, if_neg h1]
  have hib := Pl.lastI_lt T
  unfold Pl.lastPart
  by_cases h2 : Pl.lastI T < 0
  · rw [if_pos h2]
    simp
    omega
  · rw [if_neg h2]
    have hcc := cut_le (T.take (Pl.lastI T).toNat)
    split
    · simp
      omega
    · simp at hcc ⊢
      omega

set_option maxRecDepth 100000 in
set_option maxHeartbeats 2000000 in
theorem namesParts_any (s t : ByteArray) (W : World) (hs : s.size ≤ 140737488351232) (ht : t.size ≤ 140737488351232) (hT : Tabs W) :
    Calls Tryz.prog 3 #[.string s, .string t] W fun e w' => e = .returned (.bool true) ∧ Below W.heap.size W w' := by
  obtain ⟨l, rfl⟩ : ∃ l, s = strB l := ⟨s.data.toList, rfl⟩
  obtain ⟨q, rfl⟩ : ∃ q, t = strB q := ⟨t.data.toList, rfl⟩
  rw [strB_size] at hs ht
  have haw := awake_any W hT
  have hd := fun W => namesDir l (by omega) W
  have hb : ∀ W, Calls Tryz.prog 8 #[.string (strB l), .string ⟨#[]⟩] W fun e w' => e = .returned (.string (strB (Pl.baseL l []))) ∧ w' = W := fun W => namesBase l [] (by omega) W
  have hq := fun W => namesBase l q (by omega) W
  have rd := fun W => refDir l (by omega) W
  have rb : ∀ W, Calls Tryz.prog 10 #[.string (strB l), .string ⟨#[]⟩] W fun e w' => e = .returned (.string (strB (Pl.baseL l []))) ∧ w' = W := fun W => refBase l [] (by omega) (by simp) W
  have rq := fun W => refBase l q (by omega) (by omega) W
  clear ht
  obtain ⟨C0, hC0⟩ : ∃ C, Pl.baseL l q = C := ⟨_, rfl⟩
  rw [hC0] at hq rq
  obtain ⟨Sq, hSq⟩ : ∃ S, strB q = S := ⟨_, rfl⟩
  simp only [hSq] at hq rq ⊢
  clear hC0 hSq
  by_cases h0 : l = []
  · subst h0
    clear hs hT
    rw [show Pl.dirL [] = [46] from rfl] at hd rd
    rw [show Pl.baseL [] [] = [] from rfl] at hb rb
    have f1 : (strB ([] : List UInt8)).toList.isEmpty = true := by rw [strB_toList]; rfl
    have f3 : ((strB ([] : List UInt8)).toList == []) = true := by rw [strB_toList]; rfl
    have f2 : ((strB [46]).toList == [46]) = true := by rw [strB_toList]; rfl
    obtain ⟨S, hS⟩ : ∃ S, strB ([] : List UInt8) = S := ⟨_, rfl⟩
    obtain ⟨S1, hS1⟩ : ∃ S, strB [46] = S := ⟨_, rfl⟩
    simp only [hS, hS1] at hd hb hq rd rb rq f1 f2 f3 ⊢
    clear hS hS1
    go_enter Tryz.func3, Tryz.ntmps3
    go_wp2_with (first
      | (go_at_call 6; refine haw.mono ?_; rintro e w1 ⟨rfl, hb1⟩)
      | (go_at_call 7; with_reducible refine (hd _).mono ?_; rintro e w2 ⟨rfl, rfl⟩)
      | (go_at_call 9; with_reducible refine (rd _).mono ?_; rintro e w2 ⟨rfl, rfl⟩)
      | (go_at_call 8; with_reducible refine (hq _).mono ?_; rintro e w2 ⟨rfl, rfl⟩)
      | (go_at_call 10; with_reducible refine (rq _).mono ?_; rintro e w2 ⟨rfl, rfl⟩)
      | (go_at_call 8; with_reducible refine (hb _).mono ?_; rintro e w2 ⟨rfl, rfl⟩)
      | (go_at_call 10; with_reducible refine (rb _).mono ?_; rintro e w2 ⟨rfl, rfl⟩))
    go_returns
    exact ⟨rfl, hb1⟩
  have f0 : (strB l).toList.isEmpty = false := by rw [strB_toList]; exact isEmpty_no h0
  have hpl := parts_len l h0
  by_cases h1 : Pl.baseL l [] = [47]
  · rw [Pl.parts_stroke l h1] at hd rd
    rw [h1] at hb rb
    have f1 : ((strB [47]).toList == [47]) = true := by rw [strB_toList]; rfl
    have f2 : ((strB [47]).toList == [46]) = false := by rw [strB_toList]; rfl
    obtain ⟨S, hS⟩ : ∃ S, strB l = S := ⟨_, rfl⟩
    obtain ⟨S1, hS1⟩ : ∃ S, strB [47] = S := ⟨_, rfl⟩
    simp only [hS, hS1] at hd hb hq rd rb rq f0 f1 f2 ⊢
    clear hS hS1 hpl h1 h0 hs hT
    go_enter Tryz.func3, Tryz.ntmps3
    go_wp2_with (first
      | (go_at_call 6; refine haw.mono ?_; rintro e w1 ⟨rfl, hb1⟩)
      | (go_at_call 7; with_reducible refine (hd _).mono ?_; rintro e w2 ⟨rfl, rfl⟩)
      | (go_at_call 9; with_reducible refine (rd _).mono ?_; rintro e w2 ⟨rfl, rfl⟩)
      | (go_at_call 8; with_reducible refine (hb _).mono ?_; rintro e w2 ⟨rfl, rfl⟩)
      | (go_at_call 10; with_reducible refine (rb _).mono ?_; rintro e w2 ⟨rfl, rfl⟩)
      | (go_at_call 8; with_reducible refine (hq _).mono ?_; rintro e w2 ⟨rfl, rfl⟩)
      | (go_at_call 10; with_reducible refine (rq _).mono ?_; rintro e w2 ⟨rfl, rfl⟩))
    go_returns
    exact ⟨rfl, hb1⟩
  · obtain ⟨hp1, hp2⟩ := Pl.parts l h0 h1
    obtain ⟨D, hD⟩ : ∃ D, Pl.dirL l = D := ⟨_, rfl⟩
    obtain ⟨B, hB⟩ : ∃ B, Pl.baseL l [] = B := ⟨_, rfl⟩
    rw [hD, hB] at hp1 hp2 hpl
    rw [hD] at hd rd
    rw [hB] at hb rb h1
    have hlt : (D ++ 47 :: B).length < 4611686018427387904 := by simp; omega
    have hd2 := fun W => namesDir (D ++ 47 :: B) hlt W
    have hb2 : ∀ W, Calls Tryz.prog 8 #[.string (strB (D ++ 47 :: B)), .string ⟨#[]⟩] W fun e w' => e = .returned (.string (strB (Pl.baseL (D ++ 47 :: B) []))) ∧ w' = W := fun W => namesBase (D ++ 47 :: B) [] hlt W
    rw [hp2] at hd2
    rw [hp1] at hb2
    have f1 : ((strB B).toList == [47]) = false := by rw [strB_toList]; exact beq_eq_false_iff_ne.2 h1
    have a1 : strB D ++ ⟨#[47]⟩ = strB (D ++ [47]) := strB_snoc D 47
    have a2 : strB (D ++ [47]) ++ strB B = strB (D ++ 47 :: B) := by rw [strB_append]; simp
    have s1 : (strB D).size = D.length := strB_size D
    have s2 : (strB (D ++ [47])).size = D.length + 1 := by rw [strB_size]; simp
    have s3 : (strB B).size = B.length := strB_size B
    obtain ⟨nD, hnD⟩ : ∃ n, D.length = n := ⟨_, rfl⟩
    obtain ⟨nB, hnB⟩ : ∃ n, B.length = n := ⟨_, rfl⟩
    rw [hnD] at s1 s2 hpl
    rw [hnB] at s3 hpl
    obtain ⟨S, hS⟩ : ∃ S, strB l = S := ⟨_, rfl⟩
    obtain ⟨SD, hSD⟩ : ∃ S, strB D = S := ⟨_, rfl⟩
    obtain ⟨SB, hSB⟩ : ∃ S, strB B = S := ⟨_, rfl⟩
    obtain ⟨S1, hS1⟩ : ∃ S, strB (D ++ [47]) = S := ⟨_, rfl⟩
    obtain ⟨S2, hS2⟩ : ∃ S, strB (D ++ 47 :: B) = S := ⟨_, rfl⟩
    simp only [hS, hSD, hSB, hS1, hS2] at hd hb hq rd rb rq hd2 hb2 f0 f1 a1 a2 s1 s2 s3 ⊢
    have hsz : nD + nB ≤ 140737488351233 := by omega
    clear hS hSD hSB hS1 hS2 hpl h1 h0 hs hT hnD hnB hlt hp1 hp2 hD hB
    go_enter Tryz.func3, Tryz.ntmps3
    go_wp2_with (first
      | (go_at_call 6; refine haw.mono ?_; rintro e w1 ⟨rfl, hb1⟩)
      | (go_at_call 7; with_reducible refine (hd _).mono ?_; rintro e w2 ⟨rfl, rfl⟩)
      | (go_at_call 9; with_reducible refine (rd _).mono ?_; rintro e w2 ⟨rfl, rfl⟩)
      | (go_at_call 8; with_reducible refine (hb _).mono ?_; rintro e w2 ⟨rfl, rfl⟩)
      | (go_at_call 10; with_reducible refine (rb _).mono ?_; rintro e w2 ⟨rfl, rfl⟩)
      | (go_at_call 8; with_reducible refine (hq _).mono ?_; rintro e w2 ⟨rfl, rfl⟩)
      | (go_at_call 10; with_reducible refine (rq _).mono ?_; rintro e w2 ⟨rfl, rfl⟩)
      | (go_at_call 7; with_reducible refine (hd2 _).mono ?_; rintro e w2 ⟨rfl, rfl⟩)
      | (go_at_call 8; with_reducible refine (hb2 _).mono ?_; rintro e w2 ⟨rfl, rfl⟩))
    go_returns
    exact ⟨rfl, hb1⟩

end Go.Proofs.YtobapajmplfeiaaGreatDoor
end

section
namespace Go.Proofs.YtobapajmplfeiaaGreatDoor
open Go.RowKit Go.ChangeShapes Go.WideShapes Go.ChangeAt Go.Shelf

/-- a listed array of integers -/
theorem tab_reads {W : World} {n : String} {k : IntKind} {zs : List Int} {g : Nat} {t e : TypeId} {m : Nat} (h : Lib.VarReads Tryz.prog W n (Lib.tabData k zs))
    (hg : Tryz.prog.globalNamed n = some g) (hty : (Tryz.prog.globals[g]?).map (·.type) = some t) (ht : Tryz.prog.underlying t = some (.array m e)) (he : Tryz.prog.underlying e = some (.int k)) (hce : Tryz.prog.cellsOf e = 1) (hct : Tryz.prog.cellsOf t = m) : Lib.TabIs Tryz.prog W n k zs := by
  obtain ⟨g', t', cs, fuel, p, hg', ht', hv, hd⟩ := h
  obtain rfl := Option.some.inj (hg.symm.trans hg')
  obtain rfl := Option.some.inj (hty.symm.trans ht')
  unfold Lib.TabIs
  rw [hv, ← Lib.cells_of_tab ht he hce hct hd]
def bruijnZ : List Int := [0, 1, 56, 2, 57, 49, 28, 3, 61, 58, 42, 50, 38, 29, 17, 4, 62, 47, 59, 36, 45, 43, 51, 22, 53, 39, 33, 30, 24, 18, 12, 5, 63, 55, 48, 27, 60, 41, 37, 16, 46, 35, 44, 21, 52, 32, 23, 11, 54, 26, 40, 15, 34, 20, 31, 10, 25, 14, 19, 9, 13, 8, 7, 6]

theorem Tryz.star : "*" ++ "errors.errorString" = "*errors.errorString" := by decide
theorem Tryz.rowErr (u : TypeId) (h : Tryz.prog.typeName? 3 u = some "*errors.errorString") : u = 317 :=
  typeName_ptr_named (nm := "errors.errorString") (by rw [Tryz.star]; kernel_rfl) (by kernel_rfl) (by decide) u (by rw [Tryz.star]; exact h)

theorem sentinel_cell {W : World} {n : String} {text : List UInt8} {r : List (String × DataW Unit)} {g : Nat} (h : laidMet Tryz.prog ((n, .iface "*errors.errorString" (.ptr (.agg [.lit (.string text)]))) :: r) W)
    (hg : Tryz.prog.globalNamed n = some g) (ht : (Tryz.prog.globals[g]?).map (·.type) = some 171) : ∃ tp p, W.cell? ⟨g, 0, none⟩ = some (.iface tp p) := by
  obtain ⟨a, s, hv, _, _, _⟩ := laid_sentinel h hg ht Tryz.underlying171 Tryz.rowErr Tryz.underlying317 Tryz.underlying319 rfl rfl Tryz.underlying9 (by kernel_rfl) (by kernel_rfl)
  have := World.var?_cell hg hv 0
  exact ⟨_, _, this⟩

theorem tabs_of {l : List (String × DataW Unit)} {W : World} (hl : l = Rows.namesPartsRow.laid) (h : laidMetH Tryz.prog l W) : Tabs W := by
  subst hl
  have h' : laidMet Tryz.prog Rows.namesPartsRow.laid W := h
  have m1 : ("math/bits.deBruijn64tab", Rows.laid_math_bits_deBruijn64tab) ∈ Rows.namesPartsRow.laid := by simp [Rows.namesPartsRow]
  have m2 : ("internal/strconv.uint64pow10", Rows.laid_internal_strconv_uint64pow10) ∈ Rows.namesPartsRow.laid := by simp [Rows.namesPartsRow]
  have hb : Lib.TabIs Tryz.prog W "math/bits.deBruijn64tab" .u8 bruijnZ := tab_reads (g := 5) (t := 266) (Lib.laidMet.reads h' m1) (by kernel_rfl) (by kernel_rfl) Tryz.underlying266 Tryz.underlying5 (by kernel_rfl) (by kernel_rfl)
  have hp : Lib.TabIs Tryz.prog W "internal/strconv.uint64pow10" .u64 Lib.pow10Tab := tab_reads (g := 1) (t := 182) (Lib.laidMet.reads h' m2) (by kernel_rfl) (by kernel_rfl) Tryz.underlying182 Tryz.underlying93 (by kernel_rfl) (by kernel_rfl)
  exact ⟨hb.cell (g := 5) (by kernel_rfl) 7 (by decide), hb.cell (g := 5) (by kernel_rfl) 15 (by decide), hp, sentinel_cell h'.tail.tail.tail.tail.tail (by kernel_rfl) (by kernel_rfl), sentinel_cell h'.tail.tail.tail.tail (by kernel_rfl) (by kernel_rfl)⟩

/-- the witness -/
theorem witness_row_shaped {H : Type} {enc : TypeId × Value → H} {C : Checked} {os : Os} {f : FuncId} {fn : Func} {s : OpenSpec} {conds : List PathCond} {apart : Bool} {laid : List (String × DataW Unit)} (w0 : World) (args : Array Value) (hos : w0.os = os)
    (hsh : (w0.forCall (fun _ _ => 0) ⟨#[], args, []⟩).Shaped C.prog)
    (hok : Input.okWideB C.prog (w0.forCall (fun _ _ => 0) ⟨#[], args, []⟩) f ⟨#[], args, []⟩ = true)
    (hrow : s.preRow enc C.prog fn conds apart laid (w0.forCall (fun _ _ => 0) ⟨#[], args, []⟩).memory args) :
    ∃ (w : World) (tape : Tape) (i : Input), w.os = os ∧ (w.forCall tape i).Shaped C.prog ∧ i.vars = [] ∧ Input.okWide C.prog (w.forCall tape i) .any w.heap.size f i ∧
      s.preRow enc C.prog fn conds apart laid (w.forCall tape i).memory i.args ∧ ({} : Assume).holds C.prog (lone (Frame.enter C.prog f i.args .normal) [] (w.forCall tape i)) :=
  ⟨w0, fun _ _ => 0, ⟨#[], args, []⟩, hos, hsh, (Input.okWide_of_okWideB (base := 0) hok).1, (Input.okWide_of_okWideB hok).2, hrow, by
    simp only [Assume.holds]
    exact ⟨by simp, by simp, fun _ => Modest.zero, by simp, by simp⟩⟩

end Go.Proofs.YtobapajmplfeiaaGreatDoor
end

section
namespace Go.Proofs.YtobapajmplfeiaaGreatDoor.namesParts
open Go.ChangeShapes Go.WideShapes Go.ChangeAt Go.RowKit
open Go.ChangeMaps (open_string shut_string)

theorem paramsOk : ∀ t ∈ Tryz.f3.params.toList, Tryz.prog.readableRec t = true ∧ t < Tryz.prog.types.size := by
  intro t ht
  rw [Tryz.params3] at ht
  simp at ht
  subst ht
  exact ⟨by kernel_rfl, of_decide_eq_true (by kernel_rfl)⟩

set_option maxRecDepth 100000 in
theorem contract (H : Type) (enc : TypeId × Value → H) (W : World) (base : Nat) (args : Array Value) (ds gs : List (DataW H)) (before : List MemPlace)
    (hval : ∀ (j : Nat) t v, Tryz.f3.params[j]? = some t → args[j]? = some v → Value.okWide Tryz.prog W .any base t v)
    (hW : DataW.Whole enc Tryz.prog Tryz.f3.params.toList Rows.namesPartsSpec.vars false W args.toList ds gs before)
    (hsz : (DataW.weightsEach Tryz.prog (Tryz.f3.params.toList ++ []) (ds ++ gs)).all (· ≤ reachBytes) = true) (hL : laidMetH Tryz.prog Rows.namesPartsRow.laid W) :
    Calls Tryz.prog 3 args W fun e W' => ∃ v, e = .returned v ∧ Rows.namesPartsSpec.post enc Tryz.prog Tryz.f3 false true false false W args v W' := by
  have hW' := hW
  obtain ⟨p, q, hA0, hV, rfl, hfz, hnd⟩ := hW
  have hA : DataW.TrodAll enc Tryz.prog W 0 (fun _ => true) true Tryz.f3.params.toList args.toList ds p := hA0
  rw [Tryz.params3] at hA hval hsz
  obtain ⟨v0, vs0, d0, ds0, p0, q0, hargs, rfl, rfl, h0, r0⟩ := trodAll_cons hA
  obtain ⟨v1, vs1, d1, ds1, p1, q1, rfl, rfl, rfl, h1, r1⟩ := trodAll_cons r0
  obtain ⟨rfl, rfl, rfl⟩ := trodAll_nil r1
  obtain rfl : args = #[v0, v1] := by cases args; simp_all
  obtain ⟨rfl, rfl⟩ := trodVars_none hV
  obtain ⟨s, rfl, rfl, rfl, hmax⟩ := open_string Tryz.underlying9 (hval 0 9 v0 rfl rfl) h0
  obtain ⟨t, rfl, rfl, rfl, hmax1⟩ := open_string Tryz.underlying9 (hval 1 9 v1 rfl rfl) h1
  have hs : s.size ≤ 140737488351232 := by
    have := sized_string (P := Tryz.prog) hsz (j := 0) (t := 9) (bytes := s.data.toList) rfl rfl
    have h1 : reachBytes = 140737488351232 := rfl
    simpa [h1] using this
  have ht : t.size ≤ 140737488351232 := by
    have := sized_string (P := Tryz.prog) hsz (j := 1) (t := 9) (bytes := t.data.toList) rfl rfl
    have h1 : reachBytes = 140737488351232 := rfl
    simpa [h1] using this
  exact (namesParts_any s t W hs ht (tabs_of rfl hL)).mono fun e W1 ⟨he, hb⟩ => ⟨_, he, post_true Tryz.laidOut hW' rfl rfl rfl rfl rfl rfl Tryz.underlying4 paramsOk hb⟩

def witArgs : Array Value := #[.string ⟨#[]⟩, .string ⟨#[]⟩]
theorem reads (os : Os) {H : Type} (enc : TypeId × Value → H) : ∃ places, DataW.whole enc Tryz.prog ((World.laidAll Tryz.prog os Rows.namesPartsRow.laid).forCall (fun _ _ => 0) ⟨#[], witArgs, []⟩).memory Tryz.f3.params.toList Rows.namesPartsSpec.vars false witArgs.toList 8 = some ([.lit (.string []), .lit (.string [])], [], places) :=
  ⟨[], by kernel_rfl⟩

set_option maxRecDepth 100000 in
theorem lifted (os : Os) (started : os.Started) (H : Type) (enc : TypeId × Value → H) (F : Stop.Interp) :
    ReturnsInHanded {} Tryz.checked os 3 .any ((OpenSpec.ofChange Rows.namesPartsSpec).preRow enc Tryz.prog Tryz.f3 Rows.namesPartsRow.domain false Rows.namesPartsRow.laid) (((OpenSpec.ofChange Rows.namesPartsSpec).at F).post enc Tryz.prog Tryz.f3 false true false false) := by
  obtain ⟨places, hx⟩ := reads os enc
  refine returnsInHanded_of_row (C := Tryz.checked) (s := OpenSpec.ofChange Rows.namesPartsSpec) Tryz.own started (by kernel_rfl) Tryz.func3
    (witness_row_shaped (enc := enc) (C := Tryz.checked) (World.laidAll Tryz.prog os Rows.namesPartsRow.laid) witArgs (World.laidAll_os _ _ _) (World.shaped_of_ZipB (by kernel_rfl) (by kernel_rfl)) (by kernel_rfl)
      (OpenSpec.preRow_of_cond 8 hx (by kernel_rfl) (fun k hk => by cases hk) (by kernel_rfl) (by rw [MakeChecks.laidMetH_plain _ _ _ (by kernel_rfl)]; exact laidMet_laidAll _ (by kernel_rfl) (by kernel_rfl)))) ?_
  intro W base args ds gs before hval hW _ _ hsz hL _ _
  exact contract H enc W base args ds gs before hval hW hsz hL

theorem said : Rows.NamesPartsSaid :=
  OpenClaim.holds_of_cond 3 Tryz.f3 rfl rfl rfl rfl rfl rfl rfl ⟨rfl, rfl, rfl, rfl, rfl⟩ rfl rfl rfl rfl rfl (by kernel_rfl) Tryz.func3 (by kernel_rfl)
    (of_decide_eq_true (by kernel_rfl)) (by unfold Func.isWrapper; first | (rw [if_pos (by decide +kernel)]; kernel_rfl) | (rw [if_neg (by decide +kernel)]; exact ⟨rfl, rfl⟩))
    (fun os started H enc _ F => by rw [OpenClaim.pre_eq_preRow]; exact lifted os started H enc F)

/-- no parameter wants a stand-in; the program's own looks are on -/
theorem plain (f : FuncId) (fn : Func) (hf : Tryz.pinned.checked.prog.funcNamed "toolchest/toolchestlaw19.NamesParts" = some f) (hfn : Tryz.pinned.checked.prog.funcs[f]? = some fn) :
    true = Tryz.pinned.checked.prog.looks [] ∧ ∀ (j : Nat) t, fn.params[j]? = some t → Tryz.pinned.checked.prog.wantsStandIn t = false := by
  obtain rfl : f = 3 := Option.some.inj ((show Tryz.prog.funcNamed "toolchest/toolchestlaw19.NamesParts" = some 3 by kernel_rfl).symm.trans hf) |>.symm
  obtain rfl : fn = Tryz.f3 := (Option.some.inj (Tryz.func3.symm.trans hfn)).symm
  refine ⟨by kernel_rfl, fun j t ht => ?_⟩
  have hm : t ∈ Tryz.f3.params.toList := by simpa using Array.mem_of_getElem? ht
  have hall : (Tryz.f3.params.toList.all fun u => !Tryz.prog.wantsStandIn u) = true := by kernel_rfl
  exact (show Tryz.prog.wantsStandIn t = false by simpa using List.all_eq_true.1 hall t hm)

theorem proved : Rows.NamesPartsCardSaid :=
  Claim7.holds_tied_plain_at .later [] _ _ _ _ said (fun _ h => by cases h) (by kernel_rfl) (fun _ h => by cases h) namesParts_row_tie rfl ⟨rfl, rfl⟩ (by kernel_rfl) rfl plain (by kernel_rfl)
#print axioms proved
end Go.Proofs.YtobapajmplfeiaaGreatDoor.namesParts
end
