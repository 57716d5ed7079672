/-
  Parts that the claims share: What Dir and Base make of a path, on lists of bytes; put together and parted again they are the same. Of no program; Walks over names.Dir and Base; Walks over strings.Builder's WriteString and String, telling which blocks they turn; What a type assertion on an open thing gives. Written by wip/tools/asserts.py; What can be open, in memory; walks over taken and left. Written by wip/tools/things.py; Walks over set, Put, Close; Walks over Source, Pipe, Table; Small laws for walks over Read and Write of a table; Walks over Sink, Said, land and Write at a sink; Walks over slices.Clone at faults, New.
-/
import Derived.Lib.TrimByte
import Derived.Lib.LastIndexByte
import Derived.Test.YtobapajmplfeiaaGreatDoorQ02
import Derived.Test.YtobapajmplfeiaaGreatDoorChecked
import Derived.WalkKit
import Derived.WalkSpells
import Derived.WalkLawsBesides
import Derived.Lib.Hide
import Derived.IntWalk
import Derived.Handy
import Derived.Laws.IdiomStrings
import Derived.Test.YtobapajmplfeiaaGreatDoorQ01
import Derived.Lib.Builder
import Derived.Lib.AppendStr
import Derived.Lib.UnsafeStr
import Derived.Laws.Externs
import Derived.Shelf.RegionOpenPlain
import Derived.Laws.LoneSync
import Derived.Deep.RegionWith
import Derived.StillTailTactics
import Derived.Deep.RegionLaw
import Derived.BigRegion
import Derived.Deep.DrawnRows

section
namespace Go.Proofs.YtobapajmplfeiaaGreatDoor.Pl

def cut (l : List UInt8) : List UInt8 := Lib.trimRightB l 47
def lastI (l : List UInt8) : Int := Lib.lastIndexByte ⟨l.toArray⟩ 47
def dirL (l : List UInt8) : List UInt8 :=
  if l = [] then [46] else if cut l = [] then [47] else if lastI (cut l) < 0 then [46] else
    if cut ((cut l).take (lastI (cut l)).toNat) = [] then [47] else cut ((cut l).take (lastI (cut l)).toNat)
def lastPart (t : List UInt8) : List UInt8 := t.drop (lastI t + 1).toNat
def baseL (l sfx : List UInt8) : List UInt8 :=
  if l = [] then [] else if cut l = [] then [47] else if lastPart (cut l) = sfx then lastPart (cut l) else Lib.trimSuffix (lastPart (cut l)) sfx

theorem lastI_none {l : List UInt8} (h : (47 : UInt8) ∉ l) : lastI l = -1 := by
  rcases Lib.lastIndexByte_spec ⟨l.toArray⟩ 47 with ⟨e, _⟩ | ⟨i, hi, _, hc, _⟩
  · exact e
  · exfalso
    have hi' : i < l.length := by simpa [ByteArray.size] using hi
    apply h
    have : l[i] = 47 := by
      have h2 : (l[i]).toNat = 47 := by
        have := hc
        simp [hi'] at this
        omega
      exact UInt8.toNat_inj.1 h2
    exact this ▸ List.getElem_mem hi'
theorem lastI_some (a b : List UInt8) (h : (47 : UInt8) ∉ b) : lastI (a ++ 47 :: b) = a.length := by
  rcases Lib.lastIndexByte_spec ⟨(a ++ 47 :: b).toArray⟩ 47 with ⟨_, hn⟩ | ⟨i, hi, e, hc, hn⟩
  · exfalso
    have := hn a.length (by simp [ByteArray.size])
    simp at this
  · have hi' : i < (a ++ 47 :: b).length := by simpa [ByteArray.size] using hi
    have h2 : (a ++ 47 :: b)[i] = 47 := by
      have h3 : ((a ++ 47 :: b).toArray[i]!) = (a ++ 47 :: b)[i] := by rw [getElem!_pos _ i (by simpa using hi')]; simp
      rw [h3] at hc
      refine UInt8.toNat_inj.1 ?_
      show _ = 47
      omega
    have hia : ¬ i < a.length := fun hlt => by
      have := hn a.length hlt (by simp [ByteArray.size])
      simp at this
    have hib : ¬ a.length < i := fun hlt => by
      apply h
      have e3 : (a ++ 47 :: b)[i] = b[i - a.length - 1]'(by simp at hi'; omega) := by
        rw [List.getElem_append_right (by omega)]
        obtain ⟨m, hm⟩ : ∃ m, i - a.length = m + 1 := ⟨i - a.length - 1, by omega⟩
        simp only [hm, List.getElem_cons_succ, Nat.add_sub_cancel]
      rw [← h2, e3]
      exact List.getElem_mem _
    unfold lastI
    rw [e]
    omega
theorem split_last {l : List UInt8} (h : (47 : UInt8) ∈ l) : ∃ a b, l = a ++ 47 :: b ∧ (47 : UInt8) ∉ b := by
  induction l with
  | nil => cases h
  | cons c l ih =>
    by_cases hl : (47 : UInt8) ∈ l
    · obtain ⟨a, b, rfl, hb⟩ := ih hl
      exact ⟨c :: a, b, rfl, hb⟩
    · rcases List.mem_cons.1 h with e | e
      · subst e; exact ⟨[], l, rfl, hl⟩
      · exact absurd e hl
theorem lastI_lt (l : List UInt8) : lastI l < l.length ∧ -1 ≤ lastI l := by
  by_cases h : (47 : UInt8) ∈ l
  · obtain ⟨a, b, rfl, hb⟩ := split_last h
    rw [lastI_some a b hb]
    simp; omega
  · rw [lastI_none h]; omega
theorem lastPart_none {t : List UInt8} (h : (47 : UInt8) ∉ t) : lastPart t = t := by unfold lastPart; rw [lastI_none h]; rfl
theorem lastPart_some (a b : List UInt8) (h : (47 : UInt8) ∉ b) : lastPart (a ++ 47 :: b) = b := by
  unfold lastPart
  rw [lastI_some a b h, show ((a.length : Int) + 1).toNat = a.length + 1 by omega]
  rw [show a ++ 47 :: b = (a ++ [47]) ++ b by simp]
  exact List.drop_left' (by simp)

/-- what ends with no stroke stays -/
theorem cut_last (l : List UInt8) (c : UInt8) (h : c ≠ 47) : cut (l ++ [c]) = l ++ [c] := by
  unfold cut Lib.trimRightB
  rw [List.reverse_append, List.reverse_singleton, List.singleton_append, List.dropWhile_cons_of_neg (by simp [h]), List.reverse_cons, List.reverse_reverse]
theorem cut_form (l : List UInt8) : cut l = [] ∨ ∃ m c, cut l = m ++ [c] ∧ c ≠ 47 := by
  by_cases h : cut l = []
  · exact .inl h
  · refine .inr ⟨(cut l).dropLast, (cut l).getLast h, (List.dropLast_concat_getLast h).symm, ?_⟩
    have h1 : l.reverse.dropWhile (· == 47) ≠ [] := by
      intro e
      apply h
      unfold cut Lib.trimRightB
      rw [e]; rfl
    have h2 := List.head_dropWhile_not (· == (47 : UInt8)) h1
    have h3 : (cut l).getLast h = (l.reverse.dropWhile (· == 47)).head h1 := by
      simp only [cut, Lib.trimRightB, List.getLast_reverse]
    rw [h3]
    simpa using h2
theorem cut_cut (l : List UInt8) : cut (cut l) = cut l := by
  rcases cut_form l with e | ⟨m, c, e, hc⟩
  · rw [e]; rfl
  · rw [e]; exact cut_last m c hc
theorem trim_nil (b : List UInt8) : Lib.trimSuffix b [] = b := by simp [Lib.trimSuffix, Lib.hasSuffix]
theorem base_nil (l : List UInt8) : baseL l [] = if l = [] then [] else if cut l = [] then [47] else lastPart (cut l) := by
  unfold baseL
  rw [trim_nil]
  split
  · rfl
  · split
    · rfl
    · split <;> rfl
theorem of_dir (d b : List UInt8) (hb : b ≠ []) (hs : (47 : UInt8) ∉ b) : baseL (d ++ 47 :: b) [] = b ∧ dirL (d ++ 47 :: b) = if cut d = [] then [47] else cut d := by
  have hl : ∃ m c, b = m ++ [c] ∧ c ≠ 47 := ⟨b.dropLast, b.getLast hb, (List.dropLast_concat_getLast hb).symm, fun e => hs (e ▸ List.getLast_mem hb)⟩
  obtain ⟨m, c, hm, hc⟩ := hl
  have hcut : cut (d ++ 47 :: b) = d ++ 47 :: b := by
    rw [hm, show d ++ 47 :: (m ++ [c]) = (d ++ 47 :: m) ++ [c] by simp]
    exact cut_last _ c hc
  have hne : d ++ 47 :: b ≠ [] := by simp
  refine ⟨?_, ?_⟩
  · rw [base_nil, if_neg hne, hcut, if_neg hne, lastPart_some d b hs]
  · unfold dirL
    rw [if_neg hne, hcut, if_neg hne, lastI_some d b hs, if_neg (by omega), Int.toNat_natCast, List.take_left' rfl]
/-- THE LAW -/
theorem parts (l : List UInt8) (h0 : l ≠ []) (h1 : baseL l [] ≠ [47]) : baseL (dirL l ++ 47 :: baseL l []) [] = baseL l [] ∧ dirL (dirL l ++ 47 :: baseL l []) = dirL l := by
  have hb := base_nil l
  rw [if_neg h0] at hb
  by_cases hc : cut l = []
  · rw [if_pos hc] at hb; exact absurd hb h1
  rw [if_neg hc] at hb
  rcases cut_form l with e | ⟨m, c, e, hcc⟩
  · exact absurd e hc
  by_cases hs : (47 : UInt8) ∈ cut l
  · obtain ⟨a, b, hab, hnb⟩ := split_last hs
    have hbne : b ≠ [] := by
      rintro rfl
      rw [hab] at e
      have := List.append_inj' e rfl
      simp at this
      exact hcc this.2.symm
    have hbb : baseL l [] = b := by rw [hb, hab, lastPart_some a b hnb]
    have hd : dirL l = if cut a = [] then [47] else cut a := by
      unfold dirL
      rw [if_neg h0, if_neg hc, hab, lastI_some a b hnb, if_neg (by omega), Int.toNat_natCast, List.take_left' rfl]
    have hw := of_dir (dirL l) b hbne hnb
    rw [hbb]
    refine ⟨hw.1, hw.2.trans ?_⟩
    rw [hd]
    by_cases hca : cut a = []
    · rw [if_pos hca]
      rfl
    · rw [if_neg hca, cut_cut, if_neg hca]
  · have hbb : baseL l [] = cut l := by rw [hb, lastPart_none hs]
    have hd : dirL l = [46] := by
      unfold dirL
      rw [if_neg h0, if_neg hc, lastI_none hs, if_pos (by omega)]
    have hw := of_dir [46] (cut l) hc hs
    rw [hbb, hd]
    exact ⟨hw.1, hw.2⟩
theorem parts_stroke (l : List UInt8) (h : baseL l [] = [47]) : dirL l = [47] := by
  have hb := base_nil l
  rw [h] at hb
  by_cases h0 : l = []
  · rw [if_pos h0] at hb; cases hb
  rw [if_neg h0] at hb
  by_cases hc : cut l = []
  · unfold dirL; rw [if_neg h0, if_pos hc]
  · rw [if_neg hc] at hb
    exfalso
    rcases cut_form l with e | ⟨m, c, e, hcc⟩
    · exact hc e
    · by_cases hs : (47 : UInt8) ∈ cut l
      · obtain ⟨a, b, hab, hnb⟩ := split_last hs
        rw [hab, lastPart_some a b hnb] at hb
        apply hnb
        rw [← hb]
        simp
      · rw [lastPart_none hs] at hb
        apply hs
        rw [← hb]
        simp

end Go.Proofs.YtobapajmplfeiaaGreatDoor.Pl
end

section
namespace Go.Proofs.YtobapajmplfeiaaGreatDoor
open Go.RowKit

/-- a string of these bytes -/
def strB (l : List UInt8) : ByteArray := ⟨l.toArray⟩
theorem strB_toList (l : List UInt8) : (strB l).toList = l := by rw [ByteArray.toList_eq]; rfl
theorem strB_data (l : List UInt8) : (strB l).data.toList = l := rfl
theorem strB_size (l : List UInt8) : (strB l).size = l.length := by simp [strB, ByteArray.size]
theorem strB_size' (l : List UInt8) : (⟨l.toArray⟩ : ByteArray).size = l.length := strB_size l
theorem w64' (n : Int) (h : -9223372036854775808 ≤ n ∧ n ≤ 9223372036854775807) : wrap64 n = n := (IntWalk.i64_left n).symm.trans (IntWalk.i64_in n h)
theorem strB_of (s : ByteArray) : strB s.data.toList = s := rfl
theorem trimStroke (l : List UInt8) (hl : l.length < 4611686018427387904) (w : World) : Calls Tryz.prog 13 #[.string (strB l), .string ⟨#[47]⟩] w fun e w' => e = .returned (.string (strB (Pl.cut l))) ∧ w' = w :=
  Tryz.strings_TrimRight_one (strB l) 47 (by decide) w (by rw [strB_size]; omega)
theorem lastStroke (l : List UInt8) (hl : l.length < 4611686018427387904) (w : World) : Calls Tryz.prog 14 #[.string (strB l), .int .u8 47] w fun e w' => e = .returned (.int .i64 (Pl.lastI l)) ∧ w' = w :=
  Tryz.strings_LastIndexByte (strB l) 47 (by rw [strB_size]; omega) w
theorem cut_le (l : List UInt8) : (Pl.cut l).length ≤ l.length := by
  unfold Pl.cut Lib.trimRightB
  rw [List.length_reverse]
  have := (List.dropWhile_sublist (l := l.reverse) (p := (· == (47 : UInt8)))).length_le
  simpa using this
theorem isEmpty_of {l : List UInt8} (h : l = []) : l.isEmpty = true := by simp [h]
theorem isEmpty_no {l : List UInt8} (h : l ≠ []) : l.isEmpty = false := by simp [h]

set_option maxHeartbeats 1000000 in
theorem namesDir (l : List UInt8) (hl : l.length < 4611686018427387904) (w : World) :
    Calls Tryz.prog 7 #[.string (strB l)] w fun e w' => e = .returned (.string (strB (Pl.dirL l))) ∧ w' = w := by
  have hd : Pl.dirL l = if l = [] then [46] else if Pl.cut l = [] then [47] else if Pl.lastI (Pl.cut l) < 0 then [46] else if Pl.cut ((Pl.cut l).take (Pl.lastI (Pl.cut l)).toNat) = [] then [47] else Pl.cut ((Pl.cut l).take (Pl.lastI (Pl.cut l)).toNat) := rfl
  have htr := fun W => trimStroke l hl W
  obtain ⟨T, hT⟩ : ∃ T, Pl.cut l = T := ⟨_, rfl⟩
  have hTl : T.length < 4611686018427387904 := by have := cut_le l; rw [hT] at this; omega
  rw [hT] at hd htr
  have hli := fun W => lastStroke T hTl W
  have hib := Pl.lastI_lt T
  obtain ⟨i, hi⟩ : ∃ i, Pl.lastI T = i := ⟨_, rfl⟩
  rw [hi] at hd hli hib
  have e1 : (strB l).toList.isEmpty = l.isEmpty := by rw [strB_toList]
  have e2 : (strB T).toList.isEmpty = T.isEmpty := by rw [strB_toList]
  by_cases h0 : l = []
  · have e0 : (strB l).toList.isEmpty = true := e1.trans (isEmpty_of h0)
    rw [if_pos h0] at hd
    have HD := Lib.hid hd
    clear hd e1 e2 hT hi h0
    go_enter Tryz.func7, Tryz.ntmps7
    go_wp2_with (go_at_call 13; refine (htr _).mono ?_; rintro e w1 ⟨rfl, rfl⟩)
    go_ret
    exact ⟨by rw [HD.out]; rfl, rfl⟩
  have e0 : (strB l).toList.isEmpty = false := e1.trans (isEmpty_no h0)
  rw [if_neg h0] at hd
  by_cases h1 : T = []
  · have e3 : (strB T).toList.isEmpty = true := e2.trans (isEmpty_of h1)
    rw [if_pos h1] at hd
    have HD := Lib.hid hd
    clear hd e1 e2 hT hi h0 h1
    go_enter Tryz.func7, Tryz.ntmps7
    go_wp2_with (go_at_call 13; refine (htr _).mono ?_; rintro e w1 ⟨rfl, rfl⟩)
    go_ret
    exact ⟨by rw [HD.out]; rfl, rfl⟩
  have e3 : (strB T).toList.isEmpty = false := e2.trans (isEmpty_no h1)
  rw [if_neg h1] at hd
  by_cases h2 : i < 0
  · rw [if_pos h2] at hd
    have HD := Lib.hid hd
    clear hd e1 e2 hT hi h0 h1
    go_enter Tryz.func7, Tryz.ntmps7
    go_wp2_with (first | (go_at_call 13; refine (htr _).mono ?_; rintro e w1 ⟨rfl, rfl⟩) | (go_at_call 14; refine (hli _).mono ?_; rintro e w1 ⟨rfl, rfl⟩))
    go_ret
    exact ⟨by rw [HD.out]; rfl, rfl⟩
  rw [if_neg h2] at hd
  obtain ⟨k, rfl⟩ : ∃ k : Nat, i = (k : Int) := ⟨i.toNat, by omega⟩
  rw [Int.toNat_natCast] at hd
  have htr2 := fun W => trimStroke (T.take k) (by rw [List.length_take]; omega) W
  obtain ⟨U, hU⟩ : ∃ U, Pl.cut (T.take k) = U := ⟨_, rfl⟩
  rw [hU] at hd htr2
  have e4 : (strB U).toList.isEmpty = U.isEmpty := by rw [strB_toList]
  have hkT : (k : Int) ≤ T.length := by omega
  have hsz : (strB T).size = T.length := strB_size T
  have hex : (strB T).extract 0 k = strB (T.take k) := by rw [strB, Lib.extract_mk]; rfl
  have H0 := Lib.hid h0
  have H1 := Lib.hid h1
  have HD := Lib.hid hd
  clear hd e1 e2 hT hi h0 h1 hU
  by_cases h3 : U = []
  · have e5 : (strB U).toList.isEmpty = true := e4.trans (isEmpty_of h3)
    have H3 := Lib.hid h3
    clear h3 e4
    go_enter Tryz.func7, Tryz.ntmps7
    go_wp2_with (first | (go_at_call 14; refine (hli _).mono ?_; rintro e w1 ⟨rfl, rfl⟩) | (go_at_call 13; first | (with_reducible refine (htr _).mono ?_; rintro e w1 ⟨rfl, rfl⟩) | (with_reducible refine (htr2 _).mono ?_; rintro e w1 ⟨rfl, rfl⟩)))
    go_ret
    exact ⟨by rw [HD.out, if_pos H3.out]; rfl, rfl⟩
  · have e5 : (strB U).toList.isEmpty = false := e4.trans (isEmpty_no h3)
    have H3 := Lib.hid h3
    clear h3 e4
    go_enter Tryz.func7, Tryz.ntmps7
    go_wp2_with (first | (go_at_call 14; refine (hli _).mono ?_; rintro e w1 ⟨rfl, rfl⟩) | (go_at_call 13; first | (with_reducible refine (htr _).mono ?_; rintro e w1 ⟨rfl, rfl⟩) | (with_reducible refine (htr2 _).mono ?_; rintro e w1 ⟨rfl, rfl⟩)))
    go_ret
    exact ⟨by rw [HD.out, if_neg H3.out]; rfl, rfl⟩

theorem trimSfx (l sfx : List UInt8) (hl : l.length < 4611686018427387904) (w : World) : Calls Tryz.prog 15 #[.string (strB l), .string (strB sfx)] w fun e w' => e = .returned (.string (strB (Lib.trimSuffix l sfx))) ∧ w' = w :=
  Tryz.strings_TrimSuffix (strB l) (strB sfx) w (by rw [strB_size]; omega)
theorem strB_inj {a b : List UInt8} : strB a = strB b ↔ a = b := ⟨fun h => by simpa [strB_data] using congrArg (fun x : ByteArray => x.data.toList) h, fun h => by rw [h]⟩

set_option maxRecDepth 100000 in
set_option maxHeartbeats 1000000 in
theorem namesBase (l sfx : List UInt8) (hl : l.length < 4611686018427387904) (w : World) :
    Calls Tryz.prog 8 #[.string (strB l), .string (strB sfx)] w fun e w' => e = .returned (.string (strB (Pl.baseL l sfx))) ∧ w' = w := by
  have hd : Pl.baseL l sfx = if l = [] then [] else if Pl.cut l = [] then [47] else if Pl.lastPart (Pl.cut l) = sfx then Pl.lastPart (Pl.cut l) else Lib.trimSuffix (Pl.lastPart (Pl.cut l)) sfx := rfl
  have htr := fun W => trimStroke l hl W
  obtain ⟨T, hT⟩ : ∃ T, Pl.cut l = T := ⟨_, rfl⟩
  have hTl : T.length < 4611686018427387904 := by have := cut_le l; rw [hT] at this; omega
  rw [hT] at hd htr
  have hli := fun W => lastStroke T hTl W
  have hib := Pl.lastI_lt T
  have hlp : Pl.lastPart T = T.drop (Pl.lastI T + 1).toNat := rfl
  obtain ⟨i, hi⟩ : ∃ i, Pl.lastI T = i := ⟨_, rfl⟩
  rw [hi] at hlp hli hib
  have e1 : (strB l).toList.isEmpty = l.isEmpty := by rw [strB_toList]
  have e2 : (strB T).toList.isEmpty = T.isEmpty := by rw [strB_toList]
  by_cases h0 : l = []
  · have e0 : (strB l).toList.isEmpty = true := e1.trans (isEmpty_of h0)
    rw [if_pos h0] at hd
    have HD := Lib.hid hd
    clear hd e1 e2 hT hi h0 hlp
    go_enter Tryz.func8, Tryz.ntmps8
    go_wp2_with (go_at_call 13; refine (htr _).mono ?_; rintro e w1 ⟨rfl, rfl⟩)
    go_ret
    exact ⟨by rw [HD.out]; rfl, rfl⟩
  have e0 : (strB l).toList.isEmpty = false := e1.trans (isEmpty_no h0)
  rw [if_neg h0] at hd
  by_cases h1 : T = []
  · have e3 : (strB T).toList.isEmpty = true := e2.trans (isEmpty_of h1)
    rw [if_pos h1] at hd
    have HD := Lib.hid hd
    clear hd e1 e2 hT hi h0 h1 hlp
    go_enter Tryz.func8, Tryz.ntmps8
    go_wp2_with (go_at_call 13; refine (htr _).mono ?_; rintro e w1 ⟨rfl, rfl⟩)
    go_ret
    exact ⟨by rw [HD.out]; rfl, rfl⟩
  have e3 : (strB T).toList.isEmpty = false := e2.trans (isEmpty_no h1)
  rw [if_neg h1] at hd
  obtain ⟨k, hk⟩ : ∃ k : Nat, i + 1 = (k : Int) := ⟨(i + 1).toNat, by omega⟩
  have hkT : (k : Int) ≤ T.length := by omega
  rw [hk, Int.toNat_natCast] at hlp
  obtain rfl : i = (k : Int) - 1 := by omega
  have hb0 : (-1 : Int) ≤ (k : Int) - 1 := by omega
  have hb1 : (k : Int) - 1 < (T.length : Int) := by omega
  have hsz : (strB T).size = T.length := strB_size T
  have hex : (strB T).extract k T.length = strB (T.drop k) := by
    rw [show strB T = ⟨T.toArray⟩ from rfl, Lib.extract_mk, List.take_of_length_le (by rw [List.length_drop]; exact Nat.le_refl _)]
    rfl
  obtain ⟨b, hb⟩ : ∃ b, T.drop k = b := ⟨_, rfl⟩
  have hbl : b.length < 4611686018427387904 := by rw [← hb, List.length_drop]; omega
  rw [hb] at hlp hex
  rw [hlp] at hd
  have hts := fun W => trimSfx b sfx hbl W
  obtain ⟨U, hU⟩ : ∃ U, Lib.trimSuffix b sfx = U := ⟨_, rfl⟩
  rw [hU] at hd hts
  have HD := Lib.hid hd
  have HB := Lib.hid hb
  clear hd e1 e2 hT hi h0 h1 hU hlp hb hk hib
  by_cases hbs : b = sfx
  · have hq : ((strB b).toList == (strB sfx).toList) = true := by rw [hbs]; simp
    have HBS := Lib.hid hbs
    clear hbs
    go_enter Tryz.func8, Tryz.ntmps8
    go_wp2_with (first | (go_at_call 14; refine (hli _).mono ?_; rintro e w1 ⟨rfl, rfl⟩) | (go_at_call 13; refine (htr _).mono ?_; rintro e w1 ⟨rfl, rfl⟩) | (go_at_call 15; refine (hts _).mono ?_; rintro e w1 ⟨rfl, rfl⟩))
    go_ret
    exact ⟨by rw [HD.out, if_pos HBS.out]; rfl, rfl⟩
  · have hq : ((strB b).toList == (strB sfx).toList) = false := by rw [strB_toList, strB_toList]; simpa using hbs
    have HBS := Lib.hid hbs
    clear hbs
    go_enter Tryz.func8, Tryz.ntmps8
    go_wp2_with (first | (go_at_call 14; refine (hli _).mono ?_; rintro e w1 ⟨rfl, rfl⟩) | (go_at_call 13; refine (htr _).mono ?_; rintro e w1 ⟨rfl, rfl⟩) | (go_at_call 15; refine (hts _).mono ?_; rintro e w1 ⟨rfl, rfl⟩))
    go_ret
    exact ⟨by rw [HD.out, if_neg HBS.out]; rfl, rfl⟩

end Go.Proofs.YtobapajmplfeiaaGreatDoor
end

section
namespace Go.Proofs.YtobapajmplfeiaaGreatDoor
open Go.RowKit Go.Maps

/-- a string appended to a row: its block stays, or is the next new one -/
theorem run_append_str {P : Program} (w : World) (base : Nat) (t u ty e : TypeId) (i : TypeInfo) (ht : P.underlying t = some (.slice e)) (hu : P.underlying u = some .string) (hi : P.info? e = some i) (hz : i.zero = some (.int .u8 0)) (hsize : i.size = 1) (hby : i.bytes = 1)
    (v : Value) (n : Nat) (xs : List Value) (hown : w.ownsRow base e 1 v n xs) (s : ByteArray) (h63 : n + s.size ≤ maxLen) (hbytes : n + s.size ≤ 140737488355328) (hbase : base ≤ w.heap.size) :
    ∃ v' w', (Builtin.append_ #[t, u] ty #[v, .string s]).run P w = .ok v' w' ∧ w'.ownsRow base e 1 v' (n + s.size) (xs ++ Lib.strCells s) ∧ w.grownBy w' v.ownBlock ∧ (v'.ownBlock = v.ownBlock ∨ v'.ownBlock = some w.heap.size) := by
  obtain ⟨v', w', hrun, h2, h3, h4⟩ := Lib.run_append_own_string (P := P) w base t u ty e i ht hu hi hz hsize hby v n xs hown s h63 hbytes hbase
  refine ⟨v', w', hrun, h2, h3, ?_⟩
  have h63' : n + s.size ≤ 9223372036854775807 := h63
  rcases hown.2 with ⟨rfl, rfl⟩ | ⟨g, cap, cur, rfl, hbg, hg, hnc, hcm, hcs, htake⟩
  · by_cases hm : s.size = 0
    · rw [h4.2 ⟨rfl, hm⟩]; exact .inl rfl
    · have hr := run_append_nil_string (P := P) w t u ty e i (.int .u8 0) ht hu hi hz s (by omega) (by omega) (by rw [hby]; omega)
      rw [hr] at hrun
      injection hrun with hv _
      rw [← hv]
      exact .inr rfl
  · by_cases hroom : n + s.size ≤ cap
    · have hr := Lib.run_append_room_string (P := P) w t u ty e i ht hu hi hsize g n cap cur hg s hroom (by omega)
      rw [hr] at hrun
      injection hrun with hv _
      rw [← hv]
      exact .inl rfl
    · have holds : ∀ j u, xs[j]? = some u → w.cell? ((⟨g, 0, none⟩ : Addr).add j) = some u := hown.cells (g := g) rfl
      have hxl : xs.length = n := by simpa using hown.1
      have hr := Lib.run_append_grow_string (P := P) w t u ty e i (.int .u8 0) ht hu hi hz ⟨g, 0, none⟩ n cap xs (by rw [hsize]; simpa using hxl) holds s (by omega) (by omega) (by rw [hby]; exact growslice_fits (by omega) (by omega))
      rw [hr] at hrun
      injection hrun with hv _
      rw [← hv]
      exact .inr rfl
theorem wpList_append_str {P : Program} (w : World) {ops : Array Oper} {rest : List Oper} {o : Oper} {a : Act} {Q : Exit → Act → World → Prop} (hgd : o.guard = none) (sl x : Operand) (t u : TypeId)
    (ho : o.op = .call { callee := .builtin .append, args := #[sl, x], argTypes := #[t, u] })
    (base : Nat) (e : TypeId) (i : TypeInfo) (ht : P.underlying t = some (.slice e)) (hu : P.underlying u = some .string) (hi : P.info? e = some i) (hz : i.zero = some (.int .u8 0)) (hsize : i.size = 1) (hby : i.bytes = 1)
    (v : Value) (n : Nat) (xs : List Value) (hs : a.eval sl = v) (hown : w.ownsRow base e 1 v n xs) (s : ByteArray) (hx : a.eval x = .string s)
    (h63 : n + s.size ≤ maxLen) (hbytes : n + s.size ≤ 140737488355328) (hbase : base ≤ w.heap.size)
    (h : ∀ v' w', w'.ownsRow base e 1 v' (n + s.size) (xs ++ Lib.strCells s) → w.grownBy w' v.ownBlock → (v'.ownBlock = v.ownBlock ∨ v'.ownBlock = some w.heap.size) → wpList P ops Q rest (a.put o.dst v') w') : wpList P ops Q (o :: rest) a w := by
  refine wpList_plain hgd fun K hK => ?_
  obtain ⟨v', w', hr, h2, h3, h4⟩ := run_append_str (P := P) w base t u o.type e i ht hu hi hz hsize hby v n xs hown s h63 hbytes hbase
  unfold Oper.wp execOp
  simp only [ho, resolve, invoke, builtin, Sem.run_bind, Sem.run_pure, Result.andThen_ok, List.map_toArray, List.map_cons, List.map_nil, hs, hx, hr]
  exact hK _ _ (h v' w' h2 h3 h4)

/-- a builder in a block of its own: what it holds, in which row -/
structure Bld (W : World) (b : Nat) (v : Value) (bs : List UInt8) : Prop where
  blk : Blk W b 167 #[.pointer none, v] ∨ Blk W b 167 #[.pointer (some ⟨b, 0, none⟩), v]
  row : W.ownsRow 0 5 1 v bs.length (bytesC bs)
theorem Bld.lt {W : World} {b : Nat} {v : Value} {bs : List UInt8} (h : Bld W b v bs) : b < W.heap.size := by
  rcases h.blk with h | h <;> exact h.lt
theorem Bld.ne {W : World} {b : Nat} {v : Value} {bs : List UInt8} (h : Bld W b v bs) : v.ownBlock ≠ some b := by
  rcases h.blk with k | k <;> exact own_blk_ne h.row k (by decide)
theorem Bld.row_lt {W : World} {b g : Nat} {v : Value} {bs : List UInt8} (h : Bld W b v bs) (hg : v.ownBlock = some g) : g < W.heap.size := (h.row.lt g hg).2
theorem Bld.same {W W' : World} {b : Nat} {v : Value} {bs : List UInt8} (h : Bld W b v bs) (hb : W'.heap[b]? = W.heap[b]?) (hr : ∀ g, v.ownBlock = some g → W'.heap[g]? = W.heap[g]?) : Bld W' b v bs :=
  ⟨h.blk.imp (fun k => hb.trans k) (fun k => hb.trans k), ownsRow_same h.row hr⟩

set_option maxHeartbeats 1000000 in
set_option maxRecDepth 100000 in
theorem copyCheck_used (b : Nat) (w : World) (h0 : w.cell? ⟨b, 0, none⟩ = some (.pointer (some ⟨b, 0, none⟩))) :
    Calls Tryz.prog 120 #[.pointer (some ⟨b, 0, none⟩)] w fun e w' => e = .returned (.tuple #[]) ∧ w' = w := by
  obtain ⟨j, hj, _⟩ := Option.map_eq_some_iff.1 (show (Tryz.prog.info? 167).map (·.size) = some 2 by kernel_rfl)
  go_enter Tryz.func120, Tryz.ntmps120
  go_wp2
  rw [Lib.run_neq_ptr_same w _ Tryz.underlying165 hj]
  go_wp2
  go_end0
  exact ⟨rfl, rfl⟩

set_option maxHeartbeats 1000000 in
set_option maxRecDepth 100000 in
theorem copyCheck_fresh (b : Nat) (w : World) (v : Value) (hb : Blk w b 167 #[.pointer none, v]) :
    Calls Tryz.prog 120 #[.pointer (some ⟨b, 0, none⟩)] w fun e w' => e = .returned (.tuple #[]) ∧ w' = w.setCell ⟨b, 0, none⟩ (.pointer (some ⟨b, 0, none⟩)) := by
  obtain ⟨j, hj, hjs⟩ := Option.map_eq_some_iff.1 (show (Tryz.prog.info? 167).map (·.size) = some 2 by kernel_rfl)
  have h0 : w.cell? ⟨b, 0, none⟩ = some (.pointer none) := hb.cell 0
  have hfz : w.frozen? ⟨b, 0, none⟩ = false := hb.frozen 0
  have hsh : w.shape? b = some (167, 2) := by unfold World.shape?; rw [hb]; rfl
  have hlies : liesAt Tryz.prog Tryz.prog.depth 167 (2 / Tryz.prog.cellsOf 167) 0 167 1 = true := by kernel_rfl
  go_enter Tryz.func120, Tryz.ntmps120
  go_wp2
  rw [Lib.run_to_unsafe w ⟨b, 0, none⟩ Tryz.underlying165 Tryz.underlying259 hj (by rw [hjs]; decide) hsh (Nat.zero_lt_succ 1)]
  simp only [Result.andThen]
  rw [Oper.upon_value]
  go_wp2
  rw [run_callFunc_extern Tryz.func156 (by kernel_rfl) (by kernel_rfl) (by kernel_rfl) (e := Extern.AbiNoEscape.same) (by kernel_rfl)]
  rw [Lib.run_noEscape]
  simp only [Result.andThen]
  rw [Oper.upon_value]
  go_wp2
  rw [Lib.run_from_unsafe w ⟨b, 0, none⟩ Tryz.underlying259 Tryz.underlying165 hj hsh hlies]
  simp only [Result.andThen]
  rw [Oper.upon_value]
  go_wp2
  go_end0
  exact ⟨rfl, rfl⟩

theorem turns_set {w : World} {b : Nat} {S : List Nat} (hb : b ∈ S) (i : Nat) (u : Value) : Turns S w (w.setCell ⟨b, i, none⟩ u) := (Turns.refl S w).setCell _ _ fun _ => hb

set_option maxHeartbeats 1000000 in
set_option maxRecDepth 100000 in
theorem buildString (w : World) (b : Nat) (v : Value) (bs : List UInt8) (s : ByteArray) (h : Bld w b v bs) (hlen : bs.length + s.size ≤ 140737488355328) :
    Calls Tryz.prog 81 #[.pointer (some ⟨b, 0, none⟩), .string s] w fun e w' => e = .returned (.tuple #[.int .i64 s.size, .nilIface]) ∧ ∃ v', Bld w' b v' (bs ++ s.data.toList) ∧ Turns (b :: v.ownBlock.toList) w w' ∧ (v'.ownBlock = v.ownBlock ∨ ∃ g, v'.ownBlock = some g ∧ w.heap.size ≤ g) := by
  have hcheck : Calls Tryz.prog 120 #[.pointer (some ⟨b, 0, none⟩)] w fun e w' => e = .returned (.tuple #[]) ∧ Blk w' b 167 #[.pointer (some ⟨b, 0, none⟩), v] ∧ Turns [b] w w' ∧ w'.heap.size = w.heap.size := by
    rcases h.blk with k | k
    · refine (copyCheck_fresh b w v k).mono ?_
      rintro e w' ⟨rfl, rfl⟩
      exact ⟨rfl, k.set_ 0 _, turns_set (by simp) _ _, by simp [World.setCell]⟩
    · refine (copyCheck_used b w (k.cell 0)).mono ?_
      rintro e w' ⟨rfl, rfl⟩
      exact ⟨rfl, k, Turns.refl _ _, rfl⟩
  obtain ⟨iB, hiB, hB0, hB1, hB2⟩ := info_parts (show (Tryz.prog.info? 5).map (fun i => (i.zero, i.size, i.bytes)) = some (some (.int .u8 0), 1, 1) by kernel_rfl)
  have HI := Lib.hid hiB
  have H0 := Lib.hid hB0
  have H1 := Lib.hid hB1
  have H2 := Lib.hid hB2
  have HR := Lib.hid h.row
  have hne := h.ne
  have HL := Lib.hid hlen
  clear hiB hB0 hB1 hB2 hlen
  go_enter Tryz.func81, Tryz.ntmps81
  go_wp2_with (first
    | (go_at_call 120; refine hcheck.mono ?_; rintro e w1 ⟨rfl, hk1, hT1, hs1⟩
       have c1 : w1.cell? ⟨b, 1, none⟩ = some v := hk1.cell 1
       have hown1 : w1.ownsRow 0 5 1 v bs.length (bytesC bs) := ownsRow_same HR.out (fun g hg => hT1.block g (HR.out.lt g hg).2 (fun hm => hne (by rw [hg, List.mem_singleton.1 hm]))))
    | (at_builtin; refine wpList_append_str _ rfl _ _ 27 9 rfl 0 5 iB Tryz.underlying27 Tryz.underlying9 HI.out H0.out H1.out H2.out v bs.length (bytesC bs) rfl hown1 s rfl (by have := HL.out; simp only [maxLen]; omega) HL.out (Nat.zero_le _) ?_; intro v2 w2 hown2 hg2 hv2
       have hk2 := hk1.grown hg2 (fun e => hne e.symm)
       have f1 : w2.frozen? ⟨b, 1, none⟩ = false := hk2.frozen 1
       have d1 : w2.cell? ⟨b, 1, none⟩ = some v := hk2.cell 1
       obtain ⟨A2, cp2, rfl, hc2⟩ := own_slice hown2))
  go_ret2
  have hlt1 := hk1.lt
  have hT2 : Turns (b :: v.ownBlock.toList) w w2 := (hT1.more (by simp)).grown hg2 (fun k hk _ => by simp [hk])
  refine ⟨rfl, .slice A2 (bs.length + s.size) cp2, ⟨.inr (hk2.set_ 1 _), ?_⟩, hT2.setCell _ _ (fun _ => by simp), ?_⟩
  · rw [List.length_append, bytesC_append]
    refine ownsRow_same hown2 fun g hg => Below.heap_setCell _ _ _ _ ?_
    rintro rfl
    exact own_blk_ne hown2 hk2 (by decide) hg
  · rcases hv2 with e | e
    · exact .inl e
    · exact .inr ⟨_, e, by omega⟩

theorem freeze_other (w : World) (g n k : Nat) (h : k ≠ g) : (w.freeze ⟨g, 0, none⟩ n).heap[k]? = w.heap[k]? := by
  unfold World.freeze
  split
  · rfl
  · simp only [Array.getElem?_modify]
    rw [if_neg (fun e => h e.symm)]
set_option maxHeartbeats 1000000 in
set_option maxRecDepth 100000 in
/-- what a builder of at least one byte says -/
theorem buildSaid (w : World) (b : Nat) (v : Value) (l : List UInt8) (h : Bld w b v l) (h0 : l ≠ []) :
    Calls Tryz.prog 87 #[.pointer (some ⟨b, 0, none⟩)] w fun e w' => e = .returned (.string (strB l)) ∧ Turns v.ownBlock.toList w w' := by
  obtain ⟨p, hbk⟩ : ∃ p, Blk w b 167 #[p, v] := by
    rcases h.blk with k | k
    · exact ⟨_, k⟩
    · exact ⟨_, k⟩
  have hl0 : l.length ≠ 0 := by simpa using h0
  have hown := h.row
  obtain ⟨g, cap, cur, rfl, hg, hnc, hcm, hcs, htake⟩ : ∃ g cap cur, v = .slice (some ⟨g, 0, none⟩) l.length cap ∧ w.heap[g]? = some (.cells cur 5 (0, 0)) ∧ l.length ≤ cap ∧ cap ≤ maxLen ∧ cur.size = cap * 1 ∧ cur.toList.take (l.length * 1) = bytesC l := by
    rcases hown.2 with ⟨_, hz⟩ | ⟨g, cap, cur, hv, _, r⟩
    · exact absurd hz hl0
    · exact ⟨g, cap, cur, hv, r⟩
  have c1 : w.drew.cell? ⟨b, 1, none⟩ = some (.slice (some ⟨g, 0, none⟩) l.length cap) := hbk.cell 1
  have hSD : (Builtin.unsafeSliceData_ #[27] 220 #[.slice (some ⟨g, 0, none⟩) l.length cap]).run Tryz.prog w.drew = .ok (.pointer (some ⟨g, 0, none⟩)) w.drew :=
    Lib.run_unsafeSliceData_row _ _ _ _ _ _ (by omega)
  have hUS : (Builtin.unsafeString_ #[220, 3] 9 #[.pointer (some ⟨g, 0, none⟩), .int .i64 l.length]).run Tryz.prog w.drew = .ok (.string (strB l)) (w.drew.freeze ⟨g, 0, none⟩ l.length) := by
    refine Lib.run_unsafeString_row w.drew 220 3 9 5 Tryz.underlying220 (by kernel_rfl) g cur.size (by have hg' : w.drew.heap[g]? = some (.cells cur 5 (0, 0)) := hg; simp [World.shape?, hg']) l h0 (by omega) (by unfold maxLen at hcm; omega) ?_
    intro j x hx
    have := hown.cells (g := g) rfl j (.int .u8 x.toNat) (by simp [bytesC, hx])
    exact this
  clear hown hg hnc hcm hcs htake h hl0 h0
  go_enter Tryz.func87, Tryz.ntmps87
  go_wp2
  go_region
  all_goals
    go_wp2
    go_ret
    have hbf := Lib.below_freeze (Below.drew (Below.refl g w)) (p := ⟨g, 0, none⟩) (Nat.le_refl _) l.length
    refine ⟨rfl, ⟨hbf.os, hbf.tape, hbf.output, hbf.size, fun k hk hn => ?_⟩⟩
    simp only [Value.ownBlock, Option.toList, List.mem_singleton] at hn
    exact freeze_other w.drew g l.length k hn

end Go.Proofs.YtobapajmplfeiaaGreatDoor
end

section
namespace Go.Proofs.YtobapajmplfeiaaGreatDoor
@[go_sem] theorem as_out_out (v : Value) (w : World) : (Instr.typeAssert (.iface 234 v) 119 234 true).run Tryz.prog w = .ok (.tuple #[v, .bool true]) w := by kernel_rfl
@[go_sem] theorem as_out_in (v : Value) (w : World) : (Instr.typeAssert (.iface 234 v) 119 237 true).run Tryz.prog w = .ok (.tuple #[.agg #[.pointer none], .bool false]) w := by kernel_rfl
@[go_sem] theorem as_out_file (v : Value) (w : World) : (Instr.typeAssert (.iface 234 v) 119 124 true).run Tryz.prog w = .ok (.tuple #[.pointer none, .bool false]) w := by kernel_rfl
@[go_sem] theorem as_out_sink (v : Value) (w : World) : (Instr.typeAssert (.iface 234 v) 119 134 true).run Tryz.prog w = .ok (.tuple #[.pointer none, .bool false]) w := by kernel_rfl
@[go_sem] theorem as_out_source (v : Value) (w : World) : (Instr.typeAssert (.iface 234 v) 119 130 true).run Tryz.prog w = .ok (.tuple #[.pointer none, .bool false]) w := by kernel_rfl
@[go_sem] theorem as_in_out (v : Value) (w : World) : (Instr.typeAssert (.iface 237 v) 119 234 true).run Tryz.prog w = .ok (.tuple #[.agg #[.pointer none], .bool false]) w := by kernel_rfl
@[go_sem] theorem as_in_in (v : Value) (w : World) : (Instr.typeAssert (.iface 237 v) 119 237 true).run Tryz.prog w = .ok (.tuple #[v, .bool true]) w := by kernel_rfl
@[go_sem] theorem as_in_file (v : Value) (w : World) : (Instr.typeAssert (.iface 237 v) 119 124 true).run Tryz.prog w = .ok (.tuple #[.pointer none, .bool false]) w := by kernel_rfl
@[go_sem] theorem as_in_sink (v : Value) (w : World) : (Instr.typeAssert (.iface 237 v) 119 134 true).run Tryz.prog w = .ok (.tuple #[.pointer none, .bool false]) w := by kernel_rfl
@[go_sem] theorem as_in_source (v : Value) (w : World) : (Instr.typeAssert (.iface 237 v) 119 130 true).run Tryz.prog w = .ok (.tuple #[.pointer none, .bool false]) w := by kernel_rfl
@[go_sem] theorem as_file_out (v : Value) (w : World) : (Instr.typeAssert (.iface 124 v) 119 234 true).run Tryz.prog w = .ok (.tuple #[.agg #[.pointer none], .bool false]) w := by kernel_rfl
@[go_sem] theorem as_file_in (v : Value) (w : World) : (Instr.typeAssert (.iface 124 v) 119 237 true).run Tryz.prog w = .ok (.tuple #[.agg #[.pointer none], .bool false]) w := by kernel_rfl
@[go_sem] theorem as_file_file (v : Value) (w : World) : (Instr.typeAssert (.iface 124 v) 119 124 true).run Tryz.prog w = .ok (.tuple #[v, .bool true]) w := by kernel_rfl
@[go_sem] theorem as_file_sink (v : Value) (w : World) : (Instr.typeAssert (.iface 124 v) 119 134 true).run Tryz.prog w = .ok (.tuple #[.pointer none, .bool false]) w := by kernel_rfl
@[go_sem] theorem as_file_source (v : Value) (w : World) : (Instr.typeAssert (.iface 124 v) 119 130 true).run Tryz.prog w = .ok (.tuple #[.pointer none, .bool false]) w := by kernel_rfl
@[go_sem] theorem as_sink_out (v : Value) (w : World) : (Instr.typeAssert (.iface 134 v) 119 234 true).run Tryz.prog w = .ok (.tuple #[.agg #[.pointer none], .bool false]) w := by kernel_rfl
@[go_sem] theorem as_sink_in (v : Value) (w : World) : (Instr.typeAssert (.iface 134 v) 119 237 true).run Tryz.prog w = .ok (.tuple #[.agg #[.pointer none], .bool false]) w := by kernel_rfl
@[go_sem] theorem as_sink_file (v : Value) (w : World) : (Instr.typeAssert (.iface 134 v) 119 124 true).run Tryz.prog w = .ok (.tuple #[.pointer none, .bool false]) w := by kernel_rfl
@[go_sem] theorem as_sink_sink (v : Value) (w : World) : (Instr.typeAssert (.iface 134 v) 119 134 true).run Tryz.prog w = .ok (.tuple #[v, .bool true]) w := by kernel_rfl
@[go_sem] theorem as_sink_source (v : Value) (w : World) : (Instr.typeAssert (.iface 134 v) 119 130 true).run Tryz.prog w = .ok (.tuple #[.pointer none, .bool false]) w := by kernel_rfl
@[go_sem] theorem as_source_out (v : Value) (w : World) : (Instr.typeAssert (.iface 130 v) 119 234 true).run Tryz.prog w = .ok (.tuple #[.agg #[.pointer none], .bool false]) w := by kernel_rfl
@[go_sem] theorem as_source_in (v : Value) (w : World) : (Instr.typeAssert (.iface 130 v) 119 237 true).run Tryz.prog w = .ok (.tuple #[.agg #[.pointer none], .bool false]) w := by kernel_rfl
@[go_sem] theorem as_source_file (v : Value) (w : World) : (Instr.typeAssert (.iface 130 v) 119 124 true).run Tryz.prog w = .ok (.tuple #[.pointer none, .bool false]) w := by kernel_rfl
@[go_sem] theorem as_source_sink (v : Value) (w : World) : (Instr.typeAssert (.iface 130 v) 119 134 true).run Tryz.prog w = .ok (.tuple #[.pointer none, .bool false]) w := by kernel_rfl
@[go_sem] theorem as_source_source (v : Value) (w : World) : (Instr.typeAssert (.iface 130 v) 119 130 true).run Tryz.prog w = .ok (.tuple #[v, .bool true]) w := by kernel_rfl
@[go_sem] theorem as_nil_out (w : World) : (Instr.typeAssert .nilIface 119 234 true).run Tryz.prog w = .ok (.tuple #[.agg #[.pointer none], .bool false]) w := by kernel_rfl
@[go_sem] theorem as_nil_in (w : World) : (Instr.typeAssert .nilIface 119 237 true).run Tryz.prog w = .ok (.tuple #[.agg #[.pointer none], .bool false]) w := by kernel_rfl
@[go_sem] theorem as_nil_file (w : World) : (Instr.typeAssert .nilIface 119 124 true).run Tryz.prog w = .ok (.tuple #[.pointer none, .bool false]) w := by kernel_rfl
@[go_sem] theorem as_nil_sink (w : World) : (Instr.typeAssert .nilIface 119 134 true).run Tryz.prog w = .ok (.tuple #[.pointer none, .bool false]) w := by kernel_rfl
@[go_sem] theorem as_nil_source (w : World) : (Instr.typeAssert .nilIface 119 130 true).run Tryz.prog w = .ok (.tuple #[.pointer none, .bool false]) w := by kernel_rfl

end Go.Proofs.YtobapajmplfeiaaGreatDoor
end

section
namespace Go.Proofs.YtobapajmplfeiaaGreatDoor
open Go.RowKit Go.Maps

/-- what can be open, as a value -/
def outV (p : Nat) : Value := .iface 234 (.agg #[.pointer (some ⟨p, 0, none⟩)])
def inV (p : Nat) : Value := .iface 237 (.agg #[.pointer (some ⟨p, 0, none⟩)])
def sourceV (p : Nat) : Value := .iface 130 (.pointer (some ⟨p, 0, none⟩))
def sinkV (p : Nat) : Value := .iface 134 (.pointer (some ⟨p, 0, none⟩))
def fileV (p : Nat) : Value := .iface 124 (.pointer (some ⟨p, 0, none⟩))
/-- a number far from an int's bounds -/
def Calm (n : Int) : Prop := -4611686018427387904 < n ∧ n < 4611686018427387904
theorem Calm.wrap_up {n : Int} (h : Calm n) : wrap64 (n + 1) = n + 1 := w64 _ (by unfold Calm at h; omega)
theorem Calm.wrap_down {n : Int} (h : Calm n) : wrap64 (n - 1) = n - 1 := w64 _ (by unfold Calm at h; omega)
/-- a pipe; a file -/
abbrev PipeAt (w : World) (p : Nat) (v : Value) (r wr : Int) : Prop := Blk w p 236 #[v, .int .i64 r, .int .i64 wr]
abbrev FileAt (w : World) (p : Nat) (ino how at_ had : Int) (gone : Bool) : Prop := Blk w p 127 #[.int .i64 ino, .int .i64 how, .int .i64 at_, .int .i64 had, .bool gone]

set_option maxRecDepth 100000 in
set_option maxHeartbeats 1000000 in
theorem takenOut (w : World) (k p : Nat) (v : Value) (r wr : Int) (h : PipeAt w p v r wr) (hr : Calm r) :
    Calls Tryz.prog 104 #[.pointer (some ⟨k, 0, none⟩), outV p] w fun e w' => e = .returned (.tuple #[]) ∧ PipeAt w' p v (r + 1) wr ∧ Turns [p] w w' := by
  have hlt := h.lt
  have c1 : w.cell? ⟨p, 1, none⟩ = some (.int .i64 r) := h.cell 1
  have f1 : w.frozen? ⟨p, 1, none⟩ = false := h.frozen 1
  have hw := hr.wrap_up
  unfold outV
  go_enter Tryz.func104, Tryz.ntmps104
  go_wp2
  go_returns
  exact ⟨rfl, (h.set_ 1 _).alloc _, ((Turns.refl _ w).setCell _ _ (by simp)).alloc _⟩

set_option maxRecDepth 100000 in
set_option maxHeartbeats 1000000 in
theorem takenIn (w : World) (k p : Nat) (v : Value) (r wr : Int) (h : PipeAt w p v r wr) (hr : Calm wr) :
    Calls Tryz.prog 104 #[.pointer (some ⟨k, 0, none⟩), inV p] w fun e w' => e = .returned (.tuple #[]) ∧ PipeAt w' p v r (wr + 1) ∧ Turns [p] w w' := by
  have hlt := h.lt
  have c1 : w.cell? ⟨p, 2, none⟩ = some (.int .i64 wr) := h.cell 2
  have f1 : w.frozen? ⟨p, 2, none⟩ = false := h.frozen 2
  have hw := hr.wrap_up
  unfold inV
  go_enter Tryz.func104, Tryz.ntmps104
  go_wp2
  go_returns
  exact ⟨rfl, (h.set_ 2 _).alloc _, ((Turns.refl _ w).setCell _ _ (by simp)).alloc _⟩

set_option maxRecDepth 100000 in
set_option maxHeartbeats 1000000 in
theorem takenSource (w : World) (k p : Nat) : Calls Tryz.prog 104 #[.pointer (some ⟨k, 0, none⟩), sourceV p] w fun e w' => e = .returned (.tuple #[]) ∧ w' = w := by
  unfold sourceV
  go_enter Tryz.func104, Tryz.ntmps104
  go_wp2
  go_returns
  exact ⟨rfl, rfl⟩

set_option maxRecDepth 100000 in
set_option maxHeartbeats 1000000 in
theorem takenSink (w : World) (k p : Nat) : Calls Tryz.prog 104 #[.pointer (some ⟨k, 0, none⟩), sinkV p] w fun e w' => e = .returned (.tuple #[]) ∧ w' = w := by
  unfold sinkV
  go_enter Tryz.func104, Tryz.ntmps104
  go_wp2
  go_returns
  exact ⟨rfl, rfl⟩

set_option maxRecDepth 100000 in
set_option maxHeartbeats 1000000 in
theorem takenFile (w : World) (k p : Nat) (ino how at_ had : Int) (gone : Bool) (h : FileAt w p ino how at_ had gone) (hr : Calm had) :
    Calls Tryz.prog 104 #[.pointer (some ⟨k, 0, none⟩), fileV p] w fun e w' => e = .returned (.tuple #[]) ∧ FileAt w' p ino how at_ (had + 1) gone ∧ Turns [p] w w' := by
  have hlt := h.lt
  have c1 : w.cell? ⟨p, 3, none⟩ = some (.int .i64 had) := h.cell 3
  have f1 : w.frozen? ⟨p, 3, none⟩ = false := h.frozen 3
  have hw := hr.wrap_up
  unfold fileV
  go_enter Tryz.func104, Tryz.ntmps104
  go_wp2
  go_returns
  exact ⟨rfl, h.set_ 3 _, (Turns.refl _ w).setCell _ _ (by simp)⟩

set_option maxRecDepth 100000 in
set_option maxHeartbeats 1000000 in
theorem leftOut (w : World) (k p : Nat) (v : Value) (r wr : Int) (h : PipeAt w p v r wr) (hr : Calm r) :
    Calls Tryz.prog 105 #[.pointer (some ⟨k, 0, none⟩), outV p] w fun e w' => e = .returned (.tuple #[]) ∧ PipeAt w' p v (r - 1) wr ∧ Turns [p] w w' := by
  have hlt := h.lt
  have c1 : w.cell? ⟨p, 1, none⟩ = some (.int .i64 r) := h.cell 1
  have f1 : w.frozen? ⟨p, 1, none⟩ = false := h.frozen 1
  have hw := hr.wrap_down
  unfold outV
  go_enter Tryz.func105, Tryz.ntmps105
  go_wp2
  go_returns
  exact ⟨rfl, (h.set_ 1 _).alloc _, ((Turns.refl _ w).setCell _ _ (by simp)).alloc _⟩

set_option maxRecDepth 100000 in
set_option maxHeartbeats 1000000 in
theorem leftIn (w : World) (k p : Nat) (v : Value) (r wr : Int) (h : PipeAt w p v r wr) (hr : Calm wr) :
    Calls Tryz.prog 105 #[.pointer (some ⟨k, 0, none⟩), inV p] w fun e w' => e = .returned (.tuple #[]) ∧ PipeAt w' p v r (wr - 1) ∧ Turns [p] w w' := by
  have hlt := h.lt
  have c1 : w.cell? ⟨p, 2, none⟩ = some (.int .i64 wr) := h.cell 2
  have f1 : w.frozen? ⟨p, 2, none⟩ = false := h.frozen 2
  have hw := hr.wrap_down
  unfold inV
  go_enter Tryz.func105, Tryz.ntmps105
  go_wp2
  go_returns
  exact ⟨rfl, (h.set_ 2 _).alloc _, ((Turns.refl _ w).setCell _ _ (by simp)).alloc _⟩

set_option maxRecDepth 100000 in
set_option maxHeartbeats 1000000 in
theorem leftSource (w : World) (k p : Nat) : Calls Tryz.prog 105 #[.pointer (some ⟨k, 0, none⟩), sourceV p] w fun e w' => e = .returned (.tuple #[]) ∧ w' = w := by
  unfold sourceV
  go_enter Tryz.func105, Tryz.ntmps105
  go_wp2
  go_returns
  exact ⟨rfl, rfl⟩

set_option maxRecDepth 100000 in
set_option maxHeartbeats 1000000 in
theorem leftSink (w : World) (k p : Nat) : Calls Tryz.prog 105 #[.pointer (some ⟨k, 0, none⟩), sinkV p] w fun e w' => e = .returned (.tuple #[]) ∧ w' = w := by
  unfold sinkV
  go_enter Tryz.func105, Tryz.ntmps105
  go_wp2
  go_returns
  exact ⟨rfl, rfl⟩

end Go.Proofs.YtobapajmplfeiaaGreatDoor
end

section
namespace Go.Proofs.YtobapajmplfeiaaGreatDoor
open Go.RowKit Go.Maps

theorem TableOf.set {w : World} {b k : Nat} {D : Nat → Value} (h : TableOf w b k D) (i : Nat) (hi : i < 16) (x : Value) : TableOf (w.setCell ⟨b, i + 1, none⟩ x) b k (fun j => if j = i then x else D j) := by
  have h1 := Blk.set_ h (i + 1) x
  unfold TableOf
  have e : (tableCells k D).setIfInBounds (i + 1) x = tableCells k (fun j => if j = i then x else D j) := by
    unfold tableCells
    apply Array.ext_getElem?
    intro j
    rw [List.setIfInBounds_toArray]
    cases j with
    | zero => simp
    | succ j =>
      by_cases hj : j = i
      · subst hj; simp [hi]
      · by_cases h16 : j < 16 <;> simp [h16, hj, show ¬ i = j from fun e => hj e.symm]
  rwa [e] at h1

set_option maxRecDepth 100000 in
set_option maxHeartbeats 1000000 in
/-- a descriptor that had nothing has a thing -/
theorem setPut (w : World) (b k : Nat) (D : Nat → Value) (h : TableOf w b k D) (i : Nat) (hi : i < 16) (hD : D i = .nilIface) (t : TypeId) (x : Value) (Q : World → Prop)
    (ht : Calls Tryz.prog 104 #[.pointer (some ⟨k, 0, none⟩), .iface t x] w fun e w' => e = .returned (.tuple #[]) ∧ Q w') (hQ : ∀ w', Q w' → w'.heap[b]? = w.heap[b]?) :
    Calls Tryz.prog 65 #[.pointer (some ⟨b, 0, none⟩), .int .i64 (i : Int), .iface t x] w fun e w' => e = .returned (.tuple #[]) ∧ ∃ w1, Q w1 ∧ w' = w1.setCell ⟨b, i + 1, none⟩ (.iface t x) := by
  have hc := h.fd i hi
  rw [hD] at hc
  have hc1 : w.cell? ⟨b, 1 + i, none⟩ = some .nilIface := by rwa [Nat.add_comm]
  have hk := h.kern
  go_enter Tryz.func65, Tryz.ntmps65
  go_wp2_with (go_at_call 104; refine ht.mono ?_; rintro e w1 ⟨rfl, hq⟩; have hT : TableOf w1 b k D := (hQ w1 hq).trans h; have hc2 : w1.cell? ⟨b, 1 + i, none⟩ = some .nilIface := (by rw [Nat.add_comm, hT.fd i hi, hD]); have hf := Blk.frozen hT (1 + i))
  go_returns
  exact ⟨rfl, _, hq, by rw [Nat.add_comm]⟩

set_option maxRecDepth 100000 in
set_option maxHeartbeats 1000000 in
/-- a descriptor that had a thing has nothing -/
theorem setNil (w : World) (b k : Nat) (D : Nat → Value) (h : TableOf w b k D) (i : Nat) (hi : i < 16) (t : TypeId) (x : Value) (hD : D i = .iface t x) (Q : World → Prop)
    (ht : Calls Tryz.prog 105 #[.pointer (some ⟨k, 0, none⟩), .iface t x] (w.setCell ⟨b, i + 1, none⟩ .nilIface) fun e w' => e = .returned (.tuple #[]) ∧ Q w') :
    Calls Tryz.prog 65 #[.pointer (some ⟨b, 0, none⟩), .int .i64 (i : Int), .nilIface] w fun e w' => e = .returned (.tuple #[]) ∧ Q w' := by
  have hc := h.fd i hi
  rw [hD] at hc
  have hc1 : w.cell? ⟨b, 1 + i, none⟩ = some (.iface t x) := by rwa [Nat.add_comm]
  have hf := Blk.frozen h (1 + i)
  have hk := h.kern
  rw [Nat.add_comm i 1] at ht
  go_enter Tryz.func65, Tryz.ntmps65
  go_wp2_with (go_at_call 105; refine ht.mono ?_; rintro e w1 ⟨rfl, hq⟩)
  go_returns
  exact ⟨rfl, hq⟩

set_option maxRecDepth 100000 in
set_option maxHeartbeats 1000000 in
/-- a thing that is no file is laid down where nothing lay -/
theorem kPut (w : World) (b k : Nat) (K : KS) (D : Nat → Value) (hK : KernOf w k K) (h : TableOf w b k D) (i : Nat) (hi : i < 16) (hD : D i = .nilIface) (n : Int) (hn : -9223372036854775808 ≤ n ∧ n ≤ 9223372036854775807) (t : TypeId) (x : Value)
    (hx : K.tf (.int .i64 n) = some (.iface t x)) (has : ∀ W, (Instr.typeAssert (.iface t x) 119 124 true).run Tryz.prog W = .ok (.tuple #[.pointer none, .bool false]) W) (Q : World → Prop)
    (ht : Calls Tryz.prog 104 #[.pointer (some ⟨k, 0, none⟩), .iface t x] w fun e w' => e = .returned (.tuple #[]) ∧ Q w') (hQ : ∀ w', Q w' → w'.heap[b]? = w.heap[b]?) :
    Calls Tryz.prog 37 #[.pointer (some ⟨b, 0, none⟩), .int .i64 (i : Int), .int .i64 n] w fun e w' => e = .returned (.int .i64 0) ∧ ∃ w1, Q w1 ∧ w' = w1.setCell ⟨b, i + 1, none⟩ (.iface t x) := by
  have hset := setPut w b k D h i hi hD t x Q ht hQ
  have hk := h.kern
  have c5 : w.cell? ⟨k, 5, none⟩ = some (.map (some K.tb)) := hK.blk.cell 5
  go_enter Tryz.func37, Tryz.ntmps37
  go_wp2_with (first | (go_at_call 65; refine hset.mono ?_; rintro e w1 ⟨rfl, w2, hq, rfl⟩) | (at_lookup; refine wpList_look_of _ rfl _ _ 108 rfl 3 119 intKeys Tryz.underlying108 .nilIface (by kernel_rfl) K.tb K.tn K.tf rfl hK.things _ (.int .i64 n) rfl (keyOf_int_mk Tryz.underlying3 (WalkArith.wf_i64 (by omega))) ?_; rw [hx]))
  go_returns
  exact ⟨rfl, _, hq, rfl⟩

end Go.Proofs.YtobapajmplfeiaaGreatDoor
end

section
namespace Go.Proofs.YtobapajmplfeiaaGreatDoor
open Go.RowKit Go.Maps

/-- a kernel with one thing more -/
noncomputable def KS.adds (K : KS) (x : Value) : KS := { K with last := K.last + 1, tn := K.tn + 1, tf := upd K.tf (numK (K.last + 1)) (some x) }
theorem KernOf.below {w w' : World} {k : Nat} {K : KS} (h : KernOf w k K) (hb : Below w.heap.size w w') : KernOf w' k K := h.same fun b hm => hb.block b (h.foot_lt b hm)
theorem KernOf.alloc {w : World} {k : Nat} {K : KS} (h : KernOf w k K) (o : Obj) : KernOf (w.alloc o) k K := h.below ((Below.refl _ w).alloc (Nat.le_refl _) o)

set_option maxRecDepth 100000 in
set_option maxHeartbeats 1000000 in
theorem kSource (w : World) (k : Nat) (K : KS) (h : KernOf w k K) (h1 : K.last < 4611686018427387904) (h2 : K.tn < 4611686018427387904) (v : Value) (bs : List UInt8) (hb : Bytes w w.heap.size v bs) (hl : bs.length ≤ 140737488355328) :
    Calls Tryz.prog 38 #[.pointer (some ⟨k, 0, none⟩), v] w fun e w' => ∃ s u, e = .returned (.int .i64 ((K.last + 1 : Nat) : Int)) ∧ w.heap.size ≤ s ∧
      Blk w' s 133 #[u] ∧ OffRow w' w.heap.size 5 u bs.length (bytesC bs) ∧ KernOf w' k (K.adds (sourceV s)) ∧ Turns [k, K.tb] w w' := by
  have hcl := cloneB w v bs hb hl
  go_enter Tryz.func38, Tryz.ntmps38
  go_wp2_with (first
    | (go_at_call 67; refine hcl.mono ?_; rintro e w1 ⟨u, rfl, hown, hbel⟩; obtain ⟨A, c, rfl, hc1, hc2, hrd⟩ := own_slice hown)
    | (go_at_call 66; refine (kAdd _ k K _ ((h.below hbel).alloc _) h1 h2).mono ?_; rintro e w2 ⟨rfl, hK2, hT2⟩))
  go_returns
  have hs : w1.heap.size ∉ [k, K.tb] := by
    have := h.blk.lt
    have := h.things.lt
    have := hbel.size
    simp only [List.mem_cons, List.not_mem_nil, or_false, not_or]
    omega
  refine ⟨w1.heap.size, .slice A bs.length c, rfl, hbel.size, ?_, ?_, hK2, ((Turns.of_below hbel).more (by simp)).alloc _ |>.trans hT2⟩
  · exact (hT2.block _ (by simp) hs).trans (Blk.new w1 _ _)
  · refine OffRow.of_own (ownsRow_same (hown.alloc _) fun g hg => hT2.block g ?_ ?_)
    · have := (hown.lt g hg).2
      simp; omega
    · have h1 := (hown.lt g hg).1
      have := h.blk.lt
      have := h.things.lt
      simp only [List.mem_cons, List.not_mem_nil, or_false, not_or]
      omega

set_option maxRecDepth 100000 in
set_option maxHeartbeats 1000000 in
theorem kTable (w : World) (k : Nat) :
    Calls Tryz.prog 63 #[.pointer (some ⟨k, 0, none⟩)] w fun e w' => e = .returned (.pointer (some ⟨w.heap.size, 0, none⟩)) ∧ TableOf w' w.heap.size k (fun _ => .nilIface) ∧ Below w.heap.size w w' := by
  go_enter Tryz.func63, Tryz.ntmps63
  go_wp2
  go_returns
  exact ⟨rfl, Blk.new w _ _, (Below.refl _ w).alloc (Nat.le_refl _) _⟩

end Go.Proofs.YtobapajmplfeiaaGreatDoor
end

section
namespace Go.Proofs.YtobapajmplfeiaaGreatDoor
open Go.RowKit Go.Maps

/-- a region that draws: its first n operations only read; the world behind the draw goes by a name -/
theorem still_tail {P : Program} {id : Nat} {Q : Exit → Act → World → Prop} {a : Act} {w : World} {l : List Oper} (n : Nat) (W : World) (hW : w.drew = W) (hm : P.follows .mixedOrders = true) (hB : Region.lexTailB .any l.toArray n = true)
    (h : wpStill P l.toArray W (fun a' => wpList P l.toArray Q (l.drop n) a' W) (l.take n) a) : (Code.region id l.toArray true).wp P Q a w := by
  subst hW
  exact wp_region_still_tail n hm hB h

theorem shortN_le {m : Int} {f : Int × Int} (h : 0 ≤ m) : 0 ≤ shortN m f ∧ shortN m f ≤ m := by
  unfold shortN
  split <;> omega
theorem OffRow.front {w : World} {base n c k : Nat} {e : TypeId} {A : Option Addr} {xs : List Value} (h : OffRow w base e (.slice A n c) n xs) (hk : k ≤ n) : OffRow w base e (.slice A k c) k (xs.take k) := by
  refine ⟨by rw [List.length_take, h.1]; omega, ?_⟩
  rcases h.2 with ⟨hv, h0⟩ | ⟨g, off, cap, cur, hv, h1, h2, h3, h4, h5, h6⟩
  · simp only [Value.slice.injEq] at hv
    obtain ⟨rfl, rfl, rfl⟩ := hv
    exact .inl ⟨by rw [show k = 0 by omega], by omega⟩
  · simp only [Value.slice.injEq] at hv
    obtain ⟨rfl, _, rfl⟩ := hv
    exact .inr ⟨g, off, c, cur, rfl, h1, h2, by omega, h4, h5, by rw [← h6, List.take_take, Nat.min_eq_left hk]⟩
theorem run_front {P : Program} (t e : TypeId) (i : TypeInfo) (ht : P.underlying t = some (.slice e)) (hi : P.info? e = some i) (A : Option Addr) (len cap n : Nat) (hn : n ≤ cap) (W : World) :
    (Instr.slice t (.slice A len cap) none (some (.int .i64 (n : Int))) none).run P W = .ok (.slice A n cap) W := by
  have hee : P.elem t = e := by simp only [Program.elem, ht]
  have he : P.underlying t = some (.slice (P.elem t)) := by rw [hee]; exact ht
  simp only [run_slice_h W t A len cap he .i64 (n : Int) (by omega) (by omega), hee, sizeOf, typeInfo, Sem.run_bind, Sem.run_pure]
  have h0 : A.map (·.add (0 * i.size)) = A := by
    cases A with
    | none => rfl
    | some a => simp [Addr.add]
  simp [hi, sliced, go_sem]

theorem bytes_of_front {W W' : World} {base n c : Nat} {A : Option Addr} {bs : List UInt8} {e : TypeId} (h : OffRow W base e (.slice A bs.length c) bs.length (bytesC bs)) (hW : ∀ g, g < W.heap.size → W'.heap[g]? = W.heap[g]?) (hn : n ≤ bs.length) : Bytes W' W'.heap.size (.slice A n c) (bs.take n) := by
  have h1 := (h.front hn).same (w' := W') fun g hg => hW g ((h.front hn).lt hg).2
  rw [← bytesC_take] at h1
  exact Bytes.of_off h1
theorem Reads.turns {w w' : World} {B size n : Nat} {A : Option Addr} {xs : List Value} {S : List Nat} (h : Reads w B size A n xs) (ht : Turns S w w') (hB : B ≤ w.heap.size) (hS : ∀ ad, A = some ad → ad.block ∉ S) : Reads w' B size A n xs := by
  refine ⟨h.1, fun hn => ?_⟩
  obtain ⟨ad, h1, h2, h3⟩ := h.2 hn
  refine ⟨ad, h1, h2, fun j u hu => ?_⟩
  rw [← h3 j u hu]
  exact ht.cell (by rw [block_of_add]; omega) (by rw [block_of_add]; exact hS ad h1)
theorem Reads.front {w : World} {B n k : Nat} {A : Option Addr} {xs : List Value} (h : Reads w B 1 A n xs) (hk : k ≤ n) : Reads w B 1 A k (xs.take k) := by
  refine ⟨by rw [List.length_take, h.1]; omega, fun hn => ?_⟩
  obtain ⟨ad, h1, h2, h3⟩ := h.2 (by omega)
  refine ⟨ad, h1, h2, fun j u hu => h3 j u ?_⟩
  rw [List.getElem?_take] at hu
  split at hu
  · exact hu
  · cases hu
theorem KernOf.off_own {w : World} {k base n g : Nat} {K : KS} {t : TypeId} {v : Value} {xs : List Value} (h : KernOf w k K) (ho : OffRow w base t v n xs) (h1 : t ≠ 115) (h2 : t ≠ 107) (hg : v.ownBlock = some g) : g ∉ K.foot k := by
  rcases ho.2 with ⟨rfl, _⟩ | ⟨g', off, cap, cur, rfl, _, hgb, _⟩
  · simp [Value.ownBlock] at hg
  · obtain rfl : g' = g := by simpa [Value.ownBlock] using hg
    exact h.off (show Blk w g' t cur from hgb) h1 h2

end Go.Proofs.YtobapajmplfeiaaGreatDoor
end

section
namespace Go.Proofs.YtobapajmplfeiaaGreatDoor
open Go.RowKit Go.Maps

/-- a sink -/
abbrev SinkAt (w : World) (p : Nat) (v : Value) : Prop := Blk w p 135 #[v]

set_option maxRecDepth 100000 in
set_option maxHeartbeats 1000000 in
theorem kSink (w : World) (k : Nat) (K : KS) (h : KernOf w k K) (h1 : K.last < 4611686018427387904) (h2 : K.tn < 4611686018427387904) :
    Calls Tryz.prog 39 #[.pointer (some ⟨k, 0, none⟩)] w fun e w' => e = .returned (.int .i64 ((K.last + 1 : Nat) : Int)) ∧
      SinkAt w' w.heap.size (.slice none 0 0) ∧ KernOf w' k (K.adds (sinkV w.heap.size)) ∧ Turns [k, K.tb] w w' := by
  go_enter Tryz.func39, Tryz.ntmps39
  go_wp2_with (go_at_call 66; refine (kAdd _ k K (sinkV w.heap.size) (h.alloc _) h1 h2).mono ?_; rintro e w2 ⟨rfl, hK2, hT2⟩)
  go_returns
  have hs : w.heap.size ∉ [k, K.tb] := by
    have := h.blk.lt
    have := h.things.lt
    simp only [List.mem_cons, List.not_mem_nil, or_false, not_or]
    omega
  exact ⟨rfl, (hT2.block _ (by simp) hs).trans (Blk.new w _ _), hK2, ((Turns.refl _ w).alloc _).trans hT2⟩

set_option maxRecDepth 100000 in
set_option maxHeartbeats 2000000 in
theorem landSink (w : World) (k p base : Nat) (v : Value) (xs : List UInt8) (hp : SinkAt w p v) (hv : OffRow w base 5 v xs.length (bytesC xs)) (hbase : base ≤ w.heap.size)
    (A : Option Addr) (c : Nat) (bs : List UInt8) (hb : Reads w w.heap.size 1 A bs.length (bytesC bs)) (hl : xs.length + bs.length ≤ 140737488355328) :
    Calls Tryz.prog 205 #[.pointer (some ⟨k, 0, none⟩), sinkV p, .slice A bs.length c] w fun e w' => e = .returned (.tuple #[]) ∧ ∃ v', SinkAt w' p v' ∧
      OffRow w' base 5 v' (xs.length + bs.length) (bytesC (xs ++ bs)) ∧ Turns ([p] ++ v.ownBlock.toList) w w' ∧ (v'.ownBlock = v.ownBlock ∨ ∃ g, v'.ownBlock = some g ∧ w.heap.size ≤ g) := by
  have hlt := hp.lt
  have c0 : w.cell? ⟨p, 0, none⟩ = some v := hp.cell 0
  have f0 : w.frozen? ⟨p, 0, none⟩ = false := hp.frozen 0
  have hvp := hv.blk_ne hp (by decide)
  obtain ⟨iB, hiB, hB0, hB1, hB2⟩ := info_parts Tryz.infoByte
  have HI := Lib.hid hiB
  have H0 := Lib.hid hB0
  have H1 := Lib.hid hB1
  have H2 := Lib.hid hB2
  clear hiB hB0 hB1 hB2
  have HV := Lib.hid hv
  have HB := Lib.hid hb
  clear hv hb
  unfold sinkV
  obtain ⟨A0, c0', hvf, hc0, _⟩ := HV.out.form
  subst hvf
  go_enter Tryz.func205, Tryz.ntmps205
  have HQ : ∀ w2, w.grownBy w2 (Value.slice A0 xs.length c0').ownBlock → SinkAt w2 p (.slice A0 xs.length c0') := fun w2 hg => hp.grown hg (fun e => hvp e.symm)
  go_wp2_with (at_builtin; (refine wpList_append_off _ rfl _ _ 27 rfl base 5 iB (.int .u8 0) 1 Tryz.underlying27 HI.out H0.out H1.out H2.out rfl (.slice A0 xs.length c0') xs.length (bytesC xs) (by rfl) HV.out w.heap.size A bs.length c (bytesC bs) (by rfl) HB.out (bytesC_oneCell bs) (by simp only [maxLen]; omega) (by omega) hbase ?_; intro v1 w2 hown2 hg2 hat2; obtain ⟨A1, c1, rfl, hc1, _⟩ := hown2.form; have q2 := Blk.cell (HQ w2 hg2) 0; have f2 := Blk.frozen (HQ w2 hg2) 0; have l2 := Blk.lt (HQ w2 hg2)))
  all_goals
    go_returns
    refine ⟨rfl, _, (HQ w2 hg2).set_ 0 _, ?_, ?_, ?_⟩
    · rw [bytesC_append]
      exact hown2.same fun g hg => Below.heap_setCell _ _ _ _ (fun e => hown2.blk_ne (HQ w2 hg2) (by decide) (hg.trans (congrArg some e)))
    · exact ((Turns.refl _ w).grown hg2 (fun g hg _ => by rw [hg]; simp)).setCell _ _ (by simp)
    · exact hat2.imp id fun e => ⟨_, e, Nat.le_refl _⟩

/-- what a fault makes of a write to a sink -/
def wErr (f : Int × Int) : Int := if f.1 = 2 then 9 else if f.1 = 4 then 7 else if f.1 = 3 then 6 else if f.1 = 5 then 8 else 0

set_option maxRecDepth 100000 in
set_option maxHeartbeats 2000000 in
/-- no byte is written -/
theorem sinkNone (w : World) (b k : Nat) (D : Nat → Value) (h : TableOf w b k D) (i : Nat) (hi : i < 16) (p : Nat) (hD : D i = sinkV p) (A : Option Addr) (c : Nat) :
    Calls Tryz.prog 181 #[.pointer (some ⟨b, 0, none⟩), .int .i64 (i : Int), .slice A 0 c] w fun e w' => e = .returned (.tuple #[.int .i64 0, .int .i64 0]) ∧ Turns [] w w' := by
  have hhas := kHas w b k D h (i : Int)
  rw [if_pos (by omega), Int.toNat_natCast, hD] at hhas
  unfold sinkV at hhas
  have hltb : b < w.heap.size := Blk.lt h
  go_enter Tryz.func181, Tryz.ntmps181
  go_wp2_with (go_at_call 201; refine hhas.mono ?_; rintro e w1 ⟨rfl, rfl⟩)
  all_goals
    go_returns
    exact ⟨rfl, Turns.refl _ _⟩

set_option maxRecDepth 100000 in
set_option maxHeartbeats 2000000 in
/-- a write that fails, or is interrupted -/
theorem sinkErr (w : World) (b k : Nat) (K : KS) (D : Nat → Value) (hK : KernOf w k K) (h : TableOf w b k D) (i : Nat) (hi : i < 16) (p : Nat) (hD : D i = sinkV p) (A : Option Addr) (m c : Nat) (hm : 0 < m) (hf : wErr K.next ≠ 0) :
    Calls Tryz.prog 181 #[.pointer (some ⟨b, 0, none⟩), .int .i64 (i : Int), .slice A m c] w fun e w' => e = .returned (.tuple #[.int .i64 0, .int .i64 (wErr K.next)]) ∧ KernOf w' k K.took ∧ Turns [k] w w' := by
  have hhas := kHas w b k D h (i : Int)
  rw [if_pos (by omega), Int.toNat_natCast, hD] at hhas
  unfold sinkV at hhas
  have hk := h.kern
  have hltb : b < w.heap.size := Blk.lt h
  have hfa := kFault w k K hK
  obtain ⟨f1, f2, hff⟩ : ∃ f1 f2, K.next = (f1, f2) := ⟨_, _, rfl⟩
  rw [hff] at hf hfa ⊢
  have hcase : f1 = 2 ∨ f1 = 4 ∨ f1 = 3 ∨ f1 = 5 := by
    unfold wErr at hf
    simp only at hf
    split at hf
    · exact .inl (by assumption)
    · split at hf
      · exact .inr (.inl (by assumption))
      · split at hf
        · exact .inr (.inr (.inl (by assumption)))
        · split at hf
          · exact .inr (.inr (.inr (by assumption)))
          · exact absurd rfl hf
  clear hf
  rcases hcase with rfl | rfl | rfl | rfl
  all_goals
    simp only [wErr, if_true, if_false, Int.reduceEq]
    go_enter Tryz.func181, Tryz.ntmps181
    go_wp2_with (first | (go_at_call 201; refine hhas.mono ?_; rintro e w1 ⟨rfl, rfl⟩) | (go_at_call 203; refine hfa.mono ?_; rintro e w2 ⟨rfl, hK2, hT2⟩))
    go_returns
    exact ⟨rfl, hK2.alloc _, hT2.alloc _⟩

set_option maxRecDepth 100000 in
set_option maxHeartbeats 2000000 in
/-- a write that goes through -/
theorem sinkOk (w : World) (b k : Nat) (K : KS) (D : Nat → Value) (hK : KernOf w k K) (h : TableOf w b k D) (i : Nat) (hi : i < 16) (p : Nat) (hD : D i = sinkV p) (xs : List UInt8) (v : Value) (hp : SinkAt w p v) (base : Nat) (hv : OffRow w base 5 v xs.length (bytesC xs)) (hbase : base ≤ w.heap.size)
    (A : Option Addr) (c : Nat) (bs : List UInt8) (hb : Reads w w.heap.size 1 A bs.length (bytesC bs)) (hAk : ∀ ad, A = some ad → ad.block ≠ k) (hc : bs.length ≤ c) (hm : 0 < bs.length) (hl : xs.length + bs.length ≤ 140737488355000) (hf1 : wErr K.next = 0) (n : Nat) (hn : shortN bs.length K.next = (n : Int)) :
    Calls Tryz.prog 181 #[.pointer (some ⟨b, 0, none⟩), .int .i64 (i : Int), .slice A bs.length c] w fun e w' => e = .returned (.tuple #[.int .i64 (n : Int), .int .i64 0]) ∧ KernOf w' k K.took ∧
      (∃ v', SinkAt w' p v' ∧ OffRow w' base 5 v' (xs.length + n) (bytesC (xs ++ bs.take n)) ∧ (v'.ownBlock = v.ownBlock ∨ ∃ g, v'.ownBlock = some g ∧ w.heap.size ≤ g)) ∧
      Turns ([k, p] ++ v.ownBlock.toList) w w' := by
  have hhas := kHas w b k D h (i : Int)
  rw [if_pos (by omega), Int.toNat_natCast, hD] at hhas
  unfold sinkV at hhas
  have hk := h.kern
  have hltb : b < w.heap.size := Blk.lt h
  obtain ⟨f1, f2, hff⟩ : ∃ f1 f2, K.next = (f1, f2) := ⟨_, _, rfl⟩
  rw [hff] at hn hf1
  have hfa := kFault w k K hK
  rw [hff] at hfa
  have hpf : p ∉ K.foot k := hK.off hp (by decide) (by decide)
  have hbk : b ≠ k := Blk.ne_ h hK.blk (by decide)
  obtain ⟨g2, g4, g3, g5⟩ : f1 ≠ 2 ∧ f1 ≠ 4 ∧ f1 ≠ 3 ∧ f1 ≠ 5 := by
    unfold wErr at hf1
    simp only at hf1
    refine ⟨?_, ?_, ?_, ?_⟩ <;> (rintro rfl; simp at hf1)
  have e2 : (f1 == 2) = false := beq_eq_false_iff_ne.2 g2
  have e3 : (f1 == 3) = false := beq_eq_false_iff_ne.2 g3
  have e4 : (f1 == 4) = false := beq_eq_false_iff_ne.2 g4
  have e5 : (f1 == 5) = false := beq_eq_false_iff_ne.2 g5
  clear g2 g3 g4 g5 hf1
  have hsh := fun W => kShort W bs.length (f1, f2)
  rw [hn] at hsh
  have hnl : n ≤ bs.length := by
    have := (shortN_le (m := (bs.length : Int)) (f := (f1, f2)) (by omega)).2
    omega
  obtain ⟨iB, hiB, hB0, hB1, hB2⟩ := info_parts Tryz.infoByte
  have hfr := fun W => run_front (P := Tryz.prog) 27 5 iB Tryz.underlying27 hiB A bs.length c n (by omega) W
  clear hiB hB0 hB1 hB2
  have HN := Lib.hid hnl
  have HC := Lib.hid hc
  have HB := Lib.hid hb
  have HV := Lib.hid hv
  clear hnl hc hb hv
  go_enter Tryz.func181, Tryz.ntmps181
  go_wp2_with (first
    | (go_at_call 201; refine hhas.mono ?_; rintro e w1 ⟨rfl, rfl⟩)
    | (go_at_call 203; refine hfa.mono ?_; rintro e w2 ⟨rfl, hK2, hT2⟩; have tb2 : TableOf w2 b k D := (hT2.block b hltb (by rw [List.mem_singleton]; exact hbk)).trans h; have k2 := tb2.kern; have ltb2 := Blk.lt tb2)
    | (go_at_call 204; refine (hsh _).mono ?_; rintro e w3 ⟨rfl, rfl⟩))
  obtain ⟨X, hX⟩ : ∃ X : Obj, .cells #[.int .i64 f1, .int .i64 f2] 107 = X := ⟨_, rfl⟩
  rw [hX]
  obtain ⟨W, hW⟩ : ∃ W, ((w2.alloc X).alloc X).drew = W := ⟨_, rfl⟩
  have TW : Turns [k] w1 W := by rw [← hW]; exact ((hT2.alloc _).alloc _).drew
  have KW : KernOf W k K.took := by rw [← hW]; exact ((hK2.alloc _).alloc _).same fun _ _ => rfl
  have bW : TableOf W b k D := (TW.block b hltb (by rw [List.mem_singleton]; exact hbk)).trans h
  have q0 := bW.kern
  have pW : SinkAt W p v := (TW.block p hp.lt (by rw [List.mem_singleton]; intro e; exact hpf (by rw [e]; simp [KS.foot]))).trans hp
  have vW : OffRow W base 5 v xs.length (bytesC xs) := HV.out.same fun g hg => TW.block g (HV.out.lt hg).2 (by rw [List.mem_singleton]; rintro rfl; exact HV.out.blk_ne hK.blk (by decide) hg)
  have rW : Reads W W.heap.size 1 A (bs.take n).length (bytesC (bs.take n)) := by
    have h1 := ((HB.out.turns TW (Nat.le_refl _) (by intro ad hA; rw [List.mem_singleton]; exact hAk ad hA)).more TW.size).front HN.out
    rw [List.length_take, Nat.min_eq_left HN.out, bytesC_take]
    exact h1
  have hland := landSink W k p base _ xs pW vW (Nat.le_trans hbase TW.size) A c (bs.take n) rW (by rw [List.length_take]; have := HN.out; omega)
  rw [List.length_take, Nat.min_eq_left HN.out] at hland
  unfold sinkV at hland
  clear bW rW
  have VW := Lib.hid vW
  clear vW
  refine still_tail 8 W hW (by kernel_rfl) (by kernel_rfl) ?_
  simp only [List.take_succ_cons, List.take_zero, List.drop_succ_cons, List.drop_zero]
  repeat still_step
  refine wpStill_nil ?_
  go_wp2_with (go_at_call 205; refine hland.mono ?_; rintro e w4 ⟨rfl, v4, hp4, hv4, hT4, hn4⟩)
  go_returns
  refine ⟨rfl, KW.turns hT4 ?_, ⟨v4, hp4, hv4, hn4.imp id fun ⟨g, e, hg⟩ => ⟨g, e, Nat.le_trans TW.size hg⟩⟩, (TW.more (by simp)).trans (hT4.more (by intro g hg; simp only [List.mem_append, List.mem_cons, List.not_mem_nil, or_false] at hg ⊢; rcases hg with hg | hg <;> simp [hg]))⟩
  intro g hg hm
  simp only [List.mem_append, List.mem_cons, List.not_mem_nil, or_false, Option.mem_toList] at hm
  rcases hm with hm | hm
  · exact hpf (hm ▸ hg)
  · exact KW.off_own VW.out (by decide) (by decide) hm hg

end Go.Proofs.YtobapajmplfeiaaGreatDoor
end

section
namespace Go.Proofs.YtobapajmplfeiaaGreatDoor
open Go.RowKit Go.Maps

theorem Tryz.infoFault : (Tryz.prog.info? 107).map (fun i => (i.zero, i.size, i.bytes)) = some (some (.agg #[.int .i64 0, .int .i64 0]), 2, 16) := by kernel_rfl
theorem faultV_length (l : List (Int × Int)) : (faultV l).length = l.length * 2 := by
  induction l with
  | nil => rfl
  | cons p l ih => rw [show faultV (p :: l) = .int .i64 p.1 :: .int .i64 p.2 :: faultV l by simp [faultV]]; simp [ih]; omega
theorem faultV_oneCell (l : List (Int × Int)) : ∀ u ∈ faultV l, u.oneCell' = true := by
  intro u hu
  unfold faultV at hu
  obtain ⟨q, _, hq⟩ := List.mem_flatMap.1 hu
  simp only [List.mem_cons, List.not_mem_nil, or_false] at hq
  rcases hq with rfl | rfl <;> rfl
/-- a slice of faults that can be read -/
def Faults (w : World) (v : Value) (l : List (Int × Int)) : Prop := ∃ A cap, v = .slice A l.length cap ∧ l.length ≤ cap ∧ cap ≤ maxLen ∧ (A = none → cap = 0) ∧ Reads w w.heap.size 2 A l.length (faultV l)

set_option maxHeartbeats 1000000 in
theorem cloneF_any (ad : Addr) (cap : Nat) (l : List (Int × Int)) (w : World) (hr : Reads w w.heap.size 2 (some ad) l.length (faultV l)) (hl : l.length ≤ 8796093022208) :
    Calls Tryz.prog 62 #[.slice (some ad) l.length cap] w fun e w' => ∃ v, e = .returned v ∧ w'.ownsRow w.heap.size 107 2 v l.length (faultV l) ∧ Below w.heap.size w w' := by
  have heq := fun (W : World) => Lib.run_eql_slice_nil (P := Tryz.prog) W 41 107 (some ad) l.length cap 0 0 Tryz.underlying41
  obtain ⟨iB, hiB, hB0, hB1, hB2⟩ := info_parts Tryz.infoFault
  have HI := Lib.hid hiB
  have H0 := Lib.hid hB0
  have H1 := Lib.hid hB1
  have H2 := Lib.hid hB2
  clear hiB hB0 hB1 hB2
  have hR := Lib.hid hr
  clear hr
  go_enter Tryz.func62, Tryz.ntmps62
  go_wp2_with (at_builtin; refine wpList_append_any _ rfl _ _ 41 rfl w.heap.size 107 iB (.agg #[.int .i64 0, .int .i64 0]) 2 16 Tryz.underlying41 HI.out H0.out H1.out H2.out rfl (by decide) (.slice (some ⟨w.heap.size, 0, none⟩) 0 0) 0 [] rfl (World.ownsRow_made w #[] 0 (Nat.le_refl _) (by decide) rfl) w.heap.size (some ad) l.length cap (faultV l) rfl (hR.out.alloc (Nat.le_refl _) _) (faultV_oneCell l) (by simp only [maxLen]; omega) (by omega) (by simp) ?_; intro v2 w2 hown2 hg2 hat2)
  go_returns
  exact ⟨_, rfl, by simpa using hown2, ((Below.refl _ w).alloc (Nat.le_refl _) _).grown hg2 (by simp) (fun k hk => by simp [Value.ownBlock] at hk; omega)⟩
theorem cloneF_nil (w : World) : Calls Tryz.prog 62 #[.slice none 0 0] w fun e w' => e = .returned (.slice none 0 0) ∧ w' = w := by
  have heq := fun (W : World) => Lib.run_eql_slice_nil (P := Tryz.prog) W 41 107 none 0 0 0 0 Tryz.underlying41
  go_enter Tryz.func62, Tryz.ntmps62
  go_wp2
  go_returns
  exact ⟨rfl, rfl⟩
theorem cloneF (w : World) (v : Value) (l : List (Int × Int)) (h : Faults w v l) (hl : l.length ≤ 8796093022208) :
    Calls Tryz.prog 62 #[v] w fun e w' => ∃ u, e = .returned u ∧ w'.ownsRow w.heap.size 107 2 u l.length (faultV l) ∧ Below w.heap.size w w' := by
  obtain ⟨A, cap, rfl, h2, h3, h4, h5⟩ := h
  cases A with
  | none =>
    have hc := h4 rfl
    have hb : l = [] := List.eq_nil_of_length_eq_zero (by omega)
    subst hb hc
    refine (cloneF_nil w).mono ?_
    rintro e w' ⟨rfl, rfl⟩
    exact ⟨_, rfl, ⟨rfl, .inl ⟨rfl, rfl⟩⟩, Below.refl _ _⟩
  | some ad => exact cloneF_any ad cap l w h5 hl

set_option maxRecDepth 100000 in
set_option maxHeartbeats 1000000 in
theorem kNew (w : World) (t : Nat) (v : Value) (l : List (Int × Int)) (h : Faults w v l) (hl : l.length ≤ 8796093022208) (now : Int) :
    Calls Tryz.prog 34 #[.pointer (some ⟨t, 0, none⟩), v, .int .i64 now] w fun e w' => ∃ k u tb, e = .returned (.pointer (some ⟨k, 0, none⟩)) ∧ w.heap.size ≤ k ∧ w.heap.size ≤ tb ∧ (∀ g, u.ownBlock = some g → w.heap.size ≤ g) ∧
      KernOf w' k { t := t, now := now, fv := u, fl := l, used := 0, last := 0, tb := tb, tn := 0, tf := fun _ => none } ∧ Below w.heap.size w w' := by
  have hcl := cloneF w v l h hl
  have hmm := @run_makeMap Tryz.prog
  go_enter Tryz.func34, Tryz.ntmps34
  go_wp2_with (go_at_call 62; refine hcl.mono ?_; rintro e w1 ⟨u, rfl, hown, hbel⟩; obtain ⟨A, c, rfl, hc1, hc2, hrd⟩ := own_slice hown)
  go_returns
  have e1 : (w1.alloc (.map #[] 0)).heap.size = w1.heap.size + 1 := by simp
  have hs := hbel.size
  refine ⟨w1.heap.size + 1, .slice A l.length c, w1.heap.size, rfl, by omega, hs, fun g hg => (hown.lt g hg).1, ⟨?_, ?_, ?_, Nat.zero_le _⟩, (hbel.alloc hs _).alloc (by rw [e1]; omega) _⟩
  · have := Blk.new (w1.alloc (.map #[] 0)) 115 #[.pointer (some ⟨t, 0, none⟩), .int .i64 now, .slice A l.length c, .int .i64 0, .int .i64 0, .map (some w1.heap.size)]
    rwa [e1] at this
  · exact (MapOf.made w1 Tryz.prog 3).same (Below.heap_alloc _ _ _ (by rw [e1]; omega))
  · exact Joins.ownsRow_le ((hown.alloc _).alloc _) (Nat.zero_le _)

set_option maxHeartbeats 1000000 in
theorem kUsed (w : World) (k : Nat) (K : KS) (h : KernOf w k K) : Calls Tryz.prog 43 #[.pointer (some ⟨k, 0, none⟩)] w fun e w' => e = .returned (.int .i64 (K.used : Int)) ∧ w' = w := by
  have c3 : w.cell? ⟨k, 3, none⟩ = some (.int .i64 (K.used : Int)) := h.blk.cell 3
  go_enter Tryz.func43, Tryz.ntmps43
  go_wp2
  go_returns
  exact ⟨rfl, rfl⟩

end Go.Proofs.YtobapajmplfeiaaGreatDoor
end

section
namespace Go.Proofs.YtobapajmplfeiaaGreatDoor
open Go.RowKit Go.Maps

def strsC (l : List ByteArray) : List Value := l.map .string
/-- a process, as it stands in memory -/
structure PS where
  k : Nat
  tb : Nat
  av : Value
  args : List ByteArray
  ev : Value
  env : List ByteArray
  cwd : ByteArray
  buf : Int
  line : Int
  run : Int
  held : Int
  peak : Int
  /-- what calls answered: the slice's value, and the answers of writes; how many of them main was told -/
  lv : Value
  log : List (Int × Int)
  at_ : Nat
  may : Bool
  top : Bool
  steps : Nat
  all : Nat
/-- a reply of a call that answers a number and an error -/
def replyC (q : Int × Int) : List Value := [.int .i64 q.1, .int .i64 0, .slice none 0 0, .slice none 0 0, .int .i64 0, .bool false, .int .i64 0, .int .i64 0, .int .i64 0, .int .i64 0, .int .i64 q.2]
def logC (l : List (Int × Int)) : List Value := l.flatMap replyC
def procCells (J : PS) : Array Value :=
  #[.pointer (some ⟨J.k, 0, none⟩), .pointer (some ⟨J.tb, 0, none⟩), J.av, J.ev, .string J.cwd, .int .i64 J.buf, .int .i64 J.line, .int .i64 J.run, .int .i64 J.held, .int .i64 J.peak, J.lv, .int .i64 (J.at_ : Int), .bool J.may, .bool J.top, .bool false, .int .i64 (J.steps : Int), .nilIface, .pointer (some ⟨J.all, 0, none⟩)]
structure ProcOf (w : World) (p : Nat) (J : PS) : Prop where
  blk : Blk w p 72 (procCells J)
  args : w.ownsRow 0 9 1 J.av J.args.length (strsC J.args)
  env : w.ownsRow 0 9 1 J.ev J.env.length (strsC J.env)
  log : w.ownsRow 0 281 11 J.lv J.log.length (logC J.log)

section
variable {w w' : World} {p : Nat} {J : PS}
theorem OffRow.ne_ {b b' n n' : Nat} {e e' : TypeId} {v v' : Value} {xs xs' : List Value} (h : OffRow w b e v n xs) (h' : OffRow w b' e' v' n' xs') (he : e ≠ e') (hv : v.ownBlock ≠ none) : v.ownBlock ≠ v'.ownBlock := by
  intro hvv
  obtain ⟨g, hg⟩ := Option.ne_none_iff_exists'.1 hv
  rcases h'.2 with ⟨rfl, _⟩ | ⟨g', off, cap, cur, rfl, _, hgb, _⟩
  · rw [hg] at hvv; simp [Value.ownBlock] at hvv
  · have : g' = g := by rw [hg] at hvv; simpa [Value.ownBlock] using hvv.symm
    subst this
    exact h.blk_ne (show Blk w g' e' cur from hgb) he hg
/-- the blocks of a process -/
def PS.foot (J : PS) (p : Nat) : List Nat := [p] ++ J.av.ownBlock.toList ++ J.ev.ownBlock.toList ++ J.lv.ownBlock.toList
theorem ProcOf.foot_lt (h : ProcOf w p J) : ∀ g ∈ J.foot p, g < w.heap.size := by
  intro g hg
  simp only [PS.foot, List.mem_append, List.mem_cons, List.not_mem_nil, or_false, Option.mem_toList] at hg
  rcases hg with ((rfl | hg) | hg) | hg
  · exact h.blk.lt
  · exact (h.args.lt _ hg).2
  · exact (h.env.lt _ hg).2
  · exact (h.log.lt _ hg).2
theorem ProcOf.same (h : ProcOf w p J) (hb : ∀ g ∈ J.foot p, w'.heap[g]? = w.heap[g]?) : ProcOf w' p J := by
  refine ⟨(hb p (by simp [PS.foot])).trans h.blk, ownsRow_same h.args fun g hg => hb g ?_, ownsRow_same h.env fun g hg => hb g ?_, ownsRow_same h.log fun g hg => hb g ?_⟩ <;> simp [PS.foot, hg]
theorem ProcOf.turns {S : List Nat} (h : ProcOf w p J) (ht : Turns S w w') (hS : ∀ g ∈ J.foot p, g ∉ S) : ProcOf w' p J := h.same fun g hg => ht.block g (h.foot_lt g hg) (hS g hg)
theorem ProcOf.below (h : ProcOf w p J) (hb : Below w.heap.size w w') : ProcOf w' p J := h.turns (Turns.of_below hb) (by simp)
/-- blocks of other types are none of a process's -/
theorem ProcOf.off {g : Nat} {t : TypeId} {cs : Array Value} (h : ProcOf w p J) (hg : Blk w g t cs) (h1 : t ≠ 72) (h2 : t ≠ 9) (h3 : t ≠ 281) : g ∉ J.foot p := by
  simp only [PS.foot, List.mem_append, List.mem_cons, List.not_mem_nil, or_false, Option.mem_toList, not_or]
  exact ⟨⟨⟨Blk.ne_ hg h.blk h1, fun e => own_blk_ne h.args hg h2.symm e⟩, fun e => own_blk_ne h.env hg h2.symm e⟩, fun e => own_blk_ne h.log hg h3.symm e⟩
end

end Go.Proofs.YtobapajmplfeiaaGreatDoor
end
