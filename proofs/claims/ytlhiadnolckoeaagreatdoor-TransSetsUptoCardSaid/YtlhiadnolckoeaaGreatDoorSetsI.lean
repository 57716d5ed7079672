/-
  The reference's class comes to what the plain step says (printed by wip/tools/refcls3.py).
-/
import Derived.Test.YtlhiadnolckoeaaGreatDoorSetsH
import Derived.Test.YtlhiadnolckoeaaGreatDoorSetsG

section
namespace Go.Proofs.YtlhiadnolckoeaaGreatDoor
open Go.RowKit Go.Maps

theorem refCls_of (l : List UInt8) : RefCls (strB l) ((Pl.classOf l).getD fun _ => false) := by
  rw [Pl.classOf_eq]
  by_cases e0 : l = [97, 108, 112, 104, 97]
  · rw [if_pos e0, e0]
    exact ref_alpha
  rw [if_neg e0]
  by_cases e1 : l = [100, 105, 103, 105, 116]
  · rw [if_pos e1, e1]
    exact ref_digit
  rw [if_neg e1]
  by_cases e2 : l = [97, 108, 110, 117, 109]
  · rw [if_pos e2, e2]
    exact ref_alnum
  rw [if_neg e2]
  by_cases e3 : l = [117, 112, 112, 101, 114]
  · rw [if_pos e3, e3]
    exact ref_upper
  rw [if_neg e3]
  by_cases e4 : l = [108, 111, 119, 101, 114]
  · rw [if_pos e4, e4]
    exact ref_lower
  rw [if_neg e4]
  by_cases e5 : l = [103, 114, 97, 112, 104]
  · rw [if_pos e5, e5]
    exact ref_graph
  rw [if_neg e5]
  by_cases e6 : l = [98, 108, 97, 110, 107]
  · rw [if_pos e6, e6]
    exact ref_blank
  rw [if_neg e6]
  by_cases e7 : l = [115, 112, 97, 99, 101]
  · rw [if_pos e7, e7]
    exact ref_space
  rw [if_neg e7]
  by_cases e8 : l = [99, 110, 116, 114, 108]
  · rw [if_pos e8, e8]
    exact ref_cntrl
  rw [if_neg e8]
  by_cases e9 : l = [112, 114, 105, 110, 116]
  · rw [if_pos e9, e9]
    exact ref_print
  rw [if_neg e9]
  by_cases e10 : l = [112, 117, 110, 99, 116]
  · rw [if_pos e10, e10]
    exact ref_punct
  rw [if_neg e10]
  by_cases e11 : l = [120, 100, 105, 103, 105, 116]
  · rw [if_pos e11, e11]
    exact ref_xdigit
  rw [if_neg e11]
  exact ref_none l e0 e1 e2 e3 e4 e6 e7 e8 e9 e5 e10 e11
theorem least {P : Nat → Bool} (n : Nat) : P n = true → ∃ j, j ≤ n ∧ P j = true ∧ ∀ i, i < j → P i = false := by
  induction n using Nat.strongRecOn with
  | ind n ih =>
    intro h
    by_cases hx : ∃ i, i < n ∧ P i = true
    · obtain ⟨i, hi, hp⟩ := hx
      obtain ⟨j, h1, h2, h3⟩ := ih i hi hp
      exact ⟨j, by omega, h2, h3⟩
    · refine ⟨n, Nat.le_refl _, h, fun i hi => ?_⟩
      cases hP : P i
      · rfl
      · exact absurd ⟨i, hi, hP⟩ hx
theorem strB_self (S : ByteArray) : strB S.data.toList = S := rfl
theorem str_occ {S : ByteArray} {f j : Nat} (h : f + j + 1 < S.size) : Lib.occAt (S.data.toList.drop f) [58, 93] j = (S[f + j]'(Nat.lt_of_succ_lt h) == 58 && S[f + j + 1]'h == 93) := by
  rw [Pl.occ2, List.getElem?_drop, List.getElem?_drop, ← Nat.add_assoc, str_at h, str_at (Nat.lt_of_succ_lt h)]
  rfl
theorem str_occ_no {S : ByteArray} {f j : Nat} (h : S.size ≤ f + j + 1) : Lib.occAt (S.data.toList.drop f) [58, 93] j = false := by
  rw [Pl.occ2, List.getElem?_drop, List.getElem?_drop, ← Nat.add_assoc, str_no h, Bool.and_eq_false_iff]
  exact .inr rfl

set_option maxRecDepth 100000 in
set_option maxHeartbeats 4000000 in
theorem refClass_miss (w : World) (B g : Nat) (S : ByteArray) (a : Nat) (x : Pl.TS) (h : StAt w B g S a x) (ha : a < S.size) (hs : S.size ≤ 1048576) (hm : Lib.hasPrefix (S.data.toList.drop a) [91, 58] = false) :
    Calls Tryz.prog 18 #[.pointer (some ⟨g, 0, none⟩)] w (StPost B g S a x none w) := by
  have HH := Lib.hid h
  obtain ⟨hBg, v, hblk, _⟩ := h
  have q0 : w.cell? ⟨g, 0, none⟩ = some (.string S) := hblk.cell 0
  have q1 : w.cell? ⟨g, 1, none⟩ = some (.int .i64 a) := hblk.cell 1
  have ql := hblk.lt
  have wa1 : IntKind.i64.wrap ((a : Int) + 1) = (a : Int) + 1 := IntWalk.i64_in _ (by omega)
  clear hblk
  by_cases h1 : a + 1 < S.size
  · rw [str_pre2 h1] at hm
    obtain ⟨z0, hz0⟩ : ∃ z : Int, ((S[a]'(Nat.lt_of_succ_lt h1)).toNat : Int) = z := ⟨_, rfl⟩
    obtain ⟨z1, hz1⟩ : ∃ z : Int, ((S[a + 1]'h1).toNat : Int) = z := ⟨_, rfl⟩
    have n0 := u8_ne hz0 (p := 91) (n := 91) rfl
    have n1 := u8_ne hz1 (p := 58) (n := 58) rfl
    have hi : (a : Int) + 1 < S.size := by omega
    have hd : decide ((S.size : Int) ≤ (a : Int) + 1) = false := decide_eq_false (by omega)
    cases e0 : S[a]'(Nat.lt_of_succ_lt h1) == 91 with
    | false =>
      rw [e0] at n0
      simp only [Bool.not_false] at n0
      clear hm n1 hz1 e0
      go_enter Tryz.func18, Tryz.ntmps18
      go_wp2_with fail
      go_quiet (fail)
      go_wp2_with fail
      go_returns
      exact ⟨bx (below_drew w _), rfl, HH.out.drewN _⟩
    | true =>
      rw [e0, Bool.true_and] at hm
      rw [e0] at n0
      rw [hm] at n1
      simp only [Bool.not_false, Bool.not_true] at n0 n1
      clear hm e0
      go_enter Tryz.func18, Tryz.ntmps18
      go_wp2_with fail
      go_quiet (fail)
      go_wp2_with fail
      go_returns
      exact ⟨bx (below_drew w _), rfl, HH.out.drewN _⟩
  · have hi : (S.size : Int) ≤ (a : Int) + 1 := by omega
    have hd : decide ((S.size : Int) ≤ (a : Int) + 1) = true := decide_eq_true hi
    clear hm h1
    go_enter Tryz.func18, Tryz.ntmps18
    go_wp2_with fail
    go_quiet (fail)
    go_wp2_with fail
    go_returns
    exact ⟨bx (below_drew w _), rfl, HH.out.drewN _⟩

set_option maxRecDepth 100000 in
set_option maxHeartbeats 4000000 in
theorem refClass_open (w : World) (B g : Nat) (S : ByteArray) (a : Nat) (x : Pl.TS) (h : StAt w B g S a x) (ha : a < S.size) (hs : S.size ≤ 1048576) (h1 : a + 1 < S.size) (h91 : (S[a]'ha == 91) = true) (h58 : (S[a + 1]'h1 == 58) = true) (f p : Nat) (hf : a + 2 = f) (hfp : f ≤ p) (hps : p ≤ S.size) (hno : ∀ (k : Nat) (hk : k + 1 < S.size), f ≤ k → k < p → (S[k]'(Nat.lt_of_succ_lt hk) == 58 && S[k + 1]'hk == 93) = false) (hend : p + 1 = S.size ∨ (p = S.size ∧ f = p)) :
    Calls Tryz.prog 18 #[.pointer (some ⟨g, 0, none⟩)] w (StPost B g S a x none w) := by
  have HH := Lib.hid h
  obtain ⟨hBg, v, hblk, _⟩ := h
  have q0 : w.cell? ⟨g, 0, none⟩ = some (.string S) := hblk.cell 0
  have q1 : w.cell? ⟨g, 1, none⟩ = some (.int .i64 a) := hblk.cell 1
  have ql := hblk.lt
  have wa1 : IntKind.i64.wrap ((a : Int) + 1) = (a : Int) + 1 := IntWalk.i64_in _ (by omega)
  clear hblk
  obtain ⟨z0, hz0⟩ : ∃ z : Int, ((S[a]'ha).toNat : Int) = z := ⟨_, rfl⟩
  obtain ⟨z1, hz1⟩ : ∃ z : Int, ((S[a + 1]'h1).toNat : Int) = z := ⟨_, rfl⟩
  have n0 : (z0 != 91) = false := by rw [u8_ne hz0 (p := 91) (n := 91) rfl, h91]; rfl
  have n1 : (z1 != 58) = false := by rw [u8_ne hz1 (p := 58) (n := 58) rfl, h58]; rfl
  have hi : (a : Int) + 1 < S.size := by omega
  have hd : decide ((S.size : Int) ≤ (a : Int) + 1) = false := decide_eq_false (by omega)
  have hfI : (a : Int) + 2 = f := by omega
  have HNO := Lib.hid hno
  clear h91 h58 hno
  go_enter Tryz.func18, Tryz.ntmps18
  go_wp2_with fail
  go_quiet (fail)
  go_wp2_with fail
  refine class_l1_miss _ B g S a x (HH.out.drewN _) hs f p hf hfp hps HNO.out hend ?_
  intro u2 u4 u5 u6 u7 u49 u50 u51 u52 u53 u54 u55 u56 u57 u58 u59 u60 u61 u62 u63 u64 u65 u66 u67 u68 u69 u70 u71 u72 u73 u74 u75 u76 u77 u78 u79 u80 u81 u82 u83 u84 u85 u86 u87 u88 u89 u90 u91 u92 u93 u94 u95 u96 u97 u98 u99 u100 u101 u102 u103 u104 u105 u106 u107 u108 u109 u110 u111 u112 u113 u114 u115 u116 u117 u118
  go_wp2_with fail
  go_returns
  exact ⟨bx (below_drew w _), rfl, HH.out.drewN _⟩

set_option maxRecDepth 100000 in
set_option maxHeartbeats 4000000 in
theorem refClass_known (w : World) (B g : Nat) (S : ByteArray) (a : Nat) (x : Pl.TS) (h : StAt w B g S a x) (ha : a < S.size) (hs : S.size ≤ 1048576) (hBw : B ≤ w.heap.size) (h1 : a + 1 < S.size) (h91 : (S[a]'ha == 91) = true) (h58 : (S[a + 1]'h1 == 58) = true) (f p : Nat) (hf : a + 2 = f) (hfp : f ≤ p) (hps : p ≤ S.size) (hno : ∀ (k : Nat) (hk : k + 1 < S.size), f ≤ k → k < p → (S[k]'(Nat.lt_of_succ_lt hk) == 58 && S[k + 1]'hk == 93) = false) (hp1 : p + 1 < S.size) (hp58 : (S[p]'(Nat.lt_of_succ_lt hp1) == 58) = true) (hp93 : (S[p + 1]'hp1 == 93) = true) (b : Nat) (hb : p + 2 = b) (nm : ByteArray) (hnm : S.extract f p = nm) (hcs : ∀ W, Calls Tryz.prog 34 #[.string nm] W fun e w' => e = .returned (.bool true) ∧ Below W.heap.size W w') (fc : UInt8 → Bool) (hcl : RefCls nm fc) (ho : x.out.length + 65536 ≤ 140737488355328) :
    Calls Tryz.prog 18 #[.pointer (some ⟨g, 0, none⟩)] w (TimesHit w B g S b { x with out := x.out ++ Pl.allB.filter fc }) := by
  have HH := Lib.hid h
  obtain ⟨hBg, v, hblk, _⟩ := h
  have q0 : w.cell? ⟨g, 0, none⟩ = some (.string S) := hblk.cell 0
  have q1 : w.cell? ⟨g, 1, none⟩ = some (.int .i64 a) := hblk.cell 1
  have ql := hblk.lt
  have wa1 : IntKind.i64.wrap ((a : Int) + 1) = (a : Int) + 1 := IntWalk.i64_in _ (by omega)
  clear hblk
  obtain ⟨z0, hz0⟩ : ∃ z : Int, ((S[a]'ha).toNat : Int) = z := ⟨_, rfl⟩
  obtain ⟨z1, hz1⟩ : ∃ z : Int, ((S[a + 1]'h1).toNat : Int) = z := ⟨_, rfl⟩
  have n0 : (z0 != 91) = false := by rw [u8_ne hz0 (p := 91) (n := 91) rfl, h91]; rfl
  have n1 : (z1 != 58) = false := by rw [u8_ne hz1 (p := 58) (n := 58) rfl, h58]; rfl
  have hi : (a : Int) + 1 < S.size := by omega
  have hd : decide ((S.size : Int) ≤ (a : Int) + 1) = false := decide_eq_false (by omega)
  have hfI : (a : Int) + 2 = f := by omega
  have HNO := Lib.hid hno
  clear h91 h58 hno
  have HP1 := Lib.hid hp58
  have HP2 := Lib.hid hp93
  have HCS := Lib.hid hcs
  have HCL := Lib.hid hcl
  clear hp58 hp93 hcs hcl
  go_enter Tryz.func18, Tryz.ntmps18
  go_wp2_with fail
  go_quiet (fail)
  go_wp2_with fail
  refine class_l1_known _ B g S a x (HH.out.drewN _) hBw hs f p hf hfp hps HNO.out hp1 HP1.out HP2.out b hb nm hnm HCS.out fc HCL.out ho ?_
  intro u4 u5 u6 u7 u49 u50 u51 u52 u53 u54 u55 u56 u57 u58 u59 u60 u61 u62 u63 u64 u65 u66 u67 u68 u69 u70 u71 u72 u73 u74 u75 u76 u77 u78 u79 u80 u81 u82 u83 u84 u85 u86 u87 u88 u89 u90 u91 u92 u93 u94 u95 u96 u97 u98 u99 u100 u101 u102 u103 u104 u105 u106 u107 u108 u109 u110 u111 u112 u113 u114 u115 u116 u117 u118 u3 w1 s1 x1
  go_wp2_with fail
  go_returns
  exact ⟨(bx (below_drew w _)).trans x1, rfl, s1⟩

set_option maxRecDepth 100000 in
set_option maxHeartbeats 4000000 in
theorem refClass_unknown (w : World) (B g : Nat) (S : ByteArray) (a : Nat) (x : Pl.TS) (h : StAt w B g S a x) (ha : a < S.size) (hs : S.size ≤ 1048576) (hBw : B ≤ w.heap.size) (h1 : a + 1 < S.size) (h91 : (S[a]'ha == 91) = true) (h58 : (S[a + 1]'h1 == 58) = true) (f p : Nat) (hf : a + 2 = f) (hfp : f ≤ p) (hps : p ≤ S.size) (hno : ∀ (k : Nat) (hk : k + 1 < S.size), f ≤ k → k < p → (S[k]'(Nat.lt_of_succ_lt hk) == 58 && S[k + 1]'hk == 93) = false) (hp1 : p + 1 < S.size) (hp58 : (S[p]'(Nat.lt_of_succ_lt hp1) == 58) = true) (hp93 : (S[p + 1]'hp1 == 93) = true) (b : Nat) (hb : p + 2 = b) (nm : ByteArray) (hnm : S.extract f p = nm) (hcs : ∀ W, Calls Tryz.prog 34 #[.string nm] W fun e w' => e = .returned (.bool false) ∧ Below W.heap.size W w') (hcl : RefCls nm fun _ => false) (ho : x.out.length + 65536 ≤ 140737488355328) :
    Calls Tryz.prog 18 #[.pointer (some ⟨g, 0, none⟩)] w (TimesHit w B g S b { x with bad := true }) := by
  have HH := Lib.hid h
  obtain ⟨hBg, v, hblk, _⟩ := h
  have q0 : w.cell? ⟨g, 0, none⟩ = some (.string S) := hblk.cell 0
  have q1 : w.cell? ⟨g, 1, none⟩ = some (.int .i64 a) := hblk.cell 1
  have ql := hblk.lt
  have wa1 : IntKind.i64.wrap ((a : Int) + 1) = (a : Int) + 1 := IntWalk.i64_in _ (by omega)
  clear hblk
  obtain ⟨z0, hz0⟩ : ∃ z : Int, ((S[a]'ha).toNat : Int) = z := ⟨_, rfl⟩
  obtain ⟨z1, hz1⟩ : ∃ z : Int, ((S[a + 1]'h1).toNat : Int) = z := ⟨_, rfl⟩
  have n0 : (z0 != 91) = false := by rw [u8_ne hz0 (p := 91) (n := 91) rfl, h91]; rfl
  have n1 : (z1 != 58) = false := by rw [u8_ne hz1 (p := 58) (n := 58) rfl, h58]; rfl
  have hi : (a : Int) + 1 < S.size := by omega
  have hd : decide ((S.size : Int) ≤ (a : Int) + 1) = false := decide_eq_false (by omega)
  have hfI : (a : Int) + 2 = f := by omega
  have HNO := Lib.hid hno
  clear h91 h58 hno
  have HP1 := Lib.hid hp58
  have HP2 := Lib.hid hp93
  have HCS := Lib.hid hcs
  have HCL := Lib.hid hcl
  clear hp58 hp93 hcs hcl
  go_enter Tryz.func18, Tryz.ntmps18
  go_wp2_with fail
  go_quiet (fail)
  go_wp2_with fail
  refine class_l1_unknown _ B g S a x (HH.out.drewN _) hBw hs f p hf hfp hps HNO.out hp1 HP1.out HP2.out b hb nm hnm HCS.out HCL.out ho ?_
  intro u4 u5 u6 u7 u49 u50 u51 u52 u53 u54 u55 u56 u57 u58 u59 u60 u61 u62 u63 u64 u65 u66 u67 u68 u69 u70 u71 u72 u73 u74 u75 u76 u77 u78 u79 u80 u81 u82 u83 u84 u85 u86 u87 u88 u89 u90 u91 u92 u93 u94 u95 u96 u97 u98 u99 u100 u101 u102 u103 u104 u105 u106 u107 u108 u109 u110 u111 u112 u113 u114 u115 u116 u117 u118 u3 w1 s1 x1
  go_wp2_with fail
  go_returns
  exact ⟨(bx (below_drew w _)).trans x1, rfl, s1⟩

theorem refClass_any (w : World) (B g : Nat) (S : ByteArray) (a : Nat) (x : Pl.TS) (h : StAt w B g S a x) (hBw : B ≤ w.heap.size) (ha : a < S.size) (hs : S.size ≤ 1048576) (ho : x.out.length + 65536 ≤ 140737488355328) :
    Calls Tryz.prog 18 #[.pointer (some ⟨g, 0, none⟩)] w (StPost B g S a x (Pl.classS (S.data.toList.drop a) x) w) := by
  have hl : S.data.toList.length = S.size := Array.length_toList
  obtain ⟨s, hsd⟩ : ∃ s, S.data.toList.drop a = s := ⟨_, rfl⟩
  cases hA : Lib.hasPrefix s [91, 58] with
  | false =>
    have hr : Pl.classS s x = none := if_neg fun k => by rw [hA] at k; exact absurd k.1 (by decide)
    rw [hsd, hr]
    exact refClass_miss w B g S a x h ha hs (by rw [hsd]; exact hA)
  | true =>
    have h1 : a + 1 < S.size := by
      rcases Nat.lt_or_ge (a + 1) S.size with h | h
      · exact h
      · rw [← hsd, str_pre2_no h] at hA; cases hA
    have hA2 := hA
    rw [← hsd, str_pre2 h1, Bool.and_eq_true] at hA2
    obtain ⟨f, hf⟩ : ∃ f, a + 2 = f := ⟨_, rfl⟩
    have ht : s.drop 2 = S.data.toList.drop f := by rw [← hsd, List.drop_drop, hf]
    by_cases hx : ∃ n, Lib.occAt (S.data.toList.drop f) [58, 93] n = true
    · obtain ⟨n, hn⟩ := hx
      obtain ⟨j, _, hj, hfirst⟩ := least (P := Lib.occAt (S.data.toList.drop f) [58, 93]) n hn
      have hp1 : f + j + 1 < S.size := by
        rcases Nat.lt_or_ge (f + j + 1) S.size with h | h
        · exact h
        · rw [str_occ_no h] at hj; cases hj
      have hcut := Pl.cut_hit (t := S.data.toList.drop f) (a := 58) (b := 93) (k := j) (by rw [List.length_drop]; omega) hj hfirst
      have hj2 := hj
      rw [str_occ hp1, Bool.and_eq_true] at hj2
      obtain ⟨p, hp⟩ : ∃ p, f + j = p := ⟨_, rfl⟩
      obtain ⟨b, hb⟩ : ∃ b, p + 2 = b := ⟨_, rfl⟩
      have hno : ∀ (k : Nat) (hk : k + 1 < S.size), f ≤ k → k < p → (S[k]'(Nat.lt_of_succ_lt hk) == 58 && S[k + 1]'hk == 93) = false := fun k hk h1 h2 => by
        obtain ⟨i, rfl⟩ : ∃ i, k = f + i := ⟨k - f, by omega⟩
        rw [← str_occ hk]
        exact hfirst i (by omega)
      obtain ⟨nm, hnm⟩ : ∃ nm, S.extract f p = nm := ⟨_, rfl⟩
      have hnl : nm.data.toList = (S.data.toList.drop f).take j := by rw [← hnm, extract_toList, List.drop_take, show p - f = j by omega]
      have hnS : strB ((S.data.toList.drop f).take j) = nm := by rw [← hnl]; rfl
      obtain ⟨l, hll⟩ : ∃ l, (S.data.toList.drop f).take j = l := ⟨_, rfl⟩
      rw [hll] at hnS hcut
      have hdb : (S.data.toList.drop f).drop (j + 2) = S.data.toList.drop b := by rw [List.drop_drop]; congr 1; omega
      rw [hdb] at hcut
      have hcs := fun W => refClasses_any l W
      have hcl := refCls_of l
      rw [hnS] at hcs hcl
      subst hp
      cases hco : Pl.classOf l with
      | some fc =>
        have hr : Pl.classS s x = some (S.data.toList.drop b, { x with out := x.out ++ Pl.allB.filter fc }) := by
          unfold Pl.classS
          rw [ht, hcut, if_pos ⟨hA, rfl⟩]
          simp only [hco]
        rw [hco] at hcs hcl
        rw [hsd, hr]
        exact (refClass_known w B g S a x h ha hs hBw h1 hA2.1 hA2.2 f (f + j) hf (by omega) (by omega) hno hp1 hj2.1 hj2.2 b hb nm hnm hcs fc hcl ho).mono fun e w' hh => StPost.hit (by omega) rfl hh
      | none =>
        have hr : Pl.classS s x = some (S.data.toList.drop b, { x with bad := true }) := by
          unfold Pl.classS
          rw [ht, hcut, if_pos ⟨hA, rfl⟩]
          simp only [hco]
        rw [hco] at hcs hcl
        rw [hsd, hr]
        exact (refClass_unknown w B g S a x h ha hs hBw h1 hA2.1 hA2.2 f (f + j) hf (by omega) (by omega) hno hp1 hj2.1 hj2.2 b hb nm hnm hcs hcl ho).mono fun e w' hh => StPost.hit (by omega) rfl hh
    · have hnone : ∀ j, Lib.occAt (S.data.toList.drop f) [58, 93] j = false := fun j => by
        cases hP : Lib.occAt (S.data.toList.drop f) [58, 93] j
        · rfl
        · exact absurd ⟨j, hP⟩ hx
      have hcut := Pl.cut_miss (t := S.data.toList.drop f) (a := 58) (b := 93) fun j _ => hnone j
      have hr : Pl.classS s x = none := if_neg fun k => by rw [ht, hcut] at k; exact Bool.false_ne_true k.2
      rw [hsd, hr]
      have hno : ∀ (p k : Nat) (hk : k + 1 < S.size), f ≤ k → k < p → (S[k]'(Nat.lt_of_succ_lt hk) == 58 && S[k + 1]'hk == 93) = false := fun p k hk h1 h2 => by
        obtain ⟨i, rfl⟩ : ∃ i, k = f + i := ⟨k - f, by omega⟩
        rw [← str_occ hk]
        exact hnone i
      by_cases hfs : f = S.size
      · exact refClass_open w B g S a x h ha hs h1 hA2.1 hA2.2 f f hf (Nat.le_refl _) (by omega) (hno f) (.inr ⟨hfs, rfl⟩)
      · exact refClass_open w B g S a x h ha hs h1 hA2.1 hA2.2 f (S.size - 1) hf (by omega) (by omega) (hno _) (.inl (by omega))

end Go.Proofs.YtlhiadnolckoeaaGreatDoor
end
