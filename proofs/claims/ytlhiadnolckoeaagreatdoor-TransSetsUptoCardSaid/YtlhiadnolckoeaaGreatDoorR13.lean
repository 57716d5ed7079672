/-
  Parts that the claims share: A walk over class: a class of bytes by its name; A walk over trans.Set: what a string of tr stands for; The plain mathematics of layer 6 (opt): what kind, parse, has and last compute, as plain functions on lists. Nothing of the program stands here; Cells of options and of strings; an option appended; Letters among options.
-/
import Derived.Test.YtlhiadnolckoeaaGreatDoorR11
import Derived.Test.YtlhiadnolckoeaaGreatDoorR10
import Derived.Test.YtlhiadnolckoeaaGreatDoorR02
import Derived.LoopN
import Derived.Test.YtlhiadnolckoeaaGreatDoorR12
import Derived.Deep.LoopGhost
import Derived.Test.YtlhiadnolckoeaaGreatDoorRows
import Derived.Test.YtlhiadnolckoeaaGreatDoorR01
import Derived.WalkKit
import Derived.WalkSpells
import Derived.WalkLawsBesides
import Derived.Lib.Hide
import Derived.Handy
import Derived.BigQuiet
import Derived.Deep.QuietTactic
import Derived.Deep.DeepMust
import Derived.Lib.Strings
import Derived.Deep.RegionLaw
import Derived.BigRegion
import Derived.Deep.DrawnRows

section
namespace Go.Proofs.YtlhiadnolckoeaaGreatDoor
open Go.RowKit Go.Maps

namespace Pl
theorem allB_take {k : Nat} (hk : k < 256) : allB.take (k + 1) = allB.take k ++ [UInt8.ofNat k] := by
  have h : allB[k]? = some (UInt8.ofNat k) := by simp [allB, hk]
  rw [List.take_add_one, h]; rfl
theorem allB_all : allB.take 256 = allB := List.take_of_length_le (by simp [allB])
theorem allB_yes {k : Nat} (hk : k < 256) {f : UInt8 → Bool} (h : f (UInt8.ofNat k) = true) : (allB.take (k + 1)).filter f = (allB.take k).filter f ++ [UInt8.ofNat k] := by
  rw [allB_take hk, List.filter_append, List.filter_cons_of_pos h]; rfl
theorem allB_no {k : Nat} (hk : k < 256) {f : UInt8 → Bool} (h : f (UInt8.ofNat k) = false) : (allB.take (k + 1)).filter f = (allB.take k).filter f := by
  rw [allB_take hk, List.filter_append, List.filter_cons_of_neg (by simp [h])]; simp
theorem allB_part (k : Nat) (f : UInt8 → Bool) : ((allB.take k).filter f).length ≤ 256 :=
  Nat.le_trans (List.length_filter_le _ _) (Nat.le_trans (List.length_take_le' _ _) (by simp [allB]))
end Pl

theorem cutStr (s : List UInt8) (sep : ByteArray) (hs : s.length < 4294967281) (w : World) (hT : Tabs w) : Calls Tryz.prog 27 #[.string (strB s), .string sep] w fun e w' =>
    e = .returned (.tuple #[.string (strB (Lib.cut s sep.data.toList).1), .string (strB (Lib.cut s sep.data.toList).2.1), .bool (Lib.cut s sep.data.toList).2.2]) ∧ ∃ n, w' = w.drewN n := by
  obtain ⟨m, hm⟩ := hT.maxL
  exact Tryz.strings_Cut (strB s) sep m w (by rw [strB_size]; exact hs) hm
theorem zeroCls (w : World) : (zeroValue 75).run Tryz.prog w = .ok (.agg #[.nilFunc]) w := by kernel_rfl

set_option maxRecDepth 100000 in
set_option maxHeartbeats 2000000 in
theorem class_miss (w : World) (B g : Nat) (s : List UInt8) (x : Pl.TS) (h : SetAt w B g x) (hs : s.length < 1000000000) (hT : Tabs w)
    (hn : ¬ (Lib.hasPrefix s [91, 58] = true ∧ (Lib.cut (s.drop 2) [58, 93]).2.2 = true)) :
    Calls Tryz.prog 14 #[.pointer (some ⟨g, 0, none⟩), .string (strB s)] w (KindPost B g s x none w) := by
  by_cases h1 : Lib.hasPrefix s [91, 58] = true
  · have hc1 := cutPre_yes s ⟨#[91, 58]⟩ h1
    rw [show (⟨#[91, 58]⟩ : ByteArray).size = 2 from rfl] at hc1
    have hc2 := cutStr (s.drop 2) ⟨#[58, 93]⟩ (by rw [List.length_drop]; omega) w hT
    have h2 : (Lib.cut (s.drop 2) (⟨#[58, 93]⟩ : ByteArray).data.toList).2.2 = false := Bool.eq_false_iff.2 fun k => hn ⟨h1, k⟩
    rw [h2] at hc2
    obtain ⟨T, hT'⟩ : ∃ T, strB (s.drop 2) = T := ⟨_, rfl⟩
    obtain ⟨U, hU⟩ : ∃ U, strB (Lib.cut (s.drop 2) (⟨#[58, 93]⟩ : ByteArray).data.toList).1 = U := ⟨_, rfl⟩
    obtain ⟨V, hV⟩ : ∃ V, strB (Lib.cut (s.drop 2) (⟨#[58, 93]⟩ : ByteArray).data.toList).2.1 = V := ⟨_, rfl⟩
    simp only [hT', hU, hV] at hc1 hc2
    clear h1 h2 hn hT hU hV hT'
    go_enter Tryz.func14, Tryz.ntmps14
    go_wp2_with (first
      | (go_at_call 26; refine (hc1 _).mono ?_; rintro e w1 ⟨rfl, rfl⟩)
      | (go_at_call 27; refine hc2.mono ?_; rintro e w1 ⟨rfl, k, hk⟩; subst hk))
    go_returns
    exact ⟨bx (below_drew w k), rfl, h.drewN k⟩
  · have hc1 := cutPre_no s ⟨#[91, 58]⟩ (Bool.eq_false_iff.2 h1)
    clear h1 hn hT
    go_enter Tryz.func14, Tryz.ntmps14
    go_wp2_with (go_at_call 26; refine (hc1 _).mono ?_; rintro e w1 ⟨rfl, rfl⟩)
    go_returns
    exact ⟨bx (Below.refl _ _), rfl, h⟩

set_option maxRecDepth 100000 in
set_option maxHeartbeats 2000000 in
theorem class_unknown (w : World) (B g : Nat) (s : List UInt8) (x : Pl.TS) (h : SetAt w B g x) (hBw : B ≤ w.heap.size) (hs : s.length < 1000000000) (hT : Tabs w)
    (h1 : Lib.hasPrefix s [91, 58] = true) (h2 : (Lib.cut (s.drop 2) [58, 93]).2.2 = true) (hno : Pl.classOf (Lib.cut (s.drop 2) [58, 93]).1 = none) :
    Calls Tryz.prog 14 #[.pointer (some ⟨g, 0, none⟩), .string (strB s)] w (KindPost B g s x (some ((Lib.cut (s.drop 2) [58, 93]).2.1, { x with bad := true })) w) := by
  have hc1 := cutPre_yes s ⟨#[91, 58]⟩ h1
  rw [show (⟨#[91, 58]⟩ : ByteArray).size = 2 from rfl] at hc1
  have hc2 : Calls Tryz.prog 27 #[.string (strB (s.drop 2)), .string ⟨#[58, 93]⟩] w fun e w' =>
      e = .returned (.tuple #[.string (strB (Lib.cut (s.drop 2) [58, 93]).1), .string (strB (Lib.cut (s.drop 2) [58, 93]).2.1), .bool (Lib.cut (s.drop 2) [58, 93]).2.2]) ∧ ∃ n, w' = w.drewN n := cutStr (s.drop 2) ⟨#[58, 93]⟩ (by rw [List.length_drop]; omega) w hT
  rw [h2] at hc2
  have hnl : (Lib.cut (s.drop 2) [58, 93]).1.length ≤ maxLen := by
    have : (Lib.cut (s.drop 2) [58, 93]).1.length ≤ (s.drop 2).length := by
      unfold Lib.cut
      split
      · exact List.length_take_le' _ _
      · exact Nat.le_refl _
    rw [List.length_drop] at this
    unfold maxLen
    omega
  obtain ⟨name, hname⟩ : ∃ name, (Lib.cut (s.drop 2) [58, 93]).1 = name := ⟨_, rfl⟩
  obtain ⟨left, hleft⟩ : ∃ left, (Lib.cut (s.drop 2) [58, 93]).2.1 = left := ⟨_, rfl⟩
  rw [hname] at hc2 hno hnl
  rw [hleft] at hc2 ⊢
  have hf : clsF (.string name) = none := by
    rcases clsF_is name with ⟨_, k⟩ | ⟨_, _, k, _⟩
    · exact k
    · rw [hno] at k; cases k
  have hkey : keyOf Tryz.prog 9 (.string (strB name)) = some (.string name) := key_lit name hnl
  obtain ⟨T, hT'⟩ : ∃ T, strB (s.drop 2) = T := ⟨_, rfl⟩
  obtain ⟨U, hU⟩ : ∃ U, strB name = U := ⟨_, rfl⟩
  obtain ⟨V, hV⟩ : ∃ V, strB left = V := ⟨_, rfl⟩
  simp only [hT', hU, hV] at hc1 hc2 hkey
  obtain ⟨hBg, v, hblk, hown⟩ := h
  have HOWN := Lib.hid hown
  have HBLK := Lib.hid hblk
  have HV := Lib.hid hV
  have HF := Lib.hid hf
  have hgl := hblk.lt
  clear h1 h2 hT hU hV hT' hown hblk hf hname hleft hnl hno
  go_enter Tryz.func14, Tryz.ntmps14
  go_wp2_with (first
    | (go_at_call 26; refine (hc1 _).mono ?_; rintro e w1 ⟨rfl, rfl⟩)
    | (go_at_call 27; refine hc2.mono ?_; rintro e w1 ⟨rfl, k, hk⟩; subst hk)
    | (go_at_call 28; refine (classes_any _).mono ?_; rintro e w2 ⟨rfl, ⟨n, hn, hm⟩, hb⟩
       have hb2 : Below w.heap.size w w2 := (below_drew w k).trans hb
       have HB2 := Lib.hid (HBLK.out.on hb2)
       have l2 := HB2.out.lt)
    | (refine wpList_store_blk rfl 75 (.tmp 9) (.tmp 33) rfl w2.heap.size 75 #[.nilFunc] #[.nilFunc] rfl rfl (Blk.new w2 _ _) rfl (by kernel_rfl) (by kernel_rfl) ?_
       intro w3 b3 g3
       have HB3 := Lib.hid (Blk.grown (HB2.out.alloc _) g3 (by simp; omega))
       have hs2 := hb2.size
       have HO3 := Lib.hid (ownsRow_same HOWN.out fun j hj => (g3.block j (by have := (HOWN.out.lt j hj).2; simp; omega) (by have := (HOWN.out.lt j hj).2; simp; omega)).trans ((Below.heap_alloc w2 _ j (by have := (HOWN.out.lt j hj).2; omega)).trans (hb2.block j (HOWN.out.lt j hj).2)))
       have HBB := Lib.hid (((below_le hb2 hBw).alloc (by omega) _).grown g3 (by simp; omega) (fun j hj => by cases hj; omega))
       have q3 : w3.cell? ⟨g, 2, none⟩ = some (.bool x.bad) := HB3.out.cell 2
       have f3 : w3.frozen? ⟨g, 2, none⟩ = false := HB3.out.frozen 2
       have l3 := HB3.out.lt)
    | (refine wpList_look_of _ rfl _ _ 77 rfl 9 75 stringKeys Tryz.underlying77 _ (zeroCls _) _ _ _ rfl hm _ _ rfl hkey ?_; rw [HF.out]))
  all_goals
    refine wp_loop_rounds 1 ?_
    rw [rounds_succ]
    go_wp2_with fail
    go_returns
    exact ⟨(bx HBB.out).setG 2 _, by rw [HV.out]; rfl, hBg, v, HB3.out.set_ 2 _, ownsRow_setCell_other HO3.out (own_blk_ne HO3.out HB3.out (by decide)) _⟩

set_option maxRecDepth 100000 in
set_option maxHeartbeats 4000000 in
theorem class_known (w : World) (B g : Nat) (s : List UInt8) (x : Pl.TS) (h : SetAt w B g x) (hBw : B ≤ w.heap.size) (hs : s.length < 1000000000) (ho : x.out.length + 65536 ≤ 140737488355328) (hT : Tabs w) (f : UInt8 → Bool)
    (h1 : Lib.hasPrefix s [91, 58] = true) (h2 : (Lib.cut (s.drop 2) [58, 93]).2.2 = true) (hyes : Pl.classOf (Lib.cut (s.drop 2) [58, 93]).1 = some f) :
    Calls Tryz.prog 14 #[.pointer (some ⟨g, 0, none⟩), .string (strB s)] w (KindPost B g s x (some ((Lib.cut (s.drop 2) [58, 93]).2.1, { x with out := x.out ++ Pl.allB.filter f })) w) := by
  have hc1 := cutPre_yes s ⟨#[91, 58]⟩ h1
  rw [show (⟨#[91, 58]⟩ : ByteArray).size = 2 from rfl] at hc1
  have hc2 : Calls Tryz.prog 27 #[.string (strB (s.drop 2)), .string ⟨#[58, 93]⟩] w fun e w' =>
      e = .returned (.tuple #[.string (strB (Lib.cut (s.drop 2) [58, 93]).1), .string (strB (Lib.cut (s.drop 2) [58, 93]).2.1), .bool (Lib.cut (s.drop 2) [58, 93]).2.2]) ∧ ∃ n, w' = w.drewN n := cutStr (s.drop 2) ⟨#[58, 93]⟩ (by rw [List.length_drop]; omega) w hT
  rw [h2] at hc2
  have hnl : (Lib.cut (s.drop 2) [58, 93]).1.length ≤ maxLen := by
    have : (Lib.cut (s.drop 2) [58, 93]).1.length ≤ (s.drop 2).length := by
      unfold Lib.cut
      split
      · exact List.length_take_le' _ _
      · exact Nat.le_refl _
    rw [List.length_drop] at this
    unfold maxLen
    omega
  obtain ⟨name, hname⟩ : ∃ name, (Lib.cut (s.drop 2) [58, 93]).1 = name := ⟨_, rfl⟩
  obtain ⟨left, hleft⟩ : ∃ left, (Lib.cut (s.drop 2) [58, 93]).2.1 = left := ⟨_, rfl⟩
  rw [hname] at hc2 hyes hnl
  rw [hleft] at hc2 ⊢
  obtain ⟨id, hf, hcl, hen⟩ : ∃ id, clsF (.string name) = some (clsV id) ∧ IsClass id f ∧ ∀ args W, (callFunc id args).run Tryz.prog W = .ok (.enter id args) W := by
    rcases clsF_is name with ⟨k, _⟩ | ⟨f', id, k, k1, k2, k3⟩
    · rw [hyes] at k; cases k
    · rw [hyes] at k
      cases k
      exact ⟨id, k1, k2, k3⟩
  unfold clsV at hf
  have hkey : keyOf Tryz.prog 9 (.string (strB name)) = some (.string name) := key_lit name hnl
  obtain ⟨T, hT'⟩ : ∃ T, strB (s.drop 2) = T := ⟨_, rfl⟩
  obtain ⟨U, hU⟩ : ∃ U, strB name = U := ⟨_, rfl⟩
  obtain ⟨V, hV⟩ : ∃ V, strB left = V := ⟨_, rfl⟩
  simp only [hT', hU, hV] at hc1 hc2 hkey
  obtain ⟨hBg, v, hblk, hown⟩ := h
  have HOWN := Lib.hid hown
  have HV := Lib.hid hV
  have HF := Lib.hid hf
  have hgl := hblk.lt
  have h8 : ∀ j, j < 256 → ((UInt8.ofNat j).toNat : Int) = (j : Int) := fun j hj => by rw [UInt8.toNat_ofNat', Nat.mod_eq_of_lt hj]
  clear h1 h2 hT hU hV hT' hown hf hname hleft hnl hyes
  obtain ⟨bd, hbd⟩ : ∃ bd, x.bad = bd := ⟨_, rfl⟩
  rw [hbd] at hblk ⊢
  clear hbd
  cases bd
  · have HBLK := Lib.hid hblk
    clear hblk
    go_enter Tryz.func14, Tryz.ntmps14
    go_wp2_with (first
      | (go_at_call 26; refine (hc1 _).mono ?_; rintro e w1 ⟨rfl, rfl⟩)
      | (go_at_call 27; refine hc2.mono ?_; rintro e w1 ⟨rfl, k, hk⟩; subst hk)
      | (go_at_call 28; refine (classes_any _).mono ?_; rintro e w2 ⟨rfl, ⟨n, hn, hm⟩, hb⟩
         have hb2 : Below w.heap.size w w2 := (below_drew w k).trans hb
         have HB2 := Lib.hid (HBLK.out.on hb2)
         obtain ⟨kb, hkb⟩ : ∃ kb, w2.heap.size = kb := ⟨_, rfl⟩
         have hkg : kb ≠ g := (by have := HB2.out.lt; omega)
         have l2 := HB2.out.lt)
      | (refine wpList_store_blk rfl 75 (.tmp 9) (.tmp 33) rfl kb 75 #[.nilFunc] #[.func (.func id) #[] #[]] (by rw [← hkb]; rfl) rfl (by rw [← hkb]; exact Blk.new w2 _ _) rfl (by kernel_rfl) (by kernel_rfl) ?_
         intro w3 b3 g3
         have HB3 := Lib.hid (Blk.grown (HB2.out.alloc _) g3 (by simp; omega))
         have hs2 := hb2.size
         have HK3 := Lib.hid b3
         have HO3 := Lib.hid (ownsRow_same HOWN.out fun j hj => (g3.block j (by have := (HOWN.out.lt j hj).2; simp; omega) (by have := (HOWN.out.lt j hj).2; simp; omega)).trans ((Below.heap_alloc w2 _ j (by have := (HOWN.out.lt j hj).2; omega)).trans (hb2.block j (HOWN.out.lt j hj).2)))
         have HBB := Lib.hid (((below_le hb2 hBw).alloc (by omega) _).grown g3 (by simp; omega) (fun j hj => by cases hj; omega))
         have q3 : w3.cell? ⟨g, 2, none⟩ = some (.bool false) := HB3.out.cell 2
         have f3 : w3.frozen? ⟨g, 2, none⟩ = false := HB3.out.frozen 2
         have l3 := HB3.out.lt)
      | (refine wpList_look_of _ rfl _ _ 77 rfl 9 75 stringKeys Tryz.underlying77 _ (zeroCls _) _ _ _ rfl hm _ _ rfl hkey ?_; rw [HF.out]))
    go_loopw [11] (fun kv wr => ∃ j : Nat, j ≤ 256 ∧ kv = .int .i64 j ∧ SetAt wr B g { x with out := x.out ++ (Pl.allB.take j).filter f, bad := false } ∧ Blk wr kb 75 #[.func (.func id) #[] #[]] ∧ BX B g w wr) (fun kv _ => 256 - (intOf kv).toNat)
    case atStart => exact ⟨0, by omega, rfl, ⟨hBg, v, HB3.out.set_ 2 _, by simpa using ownsRow_setCell_other HO3.out (own_blk_ne HO3.out HB3.out (by decide)) _⟩, HK3.out.far hkg _, (bx HBB.out).setG 2 _⟩
    case round =>
      obtain ⟨j, hj, rfl, ⟨_, v3, hb3, hown3⟩, hkb, hbl⟩ := hrel
      obtain ⟨A, cp, rfl, _⟩ := own_slice hown3
      have hszr : B ≤ wr.heap.size := Nat.le_trans hBw hbl.size
      have hpl := Pl.allB_part j f
      by_cases hlt : j < 256
      · have h8j := h8 j hlt
        have hcl' : ∀ W, Calls Tryz.prog id #[.int .u8 (j : Int)] W fun e w' => e = .returned (.bool (f (UInt8.ofNat j))) ∧ W = w' := fun W => h8j ▸ hcl (UInt8.ofNat j) W
        have hgl3 := hb3.lt
        obtain ⟨m, hm⟩ : ∃ m, (x.out ++ (Pl.allB.take j).filter f).length = m := ⟨_, rfl⟩
        have hml : m ≤ x.out.length + 256 := by rw [← hm, List.length_append]; omega
        simp only [hm] at hown3 hb3
        have e0 : wr.cell? ⟨g, 0, none⟩ = some (.slice A m cp) := hb3.cell 0
        have e1 : wr.cell? ⟨kb, 0, none⟩ = some (.func (.func id) #[] #[]) := hkb.cell 0
        have HO := Lib.hid hown3
        have HB := Lib.hid hb3
        have HM := Lib.hid hm
        have HL := Lib.hid hbl
        have HKB := Lib.hid hkb
        clear hown3 hb3 hm hbl hpl hkb
        cases hfj : f (UInt8.ofNat j) with
        | true =>
          rw [hfj] at hcl'
          have HP := Lib.hid (Pl.allB_yes hlt hfj)
          clear hfj
          go_wp2_with (first
            | (at_builtin; refine wpList_pushI rfl _ _ rfl wr B (.slice A m cp) m (x.out ++ (Pl.allB.take j).filter f) (UInt8.ofNat j) _ h8j rfl HO.out HM.out.symm rfl (by omega) (by omega) ?_; intro A2 c2' w5 hown2 hg2 hat2
               have b2 := Blk.grown (HB.out.alloc _) hg2 (own_blk_ne HO.out HB.out (by decide)).symm
               have bk := Blk.grown (HKB.out.alloc _) hg2 (own_blk_ne HO.out HKB.out (by decide)).symm
               have q2 := b2.cell 0; have f2' := b2.frozen 0; have l2 := b2.lt)
            | (with_reducible refine (hcl' _).mono ?_; rintro e w1 ⟨rfl, rfl⟩))
          refine ⟨⟨j + 1, by omega, by go_num, ?_, bk.far hkg _, ?_⟩, by simp [intOf]; omega⟩
          · rw [HP.out, ← List.append_assoc]
            exact SetAt.pushed (x := { x with out := x.out ++ (Pl.allB.take j).filter f, bad := false }) hBg rfl rfl b2 (by rw [show (x.out ++ (Pl.allB.take j).filter f).length = m from HM.out]; exact hown2)
          · exact ((HL.out.alloc (by omega) _).grown hg2 (by simp; omega) (fun i hi => (HO.out.lt i hi).1)).setG 0 _
        | false =>
          rw [hfj] at hcl'
          have HP := Lib.hid (Pl.allB_no hlt hfj)
          clear hfj
          go_wp2_with (with_reducible refine (hcl' _).mono ?_; rintro e w1 ⟨rfl, rfl⟩)
          refine ⟨⟨j + 1, by omega, by go_num, ?_, HKB.out, HL.out⟩, by simp [intOf]; omega⟩
          rw [HP.out]
          exact ⟨hBg, _, HB.out, by rw [show (x.out ++ (Pl.allB.take j).filter f).length = m from HM.out]; exact HO.out⟩
      · obtain rfl : j = 256 := by omega
        rw [Pl.allB_all] at hown3
        have HF2 := Lib.hid (show SetAt wr B g { x with out := x.out ++ Pl.allB.filter f, bad := false } from ⟨hBg, _, hb3, hown3⟩)
        clear hown3 hb3 hpl
        go_wp2_with fail
        go_returns
        exact ⟨hbl, by rw [HV.out]; rfl, HF2.out⟩
  · have HBLK := Lib.hid hblk
    clear hblk
    go_enter Tryz.func14, Tryz.ntmps14
    go_wp2_with (first
      | (go_at_call 26; refine (hc1 _).mono ?_; rintro e w1 ⟨rfl, rfl⟩)
      | (go_at_call 27; refine hc2.mono ?_; rintro e w1 ⟨rfl, k, hk⟩; subst hk)
      | (go_at_call 28; refine (classes_any _).mono ?_; rintro e w2 ⟨rfl, ⟨n, hn, hm⟩, hb⟩
         have hb2 : Below w.heap.size w w2 := (below_drew w k).trans hb
         have HB2 := Lib.hid (HBLK.out.on hb2)
         obtain ⟨kb, hkb⟩ : ∃ kb, w2.heap.size = kb := ⟨_, rfl⟩
         have hkg : kb ≠ g := (by have := HB2.out.lt; omega)
         have l2 := HB2.out.lt)
      | (refine wpList_store_blk rfl 75 (.tmp 9) (.tmp 33) rfl kb 75 #[.nilFunc] #[.func (.func id) #[] #[]] (by rw [← hkb]; rfl) rfl (by rw [← hkb]; exact Blk.new w2 _ _) rfl (by kernel_rfl) (by kernel_rfl) ?_
         intro w3 b3 g3
         have HB3 := Lib.hid (Blk.grown (HB2.out.alloc _) g3 (by simp; omega))
         have hs2 := hb2.size
         have HK3 := Lib.hid b3
         have HO3 := Lib.hid (ownsRow_same HOWN.out fun j hj => (g3.block j (by have := (HOWN.out.lt j hj).2; simp; omega) (by have := (HOWN.out.lt j hj).2; simp; omega)).trans ((Below.heap_alloc w2 _ j (by have := (HOWN.out.lt j hj).2; omega)).trans (hb2.block j (HOWN.out.lt j hj).2)))
         have HBB := Lib.hid (((below_le hb2 hBw).alloc (by omega) _).grown g3 (by simp; omega) (fun j hj => by cases hj; omega))
         have q3 : w3.cell? ⟨g, 2, none⟩ = some (.bool true) := HB3.out.cell 2
         have f3 : w3.frozen? ⟨g, 2, none⟩ = false := HB3.out.frozen 2
         have l3 := HB3.out.lt)
      | (refine wpList_look_of _ rfl _ _ 77 rfl 9 75 stringKeys Tryz.underlying77 _ (zeroCls _) _ _ _ rfl hm _ _ rfl hkey ?_; rw [HF.out]))
    go_loopw [11] (fun kv wr => ∃ j : Nat, j ≤ 256 ∧ kv = .int .i64 j ∧ SetAt wr B g { x with out := x.out ++ (Pl.allB.take j).filter f, bad := true } ∧ Blk wr kb 75 #[.func (.func id) #[] #[]] ∧ BX B g w wr) (fun kv _ => 256 - (intOf kv).toNat)
    case atStart => exact ⟨0, by omega, rfl, ⟨hBg, v, HB3.out.set_ 2 _, by simpa using ownsRow_setCell_other HO3.out (own_blk_ne HO3.out HB3.out (by decide)) _⟩, HK3.out.far hkg _, (bx HBB.out).setG 2 _⟩
    case round =>
      obtain ⟨j, hj, rfl, ⟨_, v3, hb3, hown3⟩, hkb, hbl⟩ := hrel
      obtain ⟨A, cp, rfl, _⟩ := own_slice hown3
      have hszr : B ≤ wr.heap.size := Nat.le_trans hBw hbl.size
      have hpl := Pl.allB_part j f
      by_cases hlt : j < 256
      · have h8j := h8 j hlt
        have hcl' : ∀ W, Calls Tryz.prog id #[.int .u8 (j : Int)] W fun e w' => e = .returned (.bool (f (UInt8.ofNat j))) ∧ W = w' := fun W => h8j ▸ hcl (UInt8.ofNat j) W
        have hgl3 := hb3.lt
        obtain ⟨m, hm⟩ : ∃ m, (x.out ++ (Pl.allB.take j).filter f).length = m := ⟨_, rfl⟩
        have hml : m ≤ x.out.length + 256 := by rw [← hm, List.length_append]; omega
        simp only [hm] at hown3 hb3
        have e0 : wr.cell? ⟨g, 0, none⟩ = some (.slice A m cp) := hb3.cell 0
        have e1 : wr.cell? ⟨kb, 0, none⟩ = some (.func (.func id) #[] #[]) := hkb.cell 0
        have HO := Lib.hid hown3
        have HB := Lib.hid hb3
        have HM := Lib.hid hm
        have HL := Lib.hid hbl
        have HKB := Lib.hid hkb
        clear hown3 hb3 hm hbl hpl hkb
        cases hfj : f (UInt8.ofNat j) with
        | true =>
          rw [hfj] at hcl'
          have HP := Lib.hid (Pl.allB_yes hlt hfj)
          clear hfj
          go_wp2_with (first
            | (at_builtin; refine wpList_pushI rfl _ _ rfl wr B (.slice A m cp) m (x.out ++ (Pl.allB.take j).filter f) (UInt8.ofNat j) _ h8j rfl HO.out HM.out.symm rfl (by omega) (by omega) ?_; intro A2 c2' w5 hown2 hg2 hat2
               have b2 := Blk.grown (HB.out.alloc _) hg2 (own_blk_ne HO.out HB.out (by decide)).symm
               have bk := Blk.grown (HKB.out.alloc _) hg2 (own_blk_ne HO.out HKB.out (by decide)).symm
               have q2 := b2.cell 0; have f2' := b2.frozen 0; have l2 := b2.lt)
            | (with_reducible refine (hcl' _).mono ?_; rintro e w1 ⟨rfl, rfl⟩))
          refine ⟨⟨j + 1, by omega, by go_num, ?_, bk.far hkg _, ?_⟩, by simp [intOf]; omega⟩
          · rw [HP.out, ← List.append_assoc]
            exact SetAt.pushed (x := { x with out := x.out ++ (Pl.allB.take j).filter f, bad := true }) hBg rfl rfl b2 (by rw [show (x.out ++ (Pl.allB.take j).filter f).length = m from HM.out]; exact hown2)
          · exact ((HL.out.alloc (by omega) _).grown hg2 (by simp; omega) (fun i hi => (HO.out.lt i hi).1)).setG 0 _
        | false =>
          rw [hfj] at hcl'
          have HP := Lib.hid (Pl.allB_no hlt hfj)
          clear hfj
          go_wp2_with (with_reducible refine (hcl' _).mono ?_; rintro e w1 ⟨rfl, rfl⟩)
          refine ⟨⟨j + 1, by omega, by go_num, ?_, HKB.out, HL.out⟩, by simp [intOf]; omega⟩
          rw [HP.out]
          exact ⟨hBg, _, HB.out, by rw [show (x.out ++ (Pl.allB.take j).filter f).length = m from HM.out]; exact HO.out⟩
      · obtain rfl : j = 256 := by omega
        rw [Pl.allB_all] at hown3
        have HF2 := Lib.hid (show SetAt wr B g { x with out := x.out ++ Pl.allB.filter f, bad := true } from ⟨hBg, _, hb3, hown3⟩)
        clear hown3 hb3 hpl
        go_wp2_with fail
        go_returns
        exact ⟨hbl, by rw [HV.out]; rfl, HF2.out⟩

theorem class_any (w : World) (B g : Nat) (s : List UInt8) (x : Pl.TS) (h : SetAt w B g x) (hBw : B ≤ w.heap.size) (hs : s.length < 1000000000) (ho : x.out.length + 65536 ≤ 140737488355328) (hT : Tabs w) :
    Calls Tryz.prog 14 #[.pointer (some ⟨g, 0, none⟩), .string (strB s)] w (KindPost B g s x (Pl.classS s x) w) := by
  unfold Pl.classS
  by_cases hn : Lib.hasPrefix s [91, 58] = true ∧ (Lib.cut (s.drop 2) [58, 93]).2.2 = true
  · rw [if_pos hn]
    cases hc : Pl.classOf (Lib.cut (s.drop 2) [58, 93]).1 with
    | none => exact class_unknown w B g s x h hBw hs hT hn.1 hn.2 hc
    | some f => exact class_known w B g s x h hBw hs ho hT f hn.1 hn.2 hc
  · rw [if_neg hn]
    exact class_miss w B g s x h hs hT hn

end Go.Proofs.YtlhiadnolckoeaaGreatDoor
end

section
namespace Go.Proofs.YtlhiadnolckoeaaGreatDoor
open Go.RowKit Go.Maps

/-- what a string stands for, as it is handed back -/
def setRes (v : Value) (y : Pl.TS) : Value := if y.bad then .tuple #[.slice none 0 0, .int .i64 (-1), .bool false] else .tuple #[v, .int .i64 y.rest, .bool true]

namespace Pl
theorem setL_def (s : List UInt8) : setFrom s ⟨[], -1, false⟩ = setL s := rfl
theorem step_class {s : List UInt8} {x : TS} {y : List UInt8 × TS} (h : classS s x = some y) : stepS s x = y := by unfold stepS; rw [h]; rfl
theorem step_equal {s : List UInt8} {x : TS} {y : List UInt8 × TS} (h0 : classS s x = none) (h : equalS s x = some y) : stepS s x = y := by unfold stepS; rw [h0, h]; rfl
theorem step_times {s : List UInt8} {x : TS} {y : List UInt8 × TS} (h0 : classS s x = none) (h1 : equalS s x = none) (h : timesS s x = some y) : stepS s x = y := by unfold stepS; rw [h0, h1, h]; rfl
theorem step_plain {s : List UInt8} {x : TS} (h0 : classS s x = none) (h1 : equalS s x = none) (h : timesS s x = none) : stepS s x = plainS s x := by unfold stepS; rw [h0, h1, h]; rfl
end Pl
theorem Pl.step_ok {s : List UInt8} {n : Nat} {x y : Pl.TS} {t : List UInt8} {R : Pl.TS} (h0 : s ≠ []) (h : Pl.stepS s x = (t, y)) (hR : Pl.setFrom s x = R) (hn : x.out.length + 65536 * s.length ≤ 65536 * n) :
    t.length < s.length ∧ Pl.setFrom t y = R ∧ y.out.length + 65536 * t.length ≤ 65536 * n := by
  have h1 := Pl.step_lt h0 x
  have h2 := Pl.stepS_out s x
  rw [Pl.setFrom_step h0 x, h] at hR
  rw [h] at h1 h2
  simp only at h1 h2 hR
  exact ⟨h1, hR, by omega⟩
def kindsC (g : Nat) : Array Value := #[.func (.func 14) #[.pointer (some ⟨g, 0, none⟩)] #[], .func (.func 15) #[.pointer (some ⟨g, 0, none⟩)] #[], .func (.func 16) #[.pointer (some ⟨g, 0, none⟩)] #[]]

set_option maxRecDepth 100000 in
set_option maxHeartbeats 4000000 in
theorem set_any (w : World) (s : List UInt8) (hs : s.length ≤ 1048576) (hT : Tabs w) :
    Calls Tryz.prog 7 #[.string (strB s)] w fun e w' => ∃ v, e = .returned (setRes v (Pl.setL s)) ∧ w'.ownsRow w.heap.size 5 1 v (Pl.setL s).out.length (bytesC (Pl.setL s).out) ∧ Below w.heap.size w w' := by
  have HT := Lib.hid hT
  clear hT
  obtain ⟨g, hg⟩ : ∃ g, w.heap.size = g := ⟨_, rfl⟩
  obtain ⟨W, hW⟩ : ∃ W, (w.alloc (.cells #[.slice none 0 0, .int .i64 (-1), .bool false] 48)).alloc (.cells (kindsC g) 49) = W := ⟨_, rfl⟩
  have hS0 : SetAt W (g + 2) g ⟨[], -1, false⟩ := ⟨by omega, .slice none 0 0, by rw [← hW, ← hg]; exact (Blk.new w _ _).alloc _, World.ownsRow_nil _ _ _ _⟩
  have hK0 : Blk W (g + 1) 49 (kindsC g) := by rw [← hW, ← hg]; exact Blk.newNext w _ _ _
  have hB0 : Below g w W := by rw [← hW, ← hg]; exact below_box (below_one w _) (Nat.le_refl _) _
  have hL := Pl.setL_def s
  obtain ⟨R, hR⟩ : ∃ R, Pl.setL s = R := ⟨_, rfl⟩
  rw [hR] at hL ⊢
  unfold kindsC at hW
  rw [hg]
  go_enter Tryz.func7, Tryz.ntmps7
  go_wp2_with fail
  go_step3
  go_wp2_with fail
  have hgl := hB0.size
  have HS := Lib.hid hS0
  have HB := Lib.hid hB0
  have HL := Lib.hid hL
  have HK := Lib.hid hK0
  clear hW hS0 hB0 hL hK0 hR
  go_step3
  go_wp2_with fail
  go_loopg [0] s.length (fun n sv wr => ∃ (t : List UInt8) (x : Pl.TS), n = t.length ∧ t.length ≤ s.length ∧ sv = .string (strB t) ∧ Hid (Pl.setFrom t x = R) ∧ x.out.length + 65536 * t.length ≤ 65536 * s.length ∧ Hid (SetAt wr (g + 2) g x) ∧ Hid (Blk wr (g + 1) 49 (kindsC g)) ∧ Hid (Below g w wr))
  case atStart => exact ⟨s, ⟨[], -1, false⟩, rfl, Nat.le_refl _, rfl, HL, by simp, HS, HK, HB⟩
  case round =>
    obtain ⟨t, x, rfl, hts, rfl, hfr, hro, HSr, HKr, HBr⟩ := hrel
    by_cases ht : t = []
    · subst ht
      rw [Pl.setFrom_nil] at hfr
      have hemp := strB_empty (l := []) rfl
      obtain ⟨_, v, hblk, hown⟩ := HSr.out
      obtain ⟨A, cp, rfl, _⟩ := own_slice hown
      have q0 : wr.cell? ⟨g, 0, none⟩ = some (.slice A x.out.length cp) := hblk.cell 0
      have q1 : wr.cell? ⟨g, 1, none⟩ = some (.int .i64 x.rest) := hblk.cell 1
      have q2 : wr.cell? ⟨g, 2, none⟩ = some (.bool x.bad) := hblk.cell 2
      obtain rfl : x = R := hfr.out
      have HO := Lib.hid (own_low hown (show g ≤ g + 2 by omega))
      clear hblk hown hfr hro HL
      obtain ⟨bd, hbd⟩ : ∃ bd, x.bad = bd := ⟨_, rfl⟩
      rw [hbd] at q2
      have HBD := Lib.hid hbd
      clear hbd
      cases bd
      · go_wp2_with fail
        go_quiet (fail)
        go_wp2_with fail
        rw [Exit.noGoto_ret]
        go_ret3
        exact ⟨.slice A x.out.length cp, by unfold setRes; rw [HBD.out]; rfl, HO.out, below_drewN HBr.out _⟩
      · go_wp2_with fail
        rw [Exit.noGoto_ret]
        go_ret3
        exact ⟨.slice A x.out.length cp, by unfold setRes; rw [HBD.out]; rfl, HO.out, HBr.out⟩
    · have hne := strB_some ht
      have htl : 1 ≤ t.length := List.length_pos_iff.2 ht
      have hBw : g + 2 ≤ wr.heap.size := HKr.out.lt
      have hTr : ∀ V, BX (g + 2) g wr V → Tabs V := fun V hV => HT.out.below (by rw [hg]; exact HBr.out.trans (hV.low (by omega) (by omega)))
      have hk0 : wr.cell? ⟨g + 1, 0, none⟩ = some (.func (.func 14) #[.pointer (some ⟨g, 0, none⟩)] #[]) := HKr.out.cell 0
      have hkk : ∀ V, BX (g + 2) g wr V → Blk V (g + 1) 49 (kindsC g) := fun V hV => (hV.block (g + 1) (by omega) (by omega)).trans HKr.out
      have hc1 := class_any wr (g + 2) g t x HSr.out hBw (by omega) (by omega) (hTr _ (bx (Below.refl _ _)))
      have hc2 : ∀ V, BX (g + 2) g wr V → SetAt V (g + 2) g x → Calls Tryz.prog 15 #[.pointer (some ⟨g, 0, none⟩), .string (strB t)] V (KindPost (g + 2) g t x (Pl.equalS t x) V) := fun V hV hS => equal_any V (g + 2) g t x hS (Nat.le_trans hBw hV.size) (by omega) (by omega)
      have hc3 : ∀ V, BX (g + 2) g wr V → SetAt V (g + 2) g x → Calls Tryz.prog 16 #[.pointer (some ⟨g, 0, none⟩), .string (strB t)] V (KindPost (g + 2) g t x (Pl.timesS t x) V) := fun V hV hS => times_any V (g + 2) g t x hS (Nat.le_trans hBw hV.size) (by omega) (by omega) (hTr V hV)
      have hc4 : ∀ V, BX (g + 2) g wr V → SetAt V (g + 2) g x → Calls Tryz.prog 17 #[.pointer (some ⟨g, 0, none⟩), .string (strB t)] V (PlainPost (g + 2) g (Pl.plainS t x) V) := fun V hV hS => plain_any V (g + 2) g t x hS (Nat.le_trans hBw hV.size) ht (by omega) (by omega)
      cases hcl : Pl.classS t x with
      | some q =>
        obtain ⟨t', y⟩ := q
        rw [hcl] at hc1
        obtain ⟨hlt, hfr', hro'⟩ := Pl.step_ok ht (Pl.step_class hcl) hfr.out hro
        have HF' := Lib.hid hfr'
        have HR' := Lib.hid hro'
        clear ht hcl hTr hro hro' hfr' hc2 hc3 hc4 hkk
        go_wp2_with fail
        refine wp_loop_rounds 4 ?_
        rw [rounds_succ]
        go_wp2_with ((with_reducible refine hc1.mono ?_); rintro e w1 ⟨hx, rfl, hS1⟩)
        go_roundg (t'.length)
        case measure => exact hlt
        case rel => exact ⟨t', y, rfl, by omega, rfl, HF', HR'.out, Lib.hid hS1, Lib.hid ((hx.block (g + 1) (by omega) (by omega)).trans HKr.out), Lib.hid (HBr.out.trans (hx.low (by omega) (by omega)))⟩
      | none =>
        rw [hcl] at hc1
        cases heq : Pl.equalS t x with
        | some q =>
          obtain ⟨t', y⟩ := q
          rw [heq] at hc2
          obtain ⟨hlt, hfr', hro'⟩ := Pl.step_ok ht (Pl.step_equal hcl heq) hfr.out hro
          have HF' := Lib.hid hfr'
          have HR' := Lib.hid hro'
          clear ht hcl hTr hro hro' hfr' hc3 hc4 heq
          go_wp2_with fail
          refine wp_loop_rounds 4 ?_
          rw [rounds_succ]
          go_wp2_with ((with_reducible refine hc1.mono ?_); rintro e w1 ⟨hx, rfl, hS1⟩; have hk1 : w1.cell? ⟨g + 1, 1, none⟩ = some (.func (.func 15) #[.pointer (some ⟨g, 0, none⟩)] #[]) := Blk.cell (hkk w1 hx) 1; have hc := hc2 w1 hx hS1)
          rw [rounds_succ]
          go_wp2_with ((with_reducible refine hc.mono ?_); rintro e w2 ⟨hx2, rfl, hS2⟩)
          have hx12 := hx.trans hx2
          go_roundg (t'.length)
          case measure => exact hlt
          case rel => exact ⟨t', y, rfl, by omega, rfl, HF', HR'.out, Lib.hid hS2, Lib.hid ((hx12.block (g + 1) (by omega) (by omega)).trans HKr.out), Lib.hid (HBr.out.trans (hx12.low (by omega) (by omega)))⟩
        | none =>
          rw [heq] at hc2
          cases htm : Pl.timesS t x with
          | some q =>
            obtain ⟨t', y⟩ := q
            rw [htm] at hc3
            obtain ⟨hlt, hfr', hro'⟩ := Pl.step_ok ht (Pl.step_times hcl heq htm) hfr.out hro
            have HF' := Lib.hid hfr'
            have HR' := Lib.hid hro'
            clear ht hcl hTr hro hro' hfr' hc4 heq htm
            go_wp2_with fail
            refine wp_loop_rounds 4 ?_
            rw [rounds_succ]
            go_wp2_with ((with_reducible refine hc1.mono ?_); rintro e w1 ⟨hx, rfl, hS1⟩; have hk1 : w1.cell? ⟨g + 1, 1, none⟩ = some (.func (.func 15) #[.pointer (some ⟨g, 0, none⟩)] #[]) := Blk.cell (hkk w1 hx) 1; have hc := hc2 w1 hx hS1)
            rw [rounds_succ]
            go_wp2_with ((with_reducible refine hc.mono ?_); rintro e w2 ⟨hx2, rfl, hS2⟩; have hx12 := hx.trans hx2; have hk2 : w2.cell? ⟨g + 1, 2, none⟩ = some (.func (.func 16) #[.pointer (some ⟨g, 0, none⟩)] #[]) := Blk.cell (hkk w2 hx12) 2; have hd := hc3 w2 hx12 hS2)
            rw [rounds_succ]
            go_wp2_with ((with_reducible refine hd.mono ?_); rintro e w3 ⟨hx3, rfl, hS3⟩)
            have hx13 := hx12.trans hx3
            go_roundg (t'.length)
            case measure => exact hlt
            case rel => exact ⟨t', y, rfl, by omega, rfl, HF', HR'.out, Lib.hid hS3, Lib.hid ((hx13.block (g + 1) (by omega) (by omega)).trans HKr.out), Lib.hid (HBr.out.trans (hx13.low (by omega) (by omega)))⟩
          | none =>
            rw [htm] at hc3
            obtain ⟨t', y, hpl⟩ : ∃ t' y, Pl.plainS t x = (t', y) := ⟨_, _, rfl⟩
            rw [hpl] at hc4
            obtain ⟨hlt, hfr', hro'⟩ := Pl.step_ok ht ((Pl.step_plain hcl heq htm).trans hpl) hfr.out hro
            have HF' := Lib.hid hfr'
            have HR' := Lib.hid hro'
            clear ht hcl hTr hro hro' hfr' heq htm hpl
            go_wp2_with fail
            refine wp_loop_rounds 4 ?_
            rw [rounds_succ]
            go_wp2_with ((with_reducible refine hc1.mono ?_); rintro e w1 ⟨hx, rfl, hS1⟩; have hk1 : w1.cell? ⟨g + 1, 1, none⟩ = some (.func (.func 15) #[.pointer (some ⟨g, 0, none⟩)] #[]) := Blk.cell (hkk w1 hx) 1; have hc := hc2 w1 hx hS1)
            rw [rounds_succ]
            go_wp2_with ((with_reducible refine hc.mono ?_); rintro e w2 ⟨hx2, rfl, hS2⟩; have hx12 := hx.trans hx2; have hk2 : w2.cell? ⟨g + 1, 2, none⟩ = some (.func (.func 16) #[.pointer (some ⟨g, 0, none⟩)] #[]) := Blk.cell (hkk w2 hx12) 2; have hd := hc3 w2 hx12 hS2)
            rw [rounds_succ]
            go_wp2_with ((with_reducible refine hd.mono ?_); rintro e w3 ⟨hx3, rfl, hS3⟩; have hx13 := hx12.trans hx3; have hp := hc4 w3 hx13 hS3)
            rw [rounds_succ]
            go_wp2_with (go_at_call 17; refine hp.mono ?_; rintro e w4 ⟨hx4, rfl, hS4⟩)
            have hx14 := hx13.trans hx4
            go_roundg (t'.length)
            case measure => exact hlt
            case rel => exact ⟨t', y, rfl, by omega, rfl, HF', HR'.out, Lib.hid hS4, Lib.hid ((hx14.block (g + 1) (by omega) (by omega)).trans HKr.out), Lib.hid (HBr.out.trans (hx14.low (by omega) (by omega)))⟩

end Go.Proofs.YtlhiadnolckoeaaGreatDoor
end

section
namespace Go.Proofs.YtlhiadnolckoeaaGreatDoor.Pl

/-- an option: its letter, its argument -/
abbrev Opt := UInt8 × ByteArray

/-- kind of a letter in a spec: from a place on -/
def kindFrom (spec : List UInt8) (c : UInt8) : Int :=
  match spec with
  | [] => 0
  | x :: rest => if x = c then (match rest with | y :: _ => if y = 58 then 2 else 1 | [] => 1) else kindFrom rest c

def kind (spec : List UInt8) (c : UInt8) : Int := if c = 58 ∨ c = 45 then 0 else kindFrom spec c

theorem u8_beq (a b : UInt8) : ((a.toNat : Int) == (b.toNat : Int)) = (a == b) := by
  by_cases h : a = b
  · subst h; simp
  · have : a.toNat ≠ b.toNat := fun e => h (UInt8.toNat_inj.1 e)
    rw [beq_eq_false_iff_ne.2 h, beq_eq_false_iff_ne.2 (by omega)]

theorem drop_at (s : ByteArray) (k : Nat) (h : k < s.size) : s.data.toList.drop k = s[k] :: s.data.toList.drop (k + 1) := by
  rw [List.drop_eq_getElem_cons (by simpa using h)]; rfl

theorem kindFrom_miss (s : ByteArray) (c : UInt8) (k : Nat) (h : k < s.size) (hx : s[k] ≠ c) : kindFrom (s.data.toList.drop k) c = kindFrom (s.data.toList.drop (k + 1)) c := by
  rw [drop_at s k h]; simp [kindFrom, hx]

theorem kindFrom_two (s : ByteArray) (c : UInt8) (k : Nat) (h : k < s.size) (hx : s[k] = c) (h1 : k + 1 < s.size) (h2 : s[k + 1] = 58) : kindFrom (s.data.toList.drop k) c = 2 := by
  rw [drop_at s k h, drop_at s (k + 1) h1]; simp [kindFrom, hx, h2]

theorem kindFrom_one (s : ByteArray) (c : UInt8) (k : Nat) (h : k < s.size) (hx : s[k] = c) (h1 : k + 1 < s.size) (h2 : s[k + 1] ≠ 58) : kindFrom (s.data.toList.drop k) c = 1 := by
  rw [drop_at s k h, drop_at s (k + 1) h1]; simp [kindFrom, hx, h2]

theorem kindFrom_last (s : ByteArray) (c : UInt8) (k : Nat) (h : k < s.size) (hx : s[k] = c) (h1 : ¬ k + 1 < s.size) : kindFrom (s.data.toList.drop k) c = 1 := by
  rw [drop_at s k h, List.drop_eq_nil_of_le (by simp; omega)]; simp [kindFrom, hx]

theorem kindFrom_end (s : ByteArray) (c : UInt8) (k : Nat) (h : ¬ k < s.size) : kindFrom (s.data.toList.drop k) c = 0 := by
  rw [List.drop_eq_nil_of_le (by simp; omega)]; simp [kindFrom]

theorem kindFrom_range (s : List UInt8) (c : UInt8) : kindFrom s c = 0 ∨ kindFrom s c = 1 ∨ kindFrom s c = 2 := by
  induction s with
  | nil => simp [kindFrom]
  | cons x r ih =>
    unfold kindFrom
    split
    · split
      · split <;> simp
      · simp
    · exact ih

theorem kind_range (s : List UInt8) (c : UInt8) : kind s c = 0 ∨ kind s c = 1 ∨ kind s c = 2 := by
  unfold kind
  split
  · simp
  · exact kindFrom_range s c

/-- the letters of one argument, from a place on; the place of the next argument -/
def inner (kd : UInt8 → Int) (args : List ByteArray) : List UInt8 → Nat → Option (List Opt × Nat)
  | [], i => some ([], i)
  | c :: bs, i =>
    if kd c = 0 then none
    else if kd c = 1 then (inner kd args bs i).map (fun p => ((c, ⟨#[]⟩) :: p.1, p.2))
    else if bs ≠ [] then some ([(c, ⟨bs.toArray⟩)], i)
    else match args[i]? with
      | none => none
      | some x => some ([(c, x)], i + 1)

theorem inner_le (kd : UInt8 → Int) (args : List ByteArray) : ∀ (bs : List UInt8) (i : Nat) (l : List Opt) (j : Nat), inner kd args bs i = some (l, j) → i ≤ j := by
  intro bs
  induction bs with
  | nil => intro i l j h; simp [inner] at h; omega
  | cons c bs ih =>
    intro i l j h
    unfold inner at h
    split at h
    · cases h
    split at h
    · cases hi : inner kd args bs i with
      | none => rw [hi] at h; simp at h
      | some p =>
        obtain ⟨l', j'⟩ := p
        rw [hi] at h; simp at h
        have := ih i l' j' hi
        omega
    split at h
    · simp at h; omega
    split at h
    · cases h
    · simp at h; omega

/-- all arguments from a place on: the options; the place of the first operand -/
def outer (kd : UInt8 → Int) (args : List ByteArray) (i : Nat) : Option (List Opt × Nat) :=
  match args[i]? with
  | none => some ([], i)
  | some a =>
    if a.data.toList = [45, 45] then some ([], i + 1)
    else if a.size < 2 ∨ a.data.toList.head? ≠ some 45 then some ([], i)
    else match inner kd args (a.data.toList.drop 1) (i + 1) with
      | none => none
      | some (l, j) => if i < j ∧ i < args.length then (outer kd args j).map (fun q => (l ++ q.1, q.2)) else none
  termination_by args.length - i

/-- what is still to come, behind the options acc, in the letters bs of an argument -/
def rest (kd : UInt8 → Int) (args : List ByteArray) (acc : List Opt) (i : Nat) : Option (List Opt × Nat) := (outer kd args i).map fun q => (acc ++ q.1, q.2)
def within (kd : UInt8 → Int) (args : List ByteArray) (acc : List Opt) (bs : List UInt8) (i : Nat) : Option (List Opt × Nat) :=
  (inner kd args bs i).bind fun p => rest kd args (acc ++ p.1) p.2

theorem rest_nil (kd : UInt8 → Int) (args : List ByteArray) (i : Nat) : rest kd args [] i = outer kd args i := by
  unfold rest; cases outer kd args i <;> simp

theorem rest_end {kd : UInt8 → Int} {args : List ByteArray} {acc : List Opt} {i : Nat} (h : args[i]? = none) : rest kd args acc i = some (acc, i) := by
  unfold rest outer; simp [h]

theorem rest_stroke {kd : UInt8 → Int} {args : List ByteArray} {acc : List Opt} {i : Nat} {a : ByteArray} (h : args[i]? = some a) (h2 : a.data.toList = [45, 45]) : rest kd args acc i = some (acc, i + 1) := by
  unfold rest outer; simp [h, h2]

theorem rest_stop {kd : UInt8 → Int} {args : List ByteArray} {acc : List Opt} {i : Nat} {a : ByteArray} (h : args[i]? = some a) (h2 : a.data.toList ≠ [45, 45]) (h3 : a.size < 2 ∨ a.data.toList.head? ≠ some 45) : rest kd args acc i = some (acc, i) := by
  unfold rest outer; simp only [h, if_neg h2, if_pos h3]; simp

theorem rest_go {kd : UInt8 → Int} {args : List ByteArray} {acc : List Opt} {i : Nat} {a : ByteArray} (h : args[i]? = some a) (h2 : a.data.toList ≠ [45, 45]) (h3 : ¬ a.size < 2) (h4 : a.data.toList.head? = some 45) :
    rest kd args acc i = within kd args acc (a.data.toList.drop 1) (i + 1) := by
  unfold rest within
  rw [outer]
  simp only [h, if_neg h2]
  rw [if_neg (by simp only [h4, ne_eq, not_true_eq_false, or_false]; exact h3)]
  cases hi : inner kd args (a.data.toList.drop 1) (i + 1) with
  | none => simp
  | some p =>
    obtain ⟨l, j⟩ := p
    have hj := inner_le _ _ _ _ _ _ hi
    have hlt : i < args.length := by
      rcases Nat.lt_or_ge i args.length with h' | h'
      · exact h'
      · rw [List.getElem?_eq_none h'] at h; cases h
    simp only [Option.bind_some]
    rw [if_pos ⟨by omega, hlt⟩]
    unfold rest
    cases outer kd args j <;> simp

theorem within_nil {kd : UInt8 → Int} {args : List ByteArray} {acc : List Opt} {i : Nat} : within kd args acc [] i = rest kd args acc i := by simp [within, inner]

theorem within_none {kd : UInt8 → Int} {args : List ByteArray} {acc : List Opt} {c : UInt8} {bs : List UInt8} {i : Nat} (h : kd c = 0) : within kd args acc (c :: bs) i = none := by simp [within, inner, h]

theorem within_alone {kd : UInt8 → Int} {args : List ByteArray} {acc : List Opt} {c : UInt8} {bs : List UInt8} {i : Nat} (h : kd c = 1) : within kd args acc (c :: bs) i = within kd args (acc ++ [(c, ⟨#[]⟩)]) bs i := by
  simp only [within, inner, h]
  cases inner kd args bs i <;> simp

theorem within_here {kd : UInt8 → Int} {args : List ByteArray} {acc : List Opt} {c : UInt8} {bs : List UInt8} {i : Nat} (h : kd c = 2) (hb : bs ≠ []) : within kd args acc (c :: bs) i = rest kd args (acc ++ [(c, ⟨bs.toArray⟩)]) i := by
  simp [within, inner, h, hb]

theorem within_lacks {kd : UInt8 → Int} {args : List ByteArray} {acc : List Opt} {c : UInt8} {i : Nat} (h : kd c = 2) (ha : args[i]? = none) : within kd args acc [c] i = none := by
  simp [within, inner, h, ha]

theorem within_next {kd : UInt8 → Int} {args : List ByteArray} {acc : List Opt} {c : UInt8} {i : Nat} {x : ByteArray} (h : kd c = 2) (ha : args[i]? = some x) : within kd args acc [c] i = rest kd args (acc ++ [(c, x)]) (i + 1) := by
  simp [within, inner, h, ha]

/-- the bytes of all arguments from a place on -/
def total (args : List ByteArray) : Nat := (args.map (·.size)).sum
theorem total_drop {args : List ByteArray} {i : Nat} {a : ByteArray} (h : args[i]? = some a) : total (args.drop i) = a.size + total (args.drop (i + 1)) := by
  obtain ⟨hl, rfl⟩ := List.getElem?_eq_some_iff.1 h
  unfold total
  rw [List.drop_eq_getElem_cons hl, List.map_cons, List.sum_cons]
theorem total_drop_le (args : List ByteArray) (i : Nat) : total (args.drop (i + 1)) ≤ total (args.drop i) := by
  cases h : args[i]? with
  | none => rw [List.drop_eq_nil_of_le (by have := List.getElem?_eq_none_iff.1 h; omega)]; simp [total]
  | some a => rw [total_drop h]; omega

end Go.Proofs.YtlhiadnolckoeaaGreatDoor.Pl
end

section
namespace Go.Proofs.YtlhiadnolckoeaaGreatDoor
open Go.RowKit
attribute [local go_sem ↓] Go.wp_at_zero Go.wp_at_succ

/-- the cells of options -/
def optCells (l : List Pl.Opt) : List Value := l.flatMap fun o => [.int .u8 o.1.toNat, .string o.2]
theorem optCells_snoc (l : List Pl.Opt) (o : Pl.Opt) : optCells (l ++ [o]) = optCells l ++ [.int .u8 o.1.toNat, .string o.2] := by simp [optCells]
theorem optCells_length (l : List Pl.Opt) : (optCells l).length = l.length * 2 := by
  induction l with
  | nil => rfl
  | cons o l ih => simp [optCells] at ih ⊢; omega

/-- strings as values -/
def strs (l : List ByteArray) : List Value := l.map .string
theorem strs_at {l : List ByteArray} {k : Nat} {u : Value} (h : (strs l)[k]? = some u) : ∃ s, l[k]? = some s ∧ u = .string s := by
  unfold strs at h
  rw [List.getElem?_map] at h
  cases hl : l[k]? with
  | none => rw [hl] at h; cases h
  | some s => rw [hl] at h; exact ⟨s, rfl, by cases h; rfl⟩

/-- a slice cut at a place from its front -/
def cutAt (A : Option Addr) (n cap j : Nat) : Value := .slice (cutA A cap j 1) (n - j) (cap - j)
theorem Tryz.infoStr : (Tryz.prog.info? 9).map (fun i => (i.zero, i.size, i.bytes)) = some (some (.string ⟨#[]⟩), 1, 16) := by kernel_rfl
theorem Tryz.infoOpt : (Tryz.prog.info? 296).map (fun i => (i.zero, i.size, i.bytes)) = some (some (.agg #[.int .u8 0, .string ⟨#[]⟩]), 2, 24) := by kernel_rfl

theorem extract_drop (s : ByteArray) (k : Nat) : s.extract k s.size = ⟨(s.data.toList.drop k).toArray⟩ := by
  have h := Lib.extract_data s k s.size
  have e : ((s.data.toList.drop k).take (s.size - k)) = s.data.toList.drop k := List.take_of_length_le (by simp)
  rw [e] at h
  have h2 : (s.extract k s.size).data = (s.data.toList.drop k).toArray := by rw [← h]
  exact congrArg ByteArray.mk h2

/-- one option is appended: what it is made in lies one block ahead -/
theorem append_opt {ops : Array Oper} {rest : List Oper} {o : Oper} {a : Act} {Q : Exit → Act → World → Prop} (hgd : o.guard = none) (s x : Operand)
    (ho : o.op = .call { callee := .builtin .append, args := #[s, x], argTypes := #[239, 239] })
    (w wr : World) (v : Value) (acc : List Pl.Opt) (c : UInt8) (t : ByteArray) (hs : a.eval s = v) (hx : a.eval x = .slice (some ⟨wr.heap.size, 0, none⟩) 1 1)
    (hown : wr.ownsRow w.heap.size 296 2 v acc.length (optCells acc)) (hb : Below w.heap.size w wr) (hlen : acc.length < 2097152)
    (h : ∀ v' w', w'.ownsRow w.heap.size 296 2 v' (acc ++ [(c, t)]).length (optCells (acc ++ [(c, t)])) → Below w.heap.size w w' → wpList Tryz.prog ops Q rest (a.put o.dst v') w') :
    wpList Tryz.prog ops Q (o :: rest) a (wr.alloc (.cells #[.int .u8 c.toNat, .string t] 296)) := by
  obtain ⟨iO, hiO, hO0, hO1, hO2⟩ := info_parts Tryz.infoOpt
  have hbs := hb.size
  refine wpList_append_own _ hgd s x 239 ho w.heap.size 296 iO (.agg #[.int .u8 0, .string ⟨#[]⟩]) 2 24 Tryz.underlying239 hiO hO0 hO1 hO2 rfl (by decide)
    v acc.length (optCells acc) hs (hown.alloc _) ⟨wr.heap.size, 0, none⟩ 1 1 [.int .u8 c.toNat, .string t] hx rfl (cell_two_new _ _ _ _) (by simp [Value.oneCell']) (by simp only [maxLen]; omega) (by omega) (by simp; omega) ?_
  intro v' w' hown' hg _
  refine h v' w' (by rw [optCells_snoc, List.length_append]; exact hown') ((hb.alloc hbs _).grown hg (by simp; omega) fun k hk => (hown.lt k hk).1)

/-- the same as one step of a region that draws its order; the world is a letter -/
theorem step_append_opt {ops : Array Oper} {o : Oper} {a : Act} {K : Act → World → Prop} {Q : Exit → Act → World → Prop} {E : Prop} (hgd : o.guard = none) (s x : Operand)
    (ho : o.op = .call { callee := .builtin .append, args := #[s, x], argTypes := #[239, 239] })
    (w W : World) (v : Value) (acc : List Pl.Opt) (c : UInt8) (t : ByteArray) (ad : Addr) (hs : a.eval s = v) (hx : a.eval x = .slice (some ad) 1 1)
    (hc : ∀ j u, [Value.int .u8 c.toNat, .string t][j]? = some u → W.cell? (ad.add j) = some u)
    (hown : W.ownsRow w.heap.size 296 2 v acc.length (optCells acc)) (hb : Below w.heap.size w W) (hlen : acc.length < 2097152)
    (h : ∀ v' w', w'.ownsRow w.heap.size 296 2 v' (acc ++ [(c, t)]).length (optCells (acc ++ [(c, t)])) → Below w.heap.size w w' → K (a.put o.dst v') w') :
    if Region.wanted o (yielded ops a.tmps) = true then Oper.wp Tryz.prog o a W K Q else E := by
  obtain ⟨iO, hiO, hO0, hO1, hO2⟩ := info_parts Tryz.infoOpt
  have hbs := hb.size
  rw [if_pos (by simp [Region.wanted, hgd])]
  refine wp_append_own _ s x 239 ho w.heap.size 296 iO (.agg #[.int .u8 0, .string ⟨#[]⟩]) 2 24 Tryz.underlying239 hiO hO0 hO1 hO2 rfl (by decide)
    v acc.length (optCells acc) hs hown ad 1 1 [.int .u8 c.toNat, .string t] hx rfl hc (by simp [Value.oneCell']) (by simp only [maxLen]; omega) (by omega) hbs ?_
  intro v' w' hown' hg _
  exact h v' w' (by rw [optCells_snoc, List.length_append]; exact hown') (hb.grown hg hbs fun k hk => (hown.lt k hk).1)
end Go.Proofs.YtlhiadnolckoeaaGreatDoor
end

section
namespace Go.Proofs.YtlhiadnolckoeaaGreatDoor
open Go.RowKit

/-- does a letter stand among options; the last one's argument -/
def hasOpt (l : List Pl.Opt) (c : UInt8) : Bool := l.any fun o => o.1 == c
def lastOpt (l : List Pl.Opt) (c : UInt8) : Option ByteArray := (l.reverse.find? fun o => o.1 == c).map (·.2)

theorem hasOpt_cons (o : Pl.Opt) (l : List Pl.Opt) (c : UInt8) : hasOpt (o :: l) c = (o.1 == c || hasOpt l c) := rfl
theorem lastOpt_take (l : List Pl.Opt) (c : UInt8) (k : Nat) (h : k < l.length) : lastOpt (l.take (k + 1)) c = if (l[k]).1 == c then some (l[k]).2 else lastOpt (l.take k) c := by
  unfold lastOpt
  rw [List.take_succ_eq_append_getElem h, List.reverse_append]
  simp only [List.reverse_singleton, List.singleton_append, List.find?_cons]
  split <;> simp_all

theorem optCells_at {l : List Pl.Opt} {k : Nat} (h : k < l.length) : (optCells l)[2 * k]? = some (.int .u8 (l[k]).1.toNat) ∧ (optCells l)[2 * k + 1]? = some (.string (l[k]).2) := by
  induction l generalizing k with
  | nil => cases h
  | cons o l ih =>
    cases k with
    | zero => simp [optCells]
    | succ k =>
      have := ih (k := k) (by simpa using h)
      simpa [optCells, Nat.mul_add] using this

/-- the cells of the option at a place -/
theorem reads_opt {w : World} {B : Nat} {A : Option Addr} {l : List Pl.Opt} (h : Reads w B 2 A l.length (optCells l)) {k : Nat} (hk : k < l.length) :
    ∃ ad, A = some ad ∧ ad.block < B ∧ w.cell? (ad.add (k * 2)) = some (.int .u8 (l[k]).1.toNat) ∧ w.cell? ⟨(ad.add (k * 2)).block, (ad.add (k * 2)).off + 1, none⟩ = some (.string (l[k]).2) := by
  obtain ⟨ad, hA, hB, hc⟩ := h.2 (by omega)
  obtain ⟨h1, h2⟩ := optCells_at hk
  exact ⟨ad, hA, hB, by rw [Nat.mul_comm]; exact hc _ _ h1, by
    have e : (⟨(ad.add (k * 2)).block, (ad.add (k * 2)).off + 1, none⟩ : Addr) = ad.add (k * 2 + 1) := by rw [← add_of_add]; rfl
    rw [e, Nat.mul_comm]; exact hc _ _ h2⟩
end Go.Proofs.YtlhiadnolckoeaaGreatDoor
end
