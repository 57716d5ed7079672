/-
  The reference's Set comes to what the plain law says; a walk over the law TransSets.
-/
import Derived.Test.YtlhiadnolckoeaaGreatDoorSetsI
import Derived.Test.YtlhiadnolckoeaaGreatDoorSetsG
import Derived.Test.YtlhiadnolckoeaaGreatDoorR12
import Derived.Test.YtlhiadnolckoeaaGreatDoorR13
import Derived.Deep.LoopGhost
import Derived.Test.YtlhiadnolckoeaaGreatDoorR16

section
namespace Go.Proofs.YtlhiadnolckoeaaGreatDoor
open Go.RowKit Go.Maps

noncomputable def setOut : Code := (Tryz.f8.body.bind (fun c => (loopsOf c)[0]?)).getD .skip
noncomputable def setIn : Code := ((loopsOf setOut)[0]?).getD .skip
theorem StAt.outs {w1 : World} {B g a : Nat} {S : ByteArray} {x : Pl.TS} (h : StAt w1 B g S a x) : ∃ A cp, w1.cell? ⟨g, 2, none⟩ = some (.slice A x.out.length cp) ∧ w1.ownsRow B 5 1 (.slice A x.out.length cp) x.out.length (bytesC x.out) ∧ Blk w1 g 55 #[.string S, .int .i64 a, .slice A x.out.length cp, .int .i64 x.rest, .bool x.bad] := by
  obtain ⟨_, v, h2, h3⟩ := h
  obtain ⟨A, cp, rfl, _⟩ := own_slice h3
  exact ⟨A, cp, h2.cell 2, h3, h2⟩
theorem stOut {w2 : World} {B g b : Nat} {S : ByteArray} {x : Pl.TS} {v v2 r0 b0 : Value} {c : UInt8} (hg0 : g < B) (hr : r0 = .int .i64 x.rest) (hb : b0 = .bool x.bad) (h2 : Blk w2 g 55 #[.string S, .int .i64 b, v, r0, b0])
    (hown : w2.ownsRow B 5 1 v2 (x.out.length + 1) (bytesC (x.out ++ [c]))) : StAt (w2.setCell ⟨g, 2, none⟩ v2) B g S b { x with out := x.out ++ [c] } := by
  subst hr hb
  refine ⟨hg0, v2, h2.set_ 2 v2, ?_⟩
  have hl : (x.out ++ [c]).length = x.out.length + 1 := by simp
  rw [hl]
  exact ownsRow_setCell_other hown (own_blk_ne hown h2 (by decide)) _

set_option maxRecDepth 100000 in
set_option maxHeartbeats 4000000 in
theorem set_l2 (W w : World) (B g : Nat) (S : ByteArray) (a : Nat) (x : Pl.TS) (hst : StAt w B g S a x) (hW : BX B g W w) (hBw : B ≤ w.heap.size) (c d : UInt8) (ho : x.out.length + 65536 ≤ 140737488355328)
    {c0 c1 c2 c3 c4 c6 c7 c8 c10 c12 c13 c14 c15 c16 c17 c18 c19 c20 c21 c22 c23 c24 c25 c26 c27 c28 c29 c30 c31 c32 c33 c34 c35 c36 c37 c38 c39 c40 c41 c42 c43 c44 c45 c46 c47 c48 c49 c50 c51 c52 c53 c54 c55 c56 c57 c58 c59 c60 c61 c62 c63 c64 c65 c66 c67 c68 c69 c70 c71 c72 c73 c74 c75 c76 c77 c78 c79 c80 c81 c82 c83 c84 c85 c86 c87 c88 c89 c90 c91 c92 c93 c94 c95 c96 c97 c98 c99 c100 c101 c102 c103 c104 c105 c106 c107 c108 c109 c110 c111 c112 c113 c114 c115 c116 c117 c118 c119 c120 c121 c122 c123 c124 c125 c126 c127 c128 c129 c130 c131 c132 : Value} {Q0 : Exit → Act → World → Prop}
    (hexit : ∀ (u11 u94 u95 u96 u97 u98 u99 u100 u101 u102 u103 u104 u105 u106 u107 u108 u109 u110 : Value) (w1 : World), StAt w1 B g S a { x with out := x.out ++ Pl.span c d } → BX B g W w1 → Q0 (.exit 2) ⟨#[c0, c1, c2, c3, c4, .pointer (some ⟨g, 0, none⟩), c6, c7, c8, .int .u8 (d.toNat : Int), c10, u11, c12, c13, c14, c15, c16, c17, c18, c19, c20, c21, c22, c23, c24, c25, c26, c27, c28, c29, c30, c31, c32, c33, c34, c35, c36, c37, c38, c39, c40, c41, c42, c43, c44, c45, c46, c47, c48, c49, c50, c51, c52, c53, c54, c55, c56, c57, c58, c59, c60, c61, c62, c63, c64, c65, c66, c67, c68, c69, c70, c71, c72, c73, c74, c75, c76, c77, c78, c79, c80, c81, c82, c83, c84, c85, c86, c87, c88, c89, c90, c91, c92, c93, u94, u95, u96, u97, u98, u99, u100, u101, u102, u103, u104, u105, u106, u107, u108, u109, u110, c111, c112, c113, c114, c115, c116, c117, c118, c119, c120, c121, c122, c123, c124, c125, c126, c127, c128, c129, c130, c131, c132], []⟩ w1) :
    Code.wp Tryz.prog (Code.loop setIn) Q0 ⟨#[c0, c1, c2, c3, c4, .pointer (some ⟨g, 0, none⟩), c6, c7, c8, .int .u8 (d.toNat : Int), c10, .int .i64 (c.toNat : Int), c12, c13, c14, c15, c16, c17, c18, c19, c20, c21, c22, c23, c24, c25, c26, c27, c28, c29, c30, c31, c32, c33, c34, c35, c36, c37, c38, c39, c40, c41, c42, c43, c44, c45, c46, c47, c48, c49, c50, c51, c52, c53, c54, c55, c56, c57, c58, c59, c60, c61, c62, c63, c64, c65, c66, c67, c68, c69, c70, c71, c72, c73, c74, c75, c76, c77, c78, c79, c80, c81, c82, c83, c84, c85, c86, c87, c88, c89, c90, c91, c92, c93, c94, c95, c96, c97, c98, c99, c100, c101, c102, c103, c104, c105, c106, c107, c108, c109, c110, c111, c112, c113, c114, c115, c116, c117, c118, c119, c120, c121, c122, c123, c124, c125, c126, c127, c128, c129, c130, c131, c132], []⟩ w := by
  dsimp only at hexit ⊢
  have HX := Lib.hid hexit
  have HS0 := Lib.hid hst
  have HW := Lib.hid hW
  obtain ⟨C, hC⟩ : ∃ C, c.toNat = C := ⟨_, rfl⟩
  obtain ⟨D, hD⟩ : ∃ D, d.toNat = D := ⟨_, rfl⟩
  have hCl : C < 256 := by have := c.toNat_lt; omega
  have hDl : D < 256 := by have := d.toNat_lt; omega
  have HSP : Hid (∀ k, C ≤ k → (k = D + 1 ∨ (k = C ∧ D < C)) → Pl.preS C k = Pl.span c d) := Lib.hid fun k h1 h2 => by
    rw [Pl.span_pre, hC, hD]
    rcases h2 with rfl | ⟨rfl, h3⟩
    · rfl
    · rw [Pl.preS_nil (Nat.le_refl _), Pl.preS_nil (by omega)]
  rw [hC, hD]
  rw [hD] at HX
  clear hexit hst hW
  conv => arg 2; arg 1; whnf
  go_loopw [11] (fun kv wr => ∃ k : Nat, C ≤ k ∧ (k ≤ D + 1 ∨ (k = C ∧ D < C)) ∧ kv = .int .i64 k ∧ Hid (StAt wr B g S a { x with out := x.out ++ Pl.preS C k }) ∧ Hid (BX B g W wr) ∧ B ≤ wr.heap.size) (fun kv _ => 257 - (intOf kv).toNat)
  case atStart => exact ⟨C, by omega, by omega, rfl, Lib.hid (by rw [Pl.preS_nil (Nat.le_refl _)]; simpa using HS0.out), HW, hBw⟩
  case round =>
    obtain ⟨k, hk, hkd, rfl, hst, hbx, hBr⟩ := hrel
    by_cases hlt : k ≤ D
    · have h8 : ((UInt8.ofNat k).toNat : Int) = (k : Int) := by rw [UInt8.toNat_ofNat']; omega
      have hpl := Pl.preS_len (C := C) (k := k) (by omega)
      obtain ⟨hBg, _⟩ := hst.out
      obtain ⟨A, cp, r2, hown, hblk⟩ := hst.out.outs
      obtain ⟨m, hm⟩ : ∃ m, (x.out ++ Pl.preS C k).length = m := ⟨_, rfl⟩
      have hml : m + 1 ≤ 140737488355328 := by rw [← hm, List.length_append]; omega
      simp only at hblk hown r2
      rw [hm] at hown r2 hblk
      have rl := hblk.lt
      have hki : (k : Int) ≤ (D : Int) := by omega
      have HM := Lib.hid hm
      have HBLK := Lib.hid hblk
      have HOWN := Lib.hid hown
      have HP := Lib.hid (Pl.preS_succ hk)
      clear hblk hown hm hpl hst
      go_wp2_with (first
        | (at_builtin; refine wpList_pushI rfl _ _ rfl wr B (.slice A m cp) m (x.out ++ Pl.preS C k) (UInt8.ofNat k) _ h8 rfl HOWN.out HM.out.symm rfl hBr hml ?_; intro A2 c2 w2 hown2 hg2 hat2
           have b2 := Blk.grown (HBLK.out.alloc _) hg2 (own_blk_ne HOWN.out HBLK.out (by decide)).symm
           have r22 := b2.cell 2
           have f2 := b2.frozen 2
           have l2 := b2.lt))
      refine ⟨⟨k + 1, by omega, by omega, by go_num, ?_, ?_, ?_⟩, by simp [intOf]; omega⟩
      · refine Lib.hid ⟨hBg, _, b2.set_ 2 _, ?_⟩
        simp only
        rw [HP.out, ← List.append_assoc]
        have hl : (x.out ++ Pl.preS C k ++ [UInt8.ofNat k]).length = m + 1 := by rw [List.length_append, HM.out]; rfl
        rw [hl]
        exact ownsRow_setCell_other hown2 (own_blk_ne hown2 b2 (by decide)) _
      · exact Lib.hid ((hbx.out.then (((Below.refl B wr).alloc hBr _).grown hg2 (Nat.le_trans hBr (by simp)) (fun j hj => (HOWN.out.lt j hj).1))).setG 2 _)
      · have := (((Below.refl B wr).alloc hBr (.cells #[.int .u8 (k : Int)] 5)).grown hg2 (Nat.le_trans hBr (by simp)) (fun j hj => (HOWN.out.lt j hj).1)).size
        exact Nat.le_trans hBr (by simpa [World.setCell] using this)
    · have HST : Hid (StAt wr B g S a { x with out := x.out ++ Pl.span c d }) := Lib.hid (by have := hst.out; rwa [HSP.out k hk (by omega)] at this)
      have hki : (D : Int) < (k : Int) := by omega
      go_wp2_with fail
      exact HX.out _ _ _ _ _ _ _ _ _ _ _ _ _ _ _ _ _ _ wr HST.out hbx.out

set_option maxRecDepth 100000 in
set_option maxHeartbeats 8000000 in
theorem set_l1 (W w : World) (B g : Nat) (S : ByteArray) (hs : S.size ≤ 1048576) (R : Pl.TS) (hst : StAt w B g S 0 ⟨[], -1, false⟩) (hW : BX B g W w) (hBW : B ≤ W.heap.size) (hBw : B ≤ w.heap.size) (hR : Pl.setL S.data.toList = R)
    {c1 c2 c3 c4 c6 c7 c8 c9 c10 c11 c12 c13 c14 c15 c16 c17 c18 c19 c20 c21 c22 c23 c24 c25 c26 c27 c28 c29 c30 c31 c32 c33 c34 c35 c36 c37 c38 c39 c40 c41 c42 c43 c44 c45 c46 c47 c48 c49 c50 c51 c52 c53 c54 c55 c56 c57 c58 c59 c60 c61 c62 c63 c64 c65 c66 c67 c68 c69 c70 c71 c72 c73 c74 c75 c76 c77 c78 c79 c80 c81 c82 c83 c84 c85 c86 c87 c88 c89 c90 c91 c92 c93 c94 c95 c96 c97 c98 c99 c100 c101 c102 c103 c104 c105 c106 c107 c108 c109 c110 c111 c112 c113 c114 c115 c116 c117 c118 c119 c120 c121 c122 c123 c124 c125 c126 c127 c128 c129 c130 c131 c132 : Value} {Q0 : Exit → Act → World → Prop}
    (hexit : ∀ (u6 u7 u8 u9 u10 u11 u15 u16 u17 u18 u19 u20 u21 u22 u23 u24 u25 u26 u27 u28 u29 u30 u31 u32 u33 u34 u35 u36 u37 u38 u39 u40 u41 u42 u43 u44 u45 u46 u47 u48 u49 u50 u51 u52 u53 u54 u55 u56 u57 u58 u59 u60 u61 u62 u63 u64 u65 u66 u67 u68 u69 u70 u71 u72 u73 u74 u75 u76 u77 u78 u79 u80 u81 u82 u83 u84 u85 u86 u87 u88 u89 u90 u91 u92 u93 u94 u95 u96 u97 u98 u99 u100 u101 u102 u103 u104 u105 u106 u107 u108 u109 u110 u111 u112 u113 u114 u115 u116 u117 u118 u119 u120 : Value) (w1 : World) (a : Nat), StAt w1 B g S a R → BX B g W w1 → B ≤ w1.heap.size → Q0 (.exit 0) ⟨#[.string S, c1, c2, c3, c4, .pointer (some ⟨g, 0, none⟩), u6, u7, u8, u9, u10, u11, c12, c13, c14, u15, u16, u17, u18, u19, u20, u21, u22, u23, u24, u25, u26, u27, u28, u29, u30, u31, u32, u33, u34, u35, u36, u37, u38, u39, u40, u41, u42, u43, u44, u45, u46, u47, u48, u49, u50, u51, u52, u53, u54, u55, u56, u57, u58, u59, u60, u61, u62, u63, u64, u65, u66, u67, u68, u69, u70, u71, u72, u73, u74, u75, u76, u77, u78, u79, u80, u81, u82, u83, u84, u85, u86, u87, u88, u89, u90, u91, u92, u93, u94, u95, u96, u97, u98, u99, u100, u101, u102, u103, u104, u105, u106, u107, u108, u109, u110, u111, u112, u113, u114, u115, u116, u117, u118, u119, u120, c121, c122, c123, c124, c125, c126, c127, c128, c129, c130, c131, c132], []⟩ w1) :
    Code.wp Tryz.prog (Code.loop setOut) Q0 ⟨#[.string S, c1, c2, c3, c4, .pointer (some ⟨g, 0, none⟩), c6, c7, c8, c9, c10, c11, c12, c13, c14, c15, c16, c17, c18, c19, c20, c21, c22, c23, c24, c25, c26, c27, c28, c29, c30, c31, c32, c33, c34, c35, c36, c37, c38, c39, c40, c41, c42, c43, c44, c45, c46, c47, c48, c49, c50, c51, c52, c53, c54, c55, c56, c57, c58, c59, c60, c61, c62, c63, c64, c65, c66, c67, c68, c69, c70, c71, c72, c73, c74, c75, c76, c77, c78, c79, c80, c81, c82, c83, c84, c85, c86, c87, c88, c89, c90, c91, c92, c93, c94, c95, c96, c97, c98, c99, c100, c101, c102, c103, c104, c105, c106, c107, c108, c109, c110, c111, c112, c113, c114, c115, c116, c117, c118, c119, c120, c121, c122, c123, c124, c125, c126, c127, c128, c129, c130, c131, c132], []⟩ w := by
  dsimp only at hexit ⊢
  have hl : S.data.toList.length = S.size := Array.length_toList
  have HX := Lib.hid hexit
  have HS0 := Lib.hid hst
  have HW := Lib.hid hW
  have HR0 := Lib.hid (show Pl.setFrom (S.data.toList.drop 0) ⟨[], -1, false⟩ = R from hR)
  clear hexit hst hW hR
  conv => arg 2; arg 1; whnf
  go_loopg [] S.size (fun n wr => ∃ (a : Nat) (x : Pl.TS), n = S.size - a ∧ a ≤ S.size ∧ Hid (Pl.setFrom (S.data.toList.drop a) x = R) ∧ x.out.length + 65536 * (S.size - a) ≤ 65536 * S.size ∧ Hid (StAt wr B g S a x) ∧ Hid (BX B g W wr) ∧ B ≤ wr.heap.size)
  case atStart => exact ⟨0, _, by omega, by omega, HR0, by simp, HS0, HW, hBw⟩
  case round =>
    obtain ⟨a, x, rfl, ha, hfr, hro, hst, hbx, hBr⟩ := hrel
    by_cases hlt : a < S.size
    · have hne : S.data.toList.drop a ≠ [] := fun e => by
        have := congrArg List.length e
        rw [List.length_drop, List.length_nil] at this
        omega
      have hdl : (S.data.toList.drop a).length = S.size - a := by rw [List.length_drop, hl]
      have hai : (a : Int) < S.size := by omega
      have ho : x.out.length + 65536 ≤ 140737488355328 := by omega
      have hstep : ∀ (t : List UInt8) (y : Pl.TS) (b : Nat), Pl.stepS (S.data.toList.drop a) x = (t, y) → b ≤ S.size → S.data.toList.drop b = t → a < b ∧ Pl.setFrom t y = R ∧ y.out.length + 65536 * (S.size - b) ≤ 65536 * S.size := fun t y b h hb ht => by
        obtain ⟨h1, h2, h3⟩ := Pl.step_ok (n := S.size) hne h hfr.out (by rw [hdl]; exact hro)
        rw [← ht, List.length_drop, hl] at h3
        rw [← ht, List.length_drop, hl, hdl] at h1
        exact ⟨by omega, h2, h3⟩
      have hc1 := refClass_any wr B g S a x hst.out hBr hlt hs ho
      have hc2 : ∀ V, BX B g wr V → StAt V B g S a x → Calls Tryz.prog 19 #[.pointer (some ⟨g, 0, none⟩)] V (StPost B g S a x (Pl.equalS (S.data.toList.drop a) x) V) := fun V hV hS => refEqual_any V B g S a x hS (Nat.le_trans hBr hV.size) hlt hs ho
      have hc3 : ∀ V, BX B g wr V → StAt V B g S a x → Calls Tryz.prog 20 #[.pointer (some ⟨g, 0, none⟩)] V (StPost B g S a x (Pl.timesS (S.data.toList.drop a) x) V) := fun V hV hS => refTimes_any V B g S a x hS (Nat.le_trans hBr hV.size) hlt hs ho
      obtain ⟨r1, _, _, rl⟩ := hst.out.facts 1
      have HSTEP := Lib.hid hstep
      have HBX := Lib.hid hbx.out
      have HST := Lib.hid hst.out
      have HRO := Lib.hid hro
      clear hstep hst hbx hro hfr hne hdl
      cases hcl : Pl.classS (S.data.toList.drop a) x with
      | some q =>
        obtain ⟨t, y⟩ := q
        rw [hcl] at hc1
        have HQ := Lib.hid (Pl.step_class hcl)
        clear hcl hc2 hc3
        go_wp2_with (first
          | (go_at_call 18; (refine hc1.mono ?_); rintro e w1 ⟨hx1, rfl, b, hb, hbt, hS1⟩))
        obtain ⟨h1, h2, h3⟩ := HSTEP.out t y b HQ.out hb hbt
        go_roundg (S.size - b)
        case measure => omega
        case rel => exact ⟨b, y, rfl, hb, Lib.hid (by rw [hbt]; exact h2), h3, Lib.hid hS1, Lib.hid (HBX.out.trans hx1), Nat.le_trans hBr hx1.size⟩
      | none =>
        rw [hcl] at hc1
        cases heq : Pl.equalS (S.data.toList.drop a) x with
        | some q =>
          obtain ⟨t, y⟩ := q
          rw [heq] at hc2
          have HQ := Lib.hid (Pl.step_equal hcl heq)
          clear hcl heq hc3
          go_wp2_with (first
            | (go_at_call 19; (refine (hc2 w1 hx1 hS1).mono ?_); rintro e w2 ⟨hx2, rfl, b, hb, hbt, hS2⟩)
            | (go_at_call 18; (refine hc1.mono ?_); rintro e w1 ⟨hx1, rfl, hS1⟩))
          obtain ⟨h1, h2, h3⟩ := HSTEP.out t y b HQ.out hb hbt
          have hx12 := hx1.trans hx2
          go_roundg (S.size - b)
          case measure => omega
          case rel => exact ⟨b, y, rfl, hb, Lib.hid (by rw [hbt]; exact h2), h3, Lib.hid hS2, Lib.hid (HBX.out.trans hx12), Nat.le_trans hBr hx12.size⟩
        | none =>
          rw [heq] at hc2
          cases htm : Pl.timesS (S.data.toList.drop a) x with
          | some q =>
            obtain ⟨t, y⟩ := q
            rw [htm] at hc3
            have HQ := Lib.hid (Pl.step_times hcl heq htm)
            clear hcl heq htm
            go_wp2_with (first
              | (go_at_call 20; (refine (hc3 w2 hx12 hS2).mono ?_); rintro e w3 ⟨hx3, rfl, b, hb, hbt, hS3⟩)
              | (go_at_call 19; (refine (hc2 w1 hx1 hS1).mono ?_); rintro e w2 ⟨hx2, rfl, hS2⟩; have hx12 := hx1.trans hx2)
              | (go_at_call 18; (refine hc1.mono ?_); rintro e w1 ⟨hx1, rfl, hS1⟩))
            obtain ⟨h1, h2, h3⟩ := HSTEP.out t y b HQ.out hb hbt
            have hx13 := hx12.trans hx3
            go_roundg (S.size - b)
            case measure => omega
            case rel => exact ⟨b, y, rfl, hb, Lib.hid (by rw [hbt]; exact h2), h3, Lib.hid hS3, Lib.hid (HBX.out.trans hx13), Nat.le_trans hBr hx13.size⟩
          | none =>
            rw [htm] at hc3
            have hpl := Pl.step_plain hcl heq htm
            clear hcl heq htm
            obtain ⟨n, hn⟩ : ∃ n, Pl.signN (S.data.toList.drop a) = n := ⟨_, rfl⟩
            obtain ⟨c, hc⟩ : ∃ c, Pl.signC (S.data.toList.drop a) = c := ⟨_, rfl⟩
            have hsg := refSign_any S a hlt hs
            obtain ⟨hN1, hN2⟩ := signN_room hlt
            rw [hn, hc] at hsg
            rw [hn] at hN1 hN2
            obtain ⟨k, hk⟩ : ∃ k, a + n = k := ⟨_, rfl⟩
            have hkI : (a : Int) + n = k := by omega
            have HSG := Lib.hid hsg
            have hdk : (S.data.toList.drop a).drop n = S.data.toList.drop k := by rw [List.drop_drop, hk]
            by_cases hr : k + 1 < S.size ∧ ∃ h : k < S.size, (S[k]'h == 45) = true
            · obtain ⟨hk1, hk0, h45⟩ := hr
              obtain ⟨m, hm⟩ : ∃ m, Pl.signN (S.data.toList.drop (k + 1)) = m := ⟨_, rfl⟩
              obtain ⟨d, hd⟩ : ∃ d, Pl.signC (S.data.toList.drop (k + 1)) = d := ⟨_, rfl⟩
              have hsg2 := refSign_any S (k + 1) hk1 hs
              obtain ⟨hM1, hM2⟩ := signN_room hk1
              rw [hm, hd, show ((k + 1 : Nat) : Int) = (k : Int) + 1 by omega] at hsg2
              rw [hm] at hM1 hM2
              obtain ⟨b, hb⟩ : ∃ b, k + 1 + m = b := ⟨_, rfl⟩
              have hbI : (k : Int) + 1 + m = b := by omega
              have hq : Pl.plainS (S.data.toList.drop a) x = (S.data.toList.drop b, { x with out := x.out ++ Pl.span c d, bad := x.bad || decide (d.toNat < c.toNat) }) := by
                unfold Pl.plainS
                have e1 : (S.data.toList.drop a).drop (n + 1) = S.data.toList.drop (k + 1) := by rw [List.drop_drop]; congr 1; omega
                rw [hn, hdk, str_pre1 hk0, h45, e1, if_pos ⟨rfl, fun e => by have := congrArg List.length e; rw [List.length_drop, List.length_nil] at this; omega⟩, hm, hd, hc, List.drop_drop]
                congr 2
                omega
              obtain ⟨h1, h2, h3⟩ := HSTEP.out _ _ b (hpl.trans hq) (by omega) rfl
              have HSG2 := Lib.hid hsg2
              have H2 := Lib.hid h2
              have H3 := Lib.hid h3
              obtain ⟨z, hz⟩ : ∃ z : Int, ((S[k]'hk0).toNat : Int) = z := ⟨_, rfl⟩
              have n45 : (z == 45) = true := by have := u8_ne hz (p := 45) (n := 45) rfl; rw [h45] at this; simpa [bne] using this
              have hk1I : (k : Int) + 1 < S.size := by omega
              have hmI : (m : Int) ≤ 1048576 := by omega
              have hnI : (n : Int) ≤ 1048576 := by omega
              have hcb : (c.toNat : Int) ≤ 255 := by have := c.toNat_lt; omega
              have hcb0 : 0 ≤ (c.toNat : Int) := by omega
              have hdb : (d.toNat : Int) ≤ 255 := by have := d.toNat_lt; omega
              have hdb0 : 0 ≤ (d.toNat : Int) := by omega
              clear hq h2 h3 hpl hsg hsg2 hdk hn hc hm hd h45
              cases hbad : decide (d.toNat < c.toNat) with
              | true =>
                have hdc : (d.toNat : Int) < (c.toNat : Int) := by have := of_decide_eq_true hbad; omega
                rw [hbad, Bool.or_true] at H2 H3
                clear hbad
                go_wp2_with (first
                  | (go_at_call 21; have hsq := HSG2.out (w4.setCell ⟨g, 1, none⟩ (.int .i64 k)); (with_reducible refine hsq.mono ?_); clear hsq; rintro e w6 ⟨rfl, hb6⟩
                     have hB5 : B ≤ (w4.setCell ⟨g, 1, none⟩ (.int .i64 k)).heap.size := (by simpa [World.setCell] using hB4)
                     have hB6 : B ≤ w6.heap.size := Nat.le_trans hB5 hb6.size
                     have hS6 := Lib.hid (hS5.out.below hb6)
                     have hX6 : Hid (BX B g W w6) := Lib.hid ((hX4.out.setG 1 _).then (hb6.mono hB5))
                     obtain ⟨m1, m4, mfr, ml⟩ := hS6.out.facts 1
                     have hS7 := Lib.hid (hS6.out.moved b)
                     have hX7 : Hid (BX B g W (w6.setCell ⟨g, 1, none⟩ (.int .i64 b))) := Lib.hid (hX6.out.setG 1 _)
                     have hB7 : B ≤ (w6.setCell ⟨g, 1, none⟩ (.int .i64 b)).heap.size := (by simpa [World.setCell] using hB6)
                     obtain ⟨n1, n4, nfr, nl⟩ := hS7.out.facts 4)
                  | (go_at_call 21; have hsq := HSG.out w3; (with_reducible refine hsq.mono ?_); clear hsq; rintro e w4 ⟨rfl, hb4⟩
                     have hS4 := Lib.hid (hS3.below hb4)
                     have hB3 : B ≤ w3.heap.size := Nat.le_trans hBr hx13.size
                     have hB4 : B ≤ w4.heap.size := Nat.le_trans hB3 hb4.size
                     have hX4 : Hid (BX B g W w4) := Lib.hid ((HBX.out.trans hx13).then (hb4.mono hB3))
                     obtain ⟨i1, i4, ifr, il⟩ := hS4.out.facts 1
                     have hS5 := Lib.hid (hS4.out.moved k)
                     obtain ⟨j1, j4, jfr, jl⟩ := hS5.out.facts 1)
                  | (go_at_call 20; (refine (hc3 w2 hx12 hS2).mono ?_); rintro e w3 ⟨hx3, rfl, hS3⟩
                     have hx13 := hx12.trans hx3
                     obtain ⟨g1, g4, gf, gl⟩ := hS3.facts 1)
                  | (go_at_call 19; (refine (hc2 w1 hx1 hS1).mono ?_); rintro e w2 ⟨hx2, rfl, hS2⟩; have hx12 := hx1.trans hx2)
                  | (go_at_call 18; (refine hc1.mono ?_); rintro e w1 ⟨hx1, rfl, hS1⟩))
                refine set_l2 W _ B g S b { x with bad := true } hS7.out.badly (hX7.out.setG 4 _) (by simpa [World.setCell] using hB7) c d ho ?_
                intro v11 v94 v95 v96 v97 v98 v99 v100 v101 v102 v103 v104 v105 v106 v107 v108 v109 v110 w9 s9 x9
                go_wp2_with fail
                go_roundg (S.size - b)
                case measure => omega
                case rel => exact ⟨b, _, rfl, by omega, H2, H3.out, Lib.hid s9, Lib.hid x9, Nat.le_trans hBW x9.size⟩
              | false =>
                have hdc : (c.toNat : Int) ≤ (d.toNat : Int) := by have := of_decide_eq_false hbad; omega
                rw [hbad, Bool.or_false] at H2 H3
                clear hbad
                go_wp2_with (first
                  | (go_at_call 21; have hsq := HSG2.out (w4.setCell ⟨g, 1, none⟩ (.int .i64 k)); (with_reducible refine hsq.mono ?_); clear hsq; rintro e w6 ⟨rfl, hb6⟩
                     have hB5 : B ≤ (w4.setCell ⟨g, 1, none⟩ (.int .i64 k)).heap.size := (by simpa [World.setCell] using hB4)
                     have hB6 : B ≤ w6.heap.size := Nat.le_trans hB5 hb6.size
                     have hS6 := Lib.hid (hS5.out.below hb6)
                     have hX6 : Hid (BX B g W w6) := Lib.hid ((hX4.out.setG 1 _).then (hb6.mono hB5))
                     obtain ⟨m1, m4, mfr, ml⟩ := hS6.out.facts 1
                     have hS7 := Lib.hid (hS6.out.moved b)
                     have hX7 : Hid (BX B g W (w6.setCell ⟨g, 1, none⟩ (.int .i64 b))) := Lib.hid (hX6.out.setG 1 _)
                     have hB7 : B ≤ (w6.setCell ⟨g, 1, none⟩ (.int .i64 b)).heap.size := (by simpa [World.setCell] using hB6)
                     obtain ⟨n1, n4, nfr, nl⟩ := hS7.out.facts 4)
                  | (go_at_call 21; have hsq := HSG.out w3; (with_reducible refine hsq.mono ?_); clear hsq; rintro e w4 ⟨rfl, hb4⟩
                     have hS4 := Lib.hid (hS3.below hb4)
                     have hB3 : B ≤ w3.heap.size := Nat.le_trans hBr hx13.size
                     have hB4 : B ≤ w4.heap.size := Nat.le_trans hB3 hb4.size
                     have hX4 : Hid (BX B g W w4) := Lib.hid ((HBX.out.trans hx13).then (hb4.mono hB3))
                     obtain ⟨i1, i4, ifr, il⟩ := hS4.out.facts 1
                     have hS5 := Lib.hid (hS4.out.moved k)
                     obtain ⟨j1, j4, jfr, jl⟩ := hS5.out.facts 1)
                  | (go_at_call 20; (refine (hc3 w2 hx12 hS2).mono ?_); rintro e w3 ⟨hx3, rfl, hS3⟩
                     have hx13 := hx12.trans hx3
                     obtain ⟨g1, g4, gf, gl⟩ := hS3.facts 1)
                  | (go_at_call 19; (refine (hc2 w1 hx1 hS1).mono ?_); rintro e w2 ⟨hx2, rfl, hS2⟩; have hx12 := hx1.trans hx2)
                  | (go_at_call 18; (refine hc1.mono ?_); rintro e w1 ⟨hx1, rfl, hS1⟩))
                refine set_l2 W _ B g S b x hS7.out hX7.out hB7 c d ho ?_
                intro v11 v94 v95 v96 v97 v98 v99 v100 v101 v102 v103 v104 v105 v106 v107 v108 v109 v110 w9 s9 x9
                go_wp2_with fail
                go_roundg (S.size - b)
                case measure => omega
                case rel => exact ⟨b, _, rfl, by omega, H2, H3.out, Lib.hid s9, Lib.hid x9, Nat.le_trans hBW x9.size⟩
            · have hq : Pl.plainS (S.data.toList.drop a) x = (S.data.toList.drop k, { x with out := x.out ++ [c] }) := by
                unfold Pl.plainS
                have e1 : (S.data.toList.drop a).drop (n + 1) = S.data.toList.drop (k + 1) := by rw [List.drop_drop]; congr 1; omega
                rw [hn, hdk, e1, if_neg, hc]
                rintro ⟨g1, g2⟩
                have hk1 : k + 1 < S.size := by
                  rcases Nat.lt_or_ge (k + 1) S.size with h | h
                  · exact h
                  · exact absurd (List.drop_eq_nil_of_le (by omega)) g2
                rw [str_pre1 (show k < S.size by omega)] at g1
                exact hr ⟨hk1, by omega, g1⟩
              obtain ⟨h1, h2, h3⟩ := HSTEP.out _ _ k (hpl.trans hq) (by omega) rfl
              have H2 := Lib.hid h2
              have H3 := Lib.hid h3
              have hnI : (n : Int) ≤ 1048576 := by omega
              clear hq h2 h3 hpl hsg hdk hn hc
              by_cases hk1 : k + 1 < S.size
              · have hk0 : k < S.size := by omega
                obtain ⟨z, hz⟩ : ∃ z : Int, ((S[k]'hk0).toNat : Int) = z := ⟨_, rfl⟩
                have n45 : (z == 45) = false := by
                  have := u8_ne hz (p := 45) (n := 45) rfl
                  cases h45 : S[k]'hk0 == 45
                  · rw [h45] at this; simpa [bne] using this
                  · exact absurd ⟨hk1, hk0, h45⟩ hr
                have hk1I : (k : Int) + 1 < S.size := by omega
                clear hr
                obtain ⟨l, hlx⟩ : ∃ l, x.out.length = l := ⟨_, rfl⟩
                have HLX := Lib.hid hlx
                have hlo : l + 1 ≤ 140737488355328 := by omega
                clear hlx
                go_wp2_with (first
                  | (at_builtin; refine wpList_push rfl _ _ rfl w5 B (.slice A l cp) l x.out c rfl HOWN.out HLX.out.symm rfl hB5 hlo ?_; intro A2 c2 w6 hown2 hg2 hat2
                     have b2 := Blk.grown (HBLK.out.alloc _) hg2 (own_blk_ne HOWN.out HBLK.out (by decide)).symm
                     have r22 := b2.cell 2
                     have f2 := b2.frozen 2
                     have l2 := b2.lt)
                  | (go_at_call 21; have hsq := HSG.out w3; (with_reducible refine hsq.mono ?_); clear hsq; rintro e w4 ⟨rfl, hb4⟩
                     have hS4 := Lib.hid (hS3.below hb4)
                     have hB3 : B ≤ w3.heap.size := Nat.le_trans hBr hx13.size
                     have hB4 : B ≤ w4.heap.size := Nat.le_trans hB3 hb4.size
                     have hX4 : Hid (BX B g W w4) := Lib.hid ((HBX.out.trans hx13).then (hb4.mono hB3))
                     obtain ⟨i1, i4, ifr, il⟩ := hS4.out.facts 1
                     have hS5 := Lib.hid (hS4.out.moved k)
                     obtain ⟨j1, j4, jfr, jl⟩ := hS5.out.facts 1
                     obtain ⟨w5, hw5⟩ : ∃ w5, w4.setCell ⟨g, 1, none⟩ (.int .i64 k) = w5 := ⟨_, rfl⟩
                     rw [hw5] at hS5 j1 j4 jfr jl
                     have hX5 : Hid (BX B g W w5) := Lib.hid (by rw [← hw5]; exact hX4.out.setG 1 _)
                     obtain ⟨A, cp, r2, hown, hblk⟩ := hS5.out.outs
                     rw [HLX.out] at r2 hown hblk
                     have HOWN := Lib.hid hown
                     have HBLK := Lib.hid hblk
                     have hB5 : B ≤ w5.heap.size := (by rw [← hw5]; simpa [World.setCell] using hB4)
                     clear hown hblk)
                  | (go_at_call 20; (refine (hc3 w2 hx12 hS2).mono ?_); rintro e w3 ⟨hx3, rfl, hS3⟩
                     have hx13 := hx12.trans hx3
                     obtain ⟨g1, g4, gf, gl⟩ := hS3.facts 1)
                  | (go_at_call 19; (refine (hc2 w1 hx1 hS1).mono ?_); rintro e w2 ⟨hx2, rfl, hS2⟩; have hx12 := hx1.trans hx2)
                  | (go_at_call 18; (refine hc1.mono ?_); rintro e w1 ⟨hx1, rfl, hS1⟩))
                have hBg := hS4.out.1
                have hst9 := stOut (x := x) (b := k) hBg rfl rfl b2 (by rw [HLX.out]; exact hown2)
                have hX9 : BX B g W (w6.setCell ⟨g, 2, none⟩ (.slice A2 (l + 1) c2)) := (hX5.out.then (((Below.refl B _).alloc hB5 _).grown hg2 (Nat.le_trans hB5 (by simp)) (fun j hj => (HOWN.out.lt j hj).1))).setG 2 _
                have hs9 := (((Below.refl B w5).alloc hB5 (.cells #[.int .u8 (c.toNat : Int)] 5)).grown hg2 (Nat.le_trans hB5 (by simp)) (fun j hj => (HOWN.out.lt j hj).1)).size
                go_roundg (S.size - k)
                case measure => omega
                case rel => exact ⟨k, _, rfl, by omega, H2, H3.out, Lib.hid hst9, Lib.hid hX9, Nat.le_trans hB5 (by simpa [World.setCell] using hs9)⟩
              · have hk1I : (S.size : Int) ≤ (k : Int) + 1 := by omega
                clear hr
                obtain ⟨l, hlx⟩ : ∃ l, x.out.length = l := ⟨_, rfl⟩
                have HLX := Lib.hid hlx
                have hlo : l + 1 ≤ 140737488355328 := by omega
                clear hlx
                go_wp2_with (first
                  | (at_builtin; refine wpList_push rfl _ _ rfl w5 B (.slice A l cp) l x.out c rfl HOWN.out HLX.out.symm rfl hB5 hlo ?_; intro A2 c2 w6 hown2 hg2 hat2
                     have b2 := Blk.grown (HBLK.out.alloc _) hg2 (own_blk_ne HOWN.out HBLK.out (by decide)).symm
                     have r22 := b2.cell 2
                     have f2 := b2.frozen 2
                     have l2 := b2.lt)
                  | (go_at_call 21; have hsq := HSG.out w3; (with_reducible refine hsq.mono ?_); clear hsq; rintro e w4 ⟨rfl, hb4⟩
                     have hS4 := Lib.hid (hS3.below hb4)
                     have hB3 : B ≤ w3.heap.size := Nat.le_trans hBr hx13.size
                     have hB4 : B ≤ w4.heap.size := Nat.le_trans hB3 hb4.size
                     have hX4 : Hid (BX B g W w4) := Lib.hid ((HBX.out.trans hx13).then (hb4.mono hB3))
                     obtain ⟨i1, i4, ifr, il⟩ := hS4.out.facts 1
                     have hS5 := Lib.hid (hS4.out.moved k)
                     obtain ⟨j1, j4, jfr, jl⟩ := hS5.out.facts 1
                     obtain ⟨w5, hw5⟩ : ∃ w5, w4.setCell ⟨g, 1, none⟩ (.int .i64 k) = w5 := ⟨_, rfl⟩
                     rw [hw5] at hS5 j1 j4 jfr jl
                     have hX5 : Hid (BX B g W w5) := Lib.hid (by rw [← hw5]; exact hX4.out.setG 1 _)
                     obtain ⟨A, cp, r2, hown, hblk⟩ := hS5.out.outs
                     rw [HLX.out] at r2 hown hblk
                     have HOWN := Lib.hid hown
                     have HBLK := Lib.hid hblk
                     have hB5 : B ≤ w5.heap.size := (by rw [← hw5]; simpa [World.setCell] using hB4)
                     clear hown hblk)
                  | (go_at_call 20; (refine (hc3 w2 hx12 hS2).mono ?_); rintro e w3 ⟨hx3, rfl, hS3⟩
                     have hx13 := hx12.trans hx3
                     obtain ⟨g1, g4, gf, gl⟩ := hS3.facts 1)
                  | (go_at_call 19; (refine (hc2 w1 hx1 hS1).mono ?_); rintro e w2 ⟨hx2, rfl, hS2⟩; have hx12 := hx1.trans hx2)
                  | (go_at_call 18; (refine hc1.mono ?_); rintro e w1 ⟨hx1, rfl, hS1⟩))
                have hBg := hS4.out.1
                have hst9 := stOut (x := x) (b := k) hBg rfl rfl b2 (by rw [HLX.out]; exact hown2)
                have hX9 : BX B g W (w6.setCell ⟨g, 2, none⟩ (.slice A2 (l + 1) c2)) := (hX5.out.then (((Below.refl B _).alloc hB5 _).grown hg2 (Nat.le_trans hB5 (by simp)) (fun j hj => (HOWN.out.lt j hj).1))).setG 2 _
                have hs9 := (((Below.refl B w5).alloc hB5 (.cells #[.int .u8 (c.toNat : Int)] 5)).grown hg2 (Nat.le_trans hB5 (by simp)) (fun j hj => (HOWN.out.lt j hj).1)).size
                go_roundg (S.size - k)
                case measure => omega
                case rel => exact ⟨k, _, rfl, by omega, H2, H3.out, Lib.hid hst9, Lib.hid hX9, Nat.le_trans hB5 (by simpa [World.setCell] using hs9)⟩
    · have ha2 : a = S.size := by omega
      obtain ⟨r1, _, _, rl⟩ := hst.out.facts 1
      have hai : (S.size : Int) ≤ (a : Int) := by omega
      have HE : Hid (x = R) := Lib.hid (by have := hfr.out; rwa [List.drop_eq_nil_of_le (by omega), Pl.setFrom_nil] at this)
      clear hfr
      go_wp2_with fail
      exact HX.out _ _ _ _ _ _ _ _ _ _ _ _ _ _ _ _ _ _ _ _ _ _ _ _ _ _ _ _ _ _ _ _ _ _ _ _ _ _ _ _ _ _ _ _ _ _ _ _ _ _ _ _ _ _ _ _ _ _ _ _ _ _ _ _ _ _ _ _ _ _ _ _ _ _ _ _ _ _ _ _ _ _ _ _ _ _ _ _ _ _ _ _ _ _ _ _ _ _ _ _ _ _ _ _ _ _ _ _ _ _ _ _ wr a (by rw [← HE.out]; exact hst.out) hbx.out hBr

end Go.Proofs.YtlhiadnolckoeaaGreatDoor
end

section
namespace Go.Proofs.YtlhiadnolckoeaaGreatDoor
open Go.RowKit Go.Maps

set_option maxRecDepth 100000 in
set_option maxHeartbeats 4000000 in
theorem refSet_any (w : World) (S : ByteArray) (hs : S.size ≤ 1048576) :
    Calls Tryz.prog 8 #[.string S] w fun e w' => ∃ v, e = .returned (setRes v (Pl.setL S.data.toList)) ∧ w'.ownsRow w.heap.size 5 1 v (Pl.setL S.data.toList).out.length (bytesC (Pl.setL S.data.toList).out) ∧ Below w.heap.size w w' := by
  obtain ⟨g, hg⟩ : ∃ g, w.heap.size = g := ⟨_, rfl⟩
  obtain ⟨W, hW⟩ : ∃ W, w.alloc (.cells #[.string S, .int .i64 0, .slice none 0 0, .int .i64 (-1), .bool false] 55) = W := ⟨_, rfl⟩
  have hS0 : StAt W (g + 1) g S 0 ⟨[], -1, false⟩ := ⟨by omega, .slice none 0 0, by rw [← hW, ← hg]; exact Blk.new w _ _, World.ownsRow_nil _ _ _ _⟩
  have hB0 : Below g w W := by rw [← hW, ← hg]; exact below_one w _
  have hWs : W.heap.size = g + 1 := by rw [← hW, ← hg]; simp
  obtain ⟨R, hR⟩ : ∃ R, Pl.setL S.data.toList = R := ⟨_, rfl⟩
  have HR := Lib.hid hR
  have HS := Lib.hid hS0
  have HB := Lib.hid hB0
  have HWS := Lib.hid hWs
  rw [hR, hg]
  clear hR hS0 hB0 hWs
  go_enter Tryz.func8, Tryz.ntmps8
  go_wp2_with fail
  refine set_l1 W W (g + 1) g S hs R HS.out (bx (Below.refl _ _)) (by rw [HWS.out]; exact Nat.le_refl _) (by rw [HWS.out]; exact Nat.le_refl _) HR.out ?_
  intro u6 u7 u8 u9 u10 u11 u15 u16 u17 u18 u19 u20 u21 u22 u23 u24 u25 u26 u27 u28 u29 u30 u31 u32 u33 u34 u35 u36 u37 u38 u39 u40 u41 u42 u43 u44 u45 u46 u47 u48 u49 u50 u51 u52 u53 u54 u55 u56 u57 u58 u59 u60 u61 u62 u63 u64 u65 u66 u67 u68 u69 u70 u71 u72 u73 u74 u75 u76 u77 u78 u79 u80 u81 u82 u83 u84 u85 u86 u87 u88 u89 u90 u91 u92 u93 u94 u95 u96 u97 u98 u99 u100 u101 u102 u103 u104 u105 u106 u107 u108 u109 u110 u111 u112 u113 u114 u115 u116 u117 u118 u119 u120 w1 a hst hbx hBw
  have hbl : Below g w w1 := HB.out.trans (hbx.low (Nat.le_refl _) (by omega))
  obtain ⟨A, cp, r2, hown, hblk⟩ := hst.outs
  have r3 : w1.cell? ⟨g, 3, none⟩ = some (.int .i64 R.rest) := hblk.cell 3
  have r4 : w1.cell? ⟨g, 4, none⟩ = some (.bool R.bad) := hblk.cell 4
  have rl := hblk.lt
  have HO := Lib.hid (own_low hown (show g ≤ g + 1 by omega))
  have HBL := Lib.hid hbl
  obtain ⟨bd, hbd⟩ : ∃ bd, R.bad = bd := ⟨_, rfl⟩
  have HBD := Lib.hid hbd
  rw [hbd] at r4
  clear hst hbx hown hblk hbl hbd
  cases bd
  · go_wp2_with fail
    go_quiet (fail)
    go_wp2_with fail
    go_returns
    exact ⟨.slice A R.out.length cp, by unfold setRes; rw [HBD.out]; rfl, HO.out, below_drewN HBL.out _⟩
  · go_wp2_with fail
    go_returns
    exact ⟨.slice A R.out.length cp, by unfold setRes; rw [HBD.out]; rfl, HO.out, HBL.out⟩

set_option maxRecDepth 100000 in
set_option maxHeartbeats 4000000 in
theorem sets_any (w : World) (hT : Tabs w) (S : ByteArray) (hs : S.size ≤ 1048576) :
    Calls Tryz.prog 3 #[.string S] w fun e w' => e = .returned (.bool true) ∧ Below w.heap.size w w' := by
  have HT := Lib.hid hT
  obtain ⟨R, hR⟩ : ∃ R, Pl.setL S.data.toList = R := ⟨_, rfl⟩
  have h1 : ∀ V, Below w.heap.size w V → Calls Tryz.prog 7 #[.string S] V fun e w' => ∃ v, e = .returned (setRes v R) ∧ w'.ownsRow V.heap.size 5 1 v R.out.length (bytesC R.out) ∧ Below V.heap.size V w' := fun V hV => by
    have h := set_any V S.data.toList (by rw [Array.length_toList]; exact hs) (HT.out.below hV)
    rw [hR] at h
    exact h
  have h2 : ∀ V, Calls Tryz.prog 8 #[.string S] V fun e w' => ∃ v, e = .returned (setRes v R) ∧ w'.ownsRow V.heap.size 5 1 v R.out.length (bytesC R.out) ∧ Below V.heap.size V w' := fun V => by
    have h := refSet_any V S hs
    rw [hR] at h
    exact h
  have HA := Lib.hid h1
  have HB := Lib.hid h2
  obtain ⟨SR, hSR⟩ : ∃ SR, strB R.out = SR := ⟨_, rfl⟩
  have HSR := Lib.hid hSR
  clear hT hR h1 h2 hSR
  obtain ⟨bd, hbd⟩ : ∃ bd, R.bad = bd := ⟨_, rfl⟩
  have HBD := Lib.hid hbd
  clear hbd
  cases bd
  · go_enter Tryz.func3, Tryz.ntmps3
    go_wp2_with (first
      | (go_at_call 8; refine (HB.out _).mono ?_; rintro e w3 ⟨v3, rfl, ho3, hb3⟩; unfold setRes; rw [HBD.out]; simp only [Bool.false_eq_true, if_false]
         obtain ⟨A3, c3, rfl, _, _, hr3⟩ := own_slice ho3
         have f3 : (convert 23 9 (.slice A2 R.out.length c2)).run Tryz.prog w3 = .ok (.string SR) w3 := convOut HSR.out rfl (hr2.below hb3)
         have f4 : (convert 23 9 (.slice A3 R.out.length c3)).run Tryz.prog w3 = .ok (.string SR) w3 := convOut HSR.out rfl hr3
         have b3 : Below w.heap.size w w3 := b2.trans (hb3.mono b2.size))
      | (go_at_call 7; refine (HA.out _ b1).mono ?_; rintro e w2 ⟨v2, rfl, ho2, hb2⟩; unfold setRes; rw [HBD.out]; simp only [Bool.false_eq_true, if_false]
         obtain ⟨A2, c2, rfl, _, _, hr2⟩ := own_slice ho2
         have b2 : Below w.heap.size w w2 := b1.trans (hb2.mono b1.size))
      | (go_at_call 6; refine (awake_any _ HT.out).mono ?_; rintro e w1 ⟨rfl, b1⟩))
    go_returns
    exact ⟨rfl, b3⟩
  · have hnil : ∀ W, (convert 23 9 (.slice none 0 0)).run Tryz.prog W = .ok (.string ⟨#[]⟩) W := fun W => convOut (B := 0) (l := []) rfl rfl Reads.none_
    go_enter Tryz.func3, Tryz.ntmps3
    go_wp2_with (first
      | (go_at_call 8; refine (HB.out _).mono ?_; rintro e w3 ⟨v3, rfl, ho3, hb3⟩; unfold setRes; rw [HBD.out]; simp only [if_true]
         have b3 : Below w.heap.size w w3 := b2.trans (hb3.mono b2.size))
      | (go_at_call 7; refine (HA.out _ b1).mono ?_; rintro e w2 ⟨v2, rfl, ho2, hb2⟩; unfold setRes; rw [HBD.out]; simp only [if_true]
         have b2 : Below w.heap.size w w2 := b1.trans (hb2.mono b1.size))
      | (go_at_call 6; refine (awake_any _ HT.out).mono ?_; rintro e w1 ⟨rfl, b1⟩))
    go_returns
    exact ⟨rfl, b3⟩

end Go.Proofs.YtlhiadnolckoeaaGreatDoor
end
