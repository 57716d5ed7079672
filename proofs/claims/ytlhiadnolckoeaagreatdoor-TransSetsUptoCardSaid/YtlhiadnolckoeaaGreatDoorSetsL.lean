/-
  TransApart's four loops of counts: each a theorem of its own, over the frame written out (printed by wip/tools/apartgen.py).
-/
import Derived.Test.YtlhiadnolckoeaaGreatDoorR17

section
namespace Go.Proofs.YtlhiadnolckoeaaGreatDoor
open Go.RowKit Go.Maps

/-- the loops of a function's code, in their order -/
def loopsOf : Code → List Code
  | .loop c => [c]
  | .seq a b => loopsOf a ++ loopsOf b
  | .block _ c => loopsOf c
  | .scope c => loopsOf c
  | .cond _ a b => loopsOf a ++ loopsOf b
  | _ => []
noncomputable def apartLoop (k : Nat) : Code := (Tryz.f5.body.bind (fun c => (loopsOf c)[k]?)).getD .skip
/-- counts, and so many more (or less) of a text's -/
def cntZ (z : Int) (f : UInt8 → Int) (l : List UInt8) (k : Nat) (x : UInt8) : Int := f x + z * ((l.take k).count x : Int)
theorem cntZ_zero (z : Int) (f : UInt8 → Int) (l : List UInt8) : cntZ z f l 0 = f := by funext x; simp [cntZ]
theorem cntZ_all {z : Int} {f : UInt8 → Int} {l : List UInt8} {k : Nat} (h : l.length = k) (x : UInt8) : cntZ z f l k x = f x + z * (l.count x : Int) := by simp [cntZ, ← h]
theorem cntZ_set {z : Int} {f : UInt8 → Int} {l : List UInt8} {k : Nat} {c : UInt8} (hc : l[k]? = some c) : (arrF 256 (cntF (cntZ z f l k))).setIfInBounds c.toNat (.int .i64 (cntZ z f l k c + z)) = arrF 256 (cntF (cntZ z f l (k + 1))) := by
  refine cnt_set _ _ c _ ?_ fun x hx => ?_
  · unfold cntZ
    rw [count_more l k c hc, if_pos rfl, Int.mul_add, Int.mul_one, Int.add_assoc]
  · unfold cntZ
    rw [count_more l k c hc, if_neg hx, Int.add_zero]
theorem cntZ_near {z : Int} {f : UInt8 → Int} {l : List UInt8} (k : Nat) {m : Nat} (hz : z = 1 ∨ z = -1) (hl : l.length = m) (hm : m ≤ 140737488355000) (x : UInt8) : f x - 140737488355000 ≤ cntZ z f l k x ∧ cntZ z f l k x ≤ f x + 140737488355000 := by
  have h2 : (l.take k).count x ≤ m := Nat.le_trans List.count_le_length (by rw [List.length_take]; omega)
  unfold cntZ
  rcases hz with rfl | rfl <;> omega
theorem cntZ_bound {z : Int} {f : UInt8 → Int} {l : List UInt8} {k m : Nat} (hz : z = 1 ∨ z = -1) (hl : l.length = m) (hm : m ≤ 140737488355000) (hf : ∀ x, -400000000000000 ≤ f x ∧ f x ≤ 400000000000000) (x : UInt8) : -600000000000000 ≤ cntZ z f l k x ∧ cntZ z f l k x ≤ 600000000000000 := by
  have h1 := hf x
  have h2 : (l.take k).count x ≤ m := Nat.le_trans List.count_le_length (by rw [List.length_take]; omega)
  unfold cntZ
  rcases hz with rfl | rfl <;> omega

set_option maxRecDepth 100000 in
set_option maxHeartbeats 4000000 in
theorem apart_l1 (W w0 : World) (q m : Nat) (IA : Option Addr) (ic : Nat) (l : List UInt8) (hlm : l.length = m) (hil : m ≤ 140737488355000) (hlr : Reads W q 1 IA m (bytesC l)) (f : UInt8 → Int) (hf : ∀ x, -400000000000000 ≤ f x ∧ f x ≤ 400000000000000) (h0 : Blk w0 q 43 (arrF 256 (cntF f))) (hb0 : Below q W w0)
    {c1 c2 c3 c4 c5 c6 c7 c8 c9 c10 c11 c12 c13 c14 c15 c16 c17 c20 c21 c22 c23 c24 c25 c26 c27 c28 c29 c30 c31 c32 c33 c34 c35 c36 c37 c38 c39 c40 c41 c42 c43 c44 c45 c46 c47 c48 c49 c50 c51 c52 c53 c54 c55 c56 c57 c58 c59 c60 c61 c62 c63 c64 c65 c66 c67 c68 c69 c70 c71 c72 c73 c74 c75 c76 c77 c78 c79 c80 c81 c82 c83 c84 c85 c86 c87 c88 c89 c90 c91 c92 c93 c94 c95 c96 c97 c98 c99 c100 c101 c102 c103 c104 c105 c106 c107 c108 c109 c110 c111 c112 c113 c114 c115 c116 c117 c118 c119 c120 c121 c122 c123 c124 c125 c126 c127 c128 c129 c130 c131 c132 c133 c134 c135 c136 c137 c138 c139 c140 c141 c142 c143 c144 c145 c146 c147 c148 c149 c150 c151 c152 c153 c154 c155 c156 c157 c158 : Value} {Q0 : Exit → Act → World → Prop}
    (hexit : ∀ (u102 u103 u104 u105 u106 u107 u108 u109 u110 u111 u112 u113 u114 u115 u116 : Value) (w1 : World), Blk w1 q 43 (arrF 256 (cntF (cntZ 1 f l m))) → Below q W w1 → Q0 (.exit 0) ⟨#[.slice IA m ic, c1, c2, c3, c4, c5, c6, c7, c8, c9, c10, c11, c12, c13, c14, c15, c16, c17, .pointer (some ⟨q, 0, none⟩), .int .i64 m, c20, c21, c22, c23, c24, c25, c26, c27, c28, c29, c30, c31, c32, c33, c34, c35, c36, c37, c38, c39, c40, c41, c42, c43, c44, c45, c46, c47, c48, c49, c50, c51, c52, c53, c54, c55, c56, c57, c58, c59, c60, c61, c62, c63, c64, c65, c66, c67, c68, c69, c70, c71, c72, c73, c74, c75, c76, c77, c78, c79, c80, c81, c82, c83, c84, c85, c86, c87, c88, c89, c90, c91, c92, c93, c94, c95, c96, c97, c98, c99, c100, c101, u102, u103, u104, u105, u106, u107, u108, u109, u110, u111, u112, u113, u114, u115, u116, c117, c118, c119, c120, c121, c122, c123, c124, c125, c126, c127, c128, c129, c130, c131, c132, c133, c134, c135, c136, c137, c138, c139, c140, c141, c142, c143, c144, c145, c146, c147, c148, c149, c150, c151, c152, c153, c154, c155, c156, c157, c158], []⟩ w1) :
    Code.wp Tryz.prog (Code.loop (apartLoop 0)) Q0 ⟨#[.slice IA m ic, c1, c2, c3, c4, c5, c6, c7, c8, c9, c10, c11, c12, c13, c14, c15, c16, c17, .pointer (some ⟨q, 0, none⟩), .int .i64 0, c20, c21, c22, c23, c24, c25, c26, c27, c28, c29, c30, c31, c32, c33, c34, c35, c36, c37, c38, c39, c40, c41, c42, c43, c44, c45, c46, c47, c48, c49, c50, c51, c52, c53, c54, c55, c56, c57, c58, c59, c60, c61, c62, c63, c64, c65, c66, c67, c68, c69, c70, c71, c72, c73, c74, c75, c76, c77, c78, c79, c80, c81, c82, c83, c84, c85, c86, c87, c88, c89, c90, c91, c92, c93, c94, c95, c96, c97, c98, c99, c100, c101, c102, c103, c104, c105, c106, c107, c108, c109, c110, c111, c112, c113, c114, c115, c116, c117, c118, c119, c120, c121, c122, c123, c124, c125, c126, c127, c128, c129, c130, c131, c132, c133, c134, c135, c136, c137, c138, c139, c140, c141, c142, c143, c144, c145, c146, c147, c148, c149, c150, c151, c152, c153, c154, c155, c156, c157, c158], []⟩ w0 := by
  dsimp only at hexit ⊢
  have HR := Lib.hid hlr
  have HL := Lib.hid hlm
  have HF : Hid (∀ k x, -600000000000000 ≤ cntZ 1 f l k x ∧ cntZ 1 f l k x ≤ 600000000000000) := Lib.hid fun k x => cntZ_bound (by omega) hlm hil hf x
  have HX := Lib.hid hexit
  have hc0 := cntZ_zero 1 f l
  have H0 : Hid (Blk w0 q 43 (arrF 256 (cntF (cntZ 1 f l 0)))) := Lib.hid (by rw [hc0]; exact h0)
  have HB := Lib.hid hb0
  clear hlr hlm hexit h0 hb0 hf hc0
  conv => arg 2; arg 1; whnf
  go_loopw [19] (fun iv wr => ∃ k : Nat, k ≤ m ∧ iv = .int .i64 k ∧ Hid (Blk wr q 43 (arrF 256 (cntF (cntZ 1 f l k)))) ∧ Hid (Below q W wr)) (fun iv _ => m - (intOf iv).toNat)
  case atStart => exact ⟨0, by omega, rfl, H0, HB⟩
  case round =>
    obtain ⟨k, hk, rfl, hb, hbe⟩ := hrel
    by_cases hlt : k < m
    · obtain ⟨x, hx⟩ : ∃ x, l[k]? = some x := ⟨_, List.getElem?_eq_getElem (by rw [HL.out]; exact hlt)⟩
      obtain ⟨ad, u, rfl, hadl, hu, hcell⟩ := (HR.out.below hbe.out).at_ (k := k) hlt
      obtain rfl : u = .int .u8 (x.toNat : Int) := by
        simp only [bytesC, List.getElem?_map, hx, Option.map_some] at hu
        exact (Option.some.inj hu).symm
      have hcl : x.toNat < 256 := x.toNat_lt
      obtain ⟨v, hv⟩ : ∃ v, cntZ 1 f l k x = v := ⟨_, rfl⟩
      have hvb : -600000000000000 ≤ v ∧ v ≤ 600000000000000 := by rw [← hv]; exact HF.out k x
      have m1 : wr.cell? ⟨q, x.toNat, none⟩ = some (.int .i64 v) := by rw [← hv]; exact (hb.out.cell _).trans (cnt_get _ x)
      have m2 : wr.frozen? ⟨q, x.toNat, none⟩ = false := hb.out.frozen _
      have m3 := hb.out.lt
      have HS := Lib.hid (cntZ_set (z := 1) (f := f) hx)
      rw [hv] at HS
      clear hu hx hv
      go_wp2_with fail
      exact ⟨⟨k + 1, by omega, by go_num, Lib.hid (by rw [← HS.out]; exact hb.out.set_ _ _), Lib.hid (hbe.out.setCell (p := ⟨q, _, none⟩) (Nat.le_refl _) _)⟩, by simp [intOf]; omega⟩
    · obtain rfl : k = m := by omega
      go_wp2_with fail
      exact HX.out _ _ _ _ _ _ _ _ _ _ _ _ _ _ _ wr hb.out hbe.out

set_option maxRecDepth 100000 in
set_option maxHeartbeats 4000000 in
theorem apart_l2 (W w0 : World) (q m b : Nat) (IA : Option Addr) (ic : Nat) (l : List UInt8) (hlm : l.length = m) (hil : m ≤ 140737488355000) (hlr : Reads W q 1 IA m (bytesC l)) (hy : W.cell? ⟨b, 0, none⟩ = some (.slice IA m ic)) (hbq : b < q) (f : UInt8 → Int) (hf : ∀ x, -400000000000000 ≤ f x ∧ f x ≤ 400000000000000) (h0 : Blk w0 q 43 (arrF 256 (cntF f))) (hb0 : Below q W w0)
    {c0 c1 c2 c3 c4 c5 c6 c7 c8 c9 c11 c12 c13 c14 c15 c16 c17 c19 c21 c22 c23 c24 c25 c26 c27 c28 c29 c30 c31 c32 c33 c34 c35 c36 c37 c38 c39 c40 c41 c42 c43 c44 c45 c46 c47 c48 c49 c50 c51 c52 c53 c54 c55 c56 c57 c58 c59 c60 c61 c62 c63 c64 c65 c66 c67 c68 c69 c70 c71 c72 c73 c74 c75 c76 c77 c78 c79 c80 c81 c82 c83 c84 c85 c86 c87 c88 c89 c90 c91 c92 c93 c94 c95 c96 c97 c98 c99 c100 c101 c102 c103 c104 c105 c106 c107 c108 c109 c110 c111 c112 c113 c114 c115 c116 c117 c118 c119 c120 c121 c122 c123 c124 c125 c126 c127 c128 c129 c130 c131 c132 c133 c134 c135 c136 c137 c138 c139 c140 c141 c142 c143 c144 c145 c146 c147 c148 c149 c150 c151 c152 c153 c154 c155 c156 c157 c158 : Value} {Q0 : Exit → Act → World → Prop}
    (hexit : ∀ (u117 u118 u119 u120 u121 u122 u123 u124 u125 u126 u127 u128 u129 u130 u131 u132 u133 : Value) (w1 : World), Blk w1 q 43 (arrF 256 (cntF (cntZ (-1) f l m))) → Below q W w1 → Q0 (.exit 2) ⟨#[c0, c1, c2, c3, c4, c5, c6, c7, c8, c9, .pointer (some ⟨b, 0, none⟩), c11, c12, c13, c14, c15, c16, c17, .pointer (some ⟨q, 0, none⟩), c19, .int .i64 m, c21, c22, c23, c24, c25, c26, c27, c28, c29, c30, c31, c32, c33, c34, c35, c36, c37, c38, c39, c40, c41, c42, c43, c44, c45, c46, c47, c48, c49, c50, c51, c52, c53, c54, c55, c56, c57, c58, c59, c60, c61, c62, c63, c64, c65, c66, c67, c68, c69, c70, c71, c72, c73, c74, c75, c76, c77, c78, c79, c80, c81, c82, c83, c84, c85, c86, c87, c88, c89, c90, c91, c92, c93, c94, c95, c96, c97, c98, c99, c100, c101, c102, c103, c104, c105, c106, c107, c108, c109, c110, c111, c112, c113, c114, c115, c116, u117, u118, u119, u120, u121, u122, u123, u124, u125, u126, u127, u128, u129, u130, u131, u132, u133, c134, c135, c136, c137, c138, c139, c140, c141, c142, c143, c144, c145, c146, c147, c148, c149, c150, c151, c152, c153, c154, c155, c156, c157, c158], []⟩ w1) :
    Code.wp Tryz.prog (Code.loop (apartLoop 1)) Q0 ⟨#[c0, c1, c2, c3, c4, c5, c6, c7, c8, c9, .pointer (some ⟨b, 0, none⟩), c11, c12, c13, c14, c15, c16, c17, .pointer (some ⟨q, 0, none⟩), c19, .int .i64 0, c21, c22, c23, c24, c25, c26, c27, c28, c29, c30, c31, c32, c33, c34, c35, c36, c37, c38, c39, c40, c41, c42, c43, c44, c45, c46, c47, c48, c49, c50, c51, c52, c53, c54, c55, c56, c57, c58, c59, c60, c61, c62, c63, c64, c65, c66, c67, c68, c69, c70, c71, c72, c73, c74, c75, c76, c77, c78, c79, c80, c81, c82, c83, c84, c85, c86, c87, c88, c89, c90, c91, c92, c93, c94, c95, c96, c97, c98, c99, c100, c101, c102, c103, c104, c105, c106, c107, c108, c109, c110, c111, c112, c113, c114, c115, c116, c117, c118, c119, c120, c121, c122, c123, c124, c125, c126, c127, c128, c129, c130, c131, c132, c133, c134, c135, c136, c137, c138, c139, c140, c141, c142, c143, c144, c145, c146, c147, c148, c149, c150, c151, c152, c153, c154, c155, c156, c157, c158], []⟩ w0 := by
  dsimp only at hexit ⊢
  have HR := Lib.hid hlr
  have HL := Lib.hid hlm
  have HF : Hid (∀ k x, -600000000000000 ≤ cntZ (-1) f l k x ∧ cntZ (-1) f l k x ≤ 600000000000000) := Lib.hid fun k x => cntZ_bound (by omega) hlm hil hf x
  have HX := Lib.hid hexit
  have hc0 := cntZ_zero (-1) f l
  have H0 : Hid (Blk w0 q 43 (arrF 256 (cntF (cntZ (-1) f l 0)))) := Lib.hid (by rw [hc0]; exact h0)
  have HB := Lib.hid hb0
  have HY := Lib.hid hy
  clear hlr hlm hexit h0 hb0 hf hc0 hy
  conv => arg 2; arg 1; whnf
  go_loopw [20] (fun iv wr => ∃ k : Nat, k ≤ m ∧ iv = .int .i64 k ∧ Hid (Blk wr q 43 (arrF 256 (cntF (cntZ (-1) f l k)))) ∧ Hid (Below q W wr)) (fun iv _ => m - (intOf iv).toNat)
  case atStart => exact ⟨0, by omega, rfl, H0, HB⟩
  case round =>
    obtain ⟨k, hk, rfl, hb, hbe⟩ := hrel
    have y0 : wr.cell? ⟨b, 0, none⟩ = some (.slice IA m ic) := (hbe.out.cell (p := ⟨b, 0, none⟩) hbq).trans HY.out
    have yl : b < wr.heap.size := Nat.lt_of_lt_of_le hbq (by have := hb.out.lt; omega)
    by_cases hlt : k < m
    · obtain ⟨x, hx⟩ : ∃ x, l[k]? = some x := ⟨_, List.getElem?_eq_getElem (by rw [HL.out]; exact hlt)⟩
      obtain ⟨ad, u, rfl, hadl, hu, hcell⟩ := (HR.out.below hbe.out).at_ (k := k) hlt
      obtain rfl : u = .int .u8 (x.toNat : Int) := by
        simp only [bytesC, List.getElem?_map, hx, Option.map_some] at hu
        exact (Option.some.inj hu).symm
      have hcl : x.toNat < 256 := x.toNat_lt
      obtain ⟨v, hv⟩ : ∃ v, cntZ (-1) f l k x = v := ⟨_, rfl⟩
      have hvb : -600000000000000 ≤ v ∧ v ≤ 600000000000000 := by rw [← hv]; exact HF.out k x
      have m1 : wr.cell? ⟨q, x.toNat, none⟩ = some (.int .i64 v) := by rw [← hv]; exact (hb.out.cell _).trans (cnt_get _ x)
      have m2 : wr.frozen? ⟨q, x.toNat, none⟩ = false := hb.out.frozen _
      have m3 := hb.out.lt
      have HS := Lib.hid (cntZ_set (z := (-1)) (f := f) hx)
      rw [hv] at HS
      clear hu hx hv
      go_wp2_with fail
      exact ⟨⟨k + 1, by omega, by go_num, Lib.hid (by rw [← HS.out]; exact hb.out.set_ _ _), Lib.hid (hbe.out.setCell (p := ⟨q, _, none⟩) (Nat.le_refl _) _)⟩, by simp [intOf]; omega⟩
    · obtain rfl : k = m := by omega
      go_wp2_with fail
      exact HX.out _ _ _ _ _ _ _ _ _ _ _ _ _ _ _ _ _ wr hb.out hbe.out

set_option maxRecDepth 100000 in
set_option maxHeartbeats 4000000 in
theorem apart_l3 (W w0 : World) (q m b : Nat) (IA : Option Addr) (ic : Nat) (l : List UInt8) (hlm : l.length = m) (hil : m ≤ 140737488355000) (hlr : Reads W q 1 IA m (bytesC l)) (hy : W.cell? ⟨b, 0, none⟩ = some (.slice IA m ic)) (hbq : b < q) (f : UInt8 → Int) (hf : ∀ x, -400000000000000 ≤ f x ∧ f x ≤ 400000000000000) (h0 : Blk w0 q 43 (arrF 256 (cntF f))) (hb0 : Below q W w0)
    {c0 c1 c2 c3 c4 c5 c6 c7 c8 c9 c10 c11 c13 c14 c15 c16 c17 c19 c20 c22 c23 c24 c25 c26 c27 c28 c29 c30 c31 c32 c33 c34 c35 c36 c37 c38 c39 c40 c41 c42 c43 c44 c45 c46 c47 c48 c49 c50 c51 c52 c53 c54 c55 c56 c57 c58 c59 c60 c61 c62 c63 c64 c65 c66 c67 c68 c69 c70 c71 c72 c73 c74 c75 c76 c77 c78 c79 c80 c81 c82 c83 c84 c85 c86 c87 c88 c89 c90 c91 c92 c93 c94 c95 c96 c97 c98 c99 c100 c101 c102 c103 c104 c105 c106 c107 c108 c109 c110 c111 c112 c113 c114 c115 c116 c117 c118 c119 c120 c121 c122 c123 c124 c125 c126 c127 c128 c129 c130 c131 c132 c133 c134 c135 c136 c137 c138 c139 c140 c141 c142 c143 c144 c145 c146 c147 c148 c149 c150 c151 c152 c153 c154 c155 c156 c157 c158 : Value} {Q0 : Exit → Act → World → Prop}
    (hexit : ∀ (u134 u135 u136 u137 u138 u139 u140 u141 u142 u143 u144 u145 u146 u147 u148 u149 u150 : Value) (w1 : World), Blk w1 q 43 (arrF 256 (cntF (cntZ (-1) f l m))) → Below q W w1 → Q0 (.exit 4) ⟨#[c0, c1, c2, c3, c4, c5, c6, c7, c8, c9, c10, c11, .pointer (some ⟨b, 0, none⟩), c13, c14, c15, c16, c17, .pointer (some ⟨q, 0, none⟩), c19, c20, .int .i64 m, c22, c23, c24, c25, c26, c27, c28, c29, c30, c31, c32, c33, c34, c35, c36, c37, c38, c39, c40, c41, c42, c43, c44, c45, c46, c47, c48, c49, c50, c51, c52, c53, c54, c55, c56, c57, c58, c59, c60, c61, c62, c63, c64, c65, c66, c67, c68, c69, c70, c71, c72, c73, c74, c75, c76, c77, c78, c79, c80, c81, c82, c83, c84, c85, c86, c87, c88, c89, c90, c91, c92, c93, c94, c95, c96, c97, c98, c99, c100, c101, c102, c103, c104, c105, c106, c107, c108, c109, c110, c111, c112, c113, c114, c115, c116, c117, c118, c119, c120, c121, c122, c123, c124, c125, c126, c127, c128, c129, c130, c131, c132, c133, u134, u135, u136, u137, u138, u139, u140, u141, u142, u143, u144, u145, u146, u147, u148, u149, u150, c151, c152, c153, c154, c155, c156, c157, c158], []⟩ w1) :
    Code.wp Tryz.prog (Code.loop (apartLoop 2)) Q0 ⟨#[c0, c1, c2, c3, c4, c5, c6, c7, c8, c9, c10, c11, .pointer (some ⟨b, 0, none⟩), c13, c14, c15, c16, c17, .pointer (some ⟨q, 0, none⟩), c19, c20, .int .i64 0, c22, c23, c24, c25, c26, c27, c28, c29, c30, c31, c32, c33, c34, c35, c36, c37, c38, c39, c40, c41, c42, c43, c44, c45, c46, c47, c48, c49, c50, c51, c52, c53, c54, c55, c56, c57, c58, c59, c60, c61, c62, c63, c64, c65, c66, c67, c68, c69, c70, c71, c72, c73, c74, c75, c76, c77, c78, c79, c80, c81, c82, c83, c84, c85, c86, c87, c88, c89, c90, c91, c92, c93, c94, c95, c96, c97, c98, c99, c100, c101, c102, c103, c104, c105, c106, c107, c108, c109, c110, c111, c112, c113, c114, c115, c116, c117, c118, c119, c120, c121, c122, c123, c124, c125, c126, c127, c128, c129, c130, c131, c132, c133, c134, c135, c136, c137, c138, c139, c140, c141, c142, c143, c144, c145, c146, c147, c148, c149, c150, c151, c152, c153, c154, c155, c156, c157, c158], []⟩ w0 := by
  dsimp only at hexit ⊢
  have HR := Lib.hid hlr
  have HL := Lib.hid hlm
  have HF : Hid (∀ k x, -600000000000000 ≤ cntZ (-1) f l k x ∧ cntZ (-1) f l k x ≤ 600000000000000) := Lib.hid fun k x => cntZ_bound (by omega) hlm hil hf x
  have HX := Lib.hid hexit
  have hc0 := cntZ_zero (-1) f l
  have H0 : Hid (Blk w0 q 43 (arrF 256 (cntF (cntZ (-1) f l 0)))) := Lib.hid (by rw [hc0]; exact h0)
  have HB := Lib.hid hb0
  have HY := Lib.hid hy
  clear hlr hlm hexit h0 hb0 hf hc0 hy
  conv => arg 2; arg 1; whnf
  go_loopw [21] (fun iv wr => ∃ k : Nat, k ≤ m ∧ iv = .int .i64 k ∧ Hid (Blk wr q 43 (arrF 256 (cntF (cntZ (-1) f l k)))) ∧ Hid (Below q W wr)) (fun iv _ => m - (intOf iv).toNat)
  case atStart => exact ⟨0, by omega, rfl, H0, HB⟩
  case round =>
    obtain ⟨k, hk, rfl, hb, hbe⟩ := hrel
    have y0 : wr.cell? ⟨b, 0, none⟩ = some (.slice IA m ic) := (hbe.out.cell (p := ⟨b, 0, none⟩) hbq).trans HY.out
    have yl : b < wr.heap.size := Nat.lt_of_lt_of_le hbq (by have := hb.out.lt; omega)
    by_cases hlt : k < m
    · obtain ⟨x, hx⟩ : ∃ x, l[k]? = some x := ⟨_, List.getElem?_eq_getElem (by rw [HL.out]; exact hlt)⟩
      obtain ⟨ad, u, rfl, hadl, hu, hcell⟩ := (HR.out.below hbe.out).at_ (k := k) hlt
      obtain rfl : u = .int .u8 (x.toNat : Int) := by
        simp only [bytesC, List.getElem?_map, hx, Option.map_some] at hu
        exact (Option.some.inj hu).symm
      have hcl : x.toNat < 256 := x.toNat_lt
      obtain ⟨v, hv⟩ : ∃ v, cntZ (-1) f l k x = v := ⟨_, rfl⟩
      have hvb : -600000000000000 ≤ v ∧ v ≤ 600000000000000 := by rw [← hv]; exact HF.out k x
      have m1 : wr.cell? ⟨q, x.toNat, none⟩ = some (.int .i64 v) := by rw [← hv]; exact (hb.out.cell _).trans (cnt_get _ x)
      have m2 : wr.frozen? ⟨q, x.toNat, none⟩ = false := hb.out.frozen _
      have m3 := hb.out.lt
      have HS := Lib.hid (cntZ_set (z := (-1)) (f := f) hx)
      rw [hv] at HS
      clear hu hx hv
      go_wp2_with fail
      exact ⟨⟨k + 1, by omega, by go_num, Lib.hid (by rw [← HS.out]; exact hb.out.set_ _ _), Lib.hid (hbe.out.setCell (p := ⟨q, _, none⟩) (Nat.le_refl _) _)⟩, by simp [intOf]; omega⟩
    · obtain rfl : k = m := by omega
      go_wp2_with fail
      exact HX.out _ _ _ _ _ _ _ _ _ _ _ _ _ _ _ _ _ wr hb.out hbe.out

set_option maxRecDepth 100000 in
set_option maxHeartbeats 4000000 in
theorem apart_l4 (w0 : World) (q : Nat) (h0 : Blk w0 q 43 (arrF 256 (cntF fun _ => 0)))
    {c0 c1 c2 c3 c4 c5 c6 c7 c8 c9 c10 c11 c12 c13 c14 c15 c16 c17 c19 c20 c21 c23 c24 c25 c26 c27 c28 c29 c30 c31 c32 c33 c34 c35 c36 c37 c38 c39 c40 c41 c42 c43 c44 c45 c46 c47 c48 c49 c50 c51 c52 c53 c54 c55 c56 c57 c58 c59 c60 c61 c62 c63 c64 c65 c66 c67 c68 c69 c70 c71 c72 c73 c74 c75 c76 c77 c78 c79 c80 c81 c82 c83 c84 c85 c86 c87 c88 c89 c90 c91 c92 c93 c94 c95 c96 c97 c98 c99 c100 c101 c102 c103 c104 c105 c106 c107 c108 c109 c110 c111 c112 c113 c114 c115 c116 c117 c118 c119 c120 c121 c122 c123 c124 c125 c126 c127 c128 c129 c130 c131 c132 c133 c134 c135 c136 c137 c138 c139 c140 c141 c142 c143 c144 c145 c146 c147 c148 c149 c150 c151 c152 c153 c154 c155 c156 c157 c158 : Value} {Q0 : Exit → Act → World → Prop}
    (hexit : ∀ (u6 u151 u152 u153 u154 u155 u156 u157 u158 : Value), Q0 (.exit 6) ⟨#[c0, c1, c2, c3, c4, c5, u6, c7, c8, c9, c10, c11, c12, c13, c14, c15, c16, c17, .pointer (some ⟨q, 0, none⟩), c19, c20, c21, .int .i64 256, c23, c24, c25, c26, c27, c28, c29, c30, c31, c32, c33, c34, c35, c36, c37, c38, c39, c40, c41, c42, c43, c44, c45, c46, c47, c48, c49, c50, c51, c52, c53, c54, c55, c56, c57, c58, c59, c60, c61, c62, c63, c64, c65, c66, c67, c68, c69, c70, c71, c72, c73, c74, c75, c76, c77, c78, c79, c80, c81, c82, c83, c84, c85, c86, c87, c88, c89, c90, c91, c92, c93, c94, c95, c96, c97, c98, c99, c100, c101, c102, c103, c104, c105, c106, c107, c108, c109, c110, c111, c112, c113, c114, c115, c116, c117, c118, c119, c120, c121, c122, c123, c124, c125, c126, c127, c128, c129, c130, c131, c132, c133, c134, c135, c136, c137, c138, c139, c140, c141, c142, c143, c144, c145, c146, c147, c148, c149, c150, u151, u152, u153, u154, u155, u156, u157, u158], []⟩ w0) :
    Code.wp Tryz.prog (Code.loop (apartLoop 3)) Q0 ⟨#[c0, c1, c2, c3, c4, c5, c6, c7, c8, c9, c10, c11, c12, c13, c14, c15, c16, c17, .pointer (some ⟨q, 0, none⟩), c19, c20, c21, .int .i64 0, c23, c24, c25, c26, c27, c28, c29, c30, c31, c32, c33, c34, c35, c36, c37, c38, c39, c40, c41, c42, c43, c44, c45, c46, c47, c48, c49, c50, c51, c52, c53, c54, c55, c56, c57, c58, c59, c60, c61, c62, c63, c64, c65, c66, c67, c68, c69, c70, c71, c72, c73, c74, c75, c76, c77, c78, c79, c80, c81, c82, c83, c84, c85, c86, c87, c88, c89, c90, c91, c92, c93, c94, c95, c96, c97, c98, c99, c100, c101, c102, c103, c104, c105, c106, c107, c108, c109, c110, c111, c112, c113, c114, c115, c116, c117, c118, c119, c120, c121, c122, c123, c124, c125, c126, c127, c128, c129, c130, c131, c132, c133, c134, c135, c136, c137, c138, c139, c140, c141, c142, c143, c144, c145, c146, c147, c148, c149, c150, c151, c152, c153, c154, c155, c156, c157, c158], []⟩ w0 := by
  dsimp only at hexit ⊢
  have HX := Lib.hid hexit
  have H0 := Lib.hid h0
  clear hexit h0
  conv => arg 2; arg 1; whnf
  go_loopw [22] (fun iv wr => ∃ k : Nat, k ≤ 256 ∧ iv = .int .i64 k ∧ Hid (wr = w0)) (fun iv _ => 256 - (intOf iv).toNat)
  case atStart => exact ⟨0, by omega, rfl, Lib.hid rfl⟩
  case round =>
    obtain ⟨k, hk, rfl, hw⟩ := hrel
    obtain rfl := hw.out
    have m3 := H0.out.lt
    by_cases hlt : k < 256
    · have m1 : wr.cell? ⟨q, k, none⟩ = some (.int .i64 0) := (H0.out.cell _).trans (arrF_get _ hlt)
      go_wp2_with fail
      exact ⟨⟨k + 1, by omega, by go_num, Lib.hid trivial⟩, by simp [intOf]; omega⟩
    · obtain rfl : k = 256 := by omega
      go_wp2_with fail
      exact HX.out _ _ _ _ _ _ _ _ _

end Go.Proofs.YtlhiadnolckoeaaGreatDoor
end
