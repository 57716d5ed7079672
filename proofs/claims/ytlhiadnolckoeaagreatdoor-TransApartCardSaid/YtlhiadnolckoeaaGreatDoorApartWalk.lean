/-
  A walk over the law TransApart.
-/
import Derived.Test.YtlhiadnolckoeaaGreatDoorR17

section
namespace Go.Proofs.YtlhiadnolckoeaaGreatDoor
open Go.RowKit Go.Maps

/-- the loops of a function's code, in their order -/
def loopsOf : Code → List Code
  | .loop c => [c]
  | .seq a b => loopsOf a ++ loopsOf b
  | .block _ c => loopsOf c
  | .scope c => loopsOf c
  | .cond _ a b => loopsOf a ++ loopsOf b
  | _ => []
noncomputable def apartLoop (k : Nat) : Code := (Tryz.f5.body.bind (fun c => (loopsOf c)[k]?)).getD .skip
/-- counts, and so many more (or less) of a text's -/
def cntZ (z : Int) (f : UInt8 → Int) (l : List UInt8) (k : Nat) (x : UInt8) : Int := f x + z * ((l.take k).count x : Int)
theorem cntZ_zero (z : Int) (f : UInt8 → Int) (l : List UInt8) : cntZ z f l 0 = f := by funext x; simp [cntZ]
theorem cntZ_all {z : Int} {f : UInt8 → Int} {l : List UInt8} {k : Nat} (h : l.length = k) (x : UInt8) : cntZ z f l k x = f x + z * (l.count x : Int) := by simp [cntZ, ← h]
theorem cntZ_set {z : Int} {f : UInt8 → Int} {l : List UInt8} {k : Nat} {c : UInt8} (hc : l[k]? = some c) : (arrF 256 (cntF (cntZ z f l k))).setIfInBounds c.toNat (.int .i64 (cntZ z f l k c + z)) = arrF 256 (cntF (cntZ z f l (k + 1))) := by
  refine cnt_set _ _ c _ ?_ fun x hx => ?_
  · unfold cntZ
    rw [count_more l k c hc, if_pos rfl, Int.mul_add, Int.mul_one, Int.add_assoc]
  · unfold cntZ
    rw [count_more l k c hc, if_neg hx, Int.add_zero]
theorem cntZ_near {z : Int} {f : UInt8 → Int} {l : List UInt8} (k : Nat) {m : Nat} (hz : z = 1 ∨ z = -1) (hl : l.length = m) (hm : m ≤ 140737488355000) (x : UInt8) : f x - 140737488355000 ≤ cntZ z f l k x ∧ cntZ z f l k x ≤ f x + 140737488355000 := by
  have h2 : (l.take k).count x ≤ m := Nat.le_trans List.count_le_length (by rw [List.length_take]; omega)
  unfold cntZ
  rcases hz with rfl | rfl <;> omega
theorem cntZ_bound {z : Int} {f : UInt8 → Int} {l : List UInt8} {k m : Nat} (hz : z = 1 ∨ z = -1) (hl : l.length = m) (hm : m ≤ 140737488355000) (hf : ∀ x, -400000000000000 ≤ f x ∧ f x ≤ 400000000000000) (x : UInt8) : -600000000000000 ≤ cntZ z f l k x ∧ cntZ z f l k x ≤ 600000000000000 := by
  have h1 := hf x
  have h2 : (l.take k).count x ≤ m := Nat.le_trans List.count_le_length (by rw [List.length_take]; omega)
  unfold cntZ
  rcases hz with rfl | rfl <;> omega

set_option maxRecDepth 100000 in
set_option maxHeartbeats 4000000 in
theorem apart_l1 (W w0 : World) (q m : Nat) (IA : Option Addr) (ic : Nat) (l : List UInt8) (hlm : l.length = m) (hil : m ≤ 140737488355000) (hlr : Reads W q 1 IA m (bytesC l)) (f : UInt8 → Int) (hf : ∀ x, -400000000000000 ≤ f x ∧ f x ≤ 400000000000000) (h0 : Blk w0 q 43 (arrF 256 (cntF f))) (hb0 : Below q W w0)
    {c1 c2 c3 c4 c5 c6 c7 c8 c9 c10 c11 c12 c13 c14 c15 c16 c17 c20 c21 c22 c23 c24 c25 c26 c27 c28 c29 c30 c31 c32 c33 c34 c35 c36 c37 c38 c39 c40 c41 c42 c43 c44 c45 c46 c47 c48 c49 c50 c51 c52 c53 c54 c55 c56 c57 c58 c59 c60 c61 c62 c63 c64 c65 c66 c67 c68 c69 c70 c71 c72 c73 c74 c75 c76 c77 c78 c79 c80 c81 c82 c83 c84 c85 c86 c87 c88 c89 c90 c91 c92 c93 c94 c95 c96 c97 c98 c99 c100 c101 c102 c103 c104 c105 c106 c107 c108 c109 c110 c111 c112 c113 c114 c115 c116 c117 c118 c119 c120 c121 c122 c123 c124 c125 c126 c127 c128 c129 c130 c131 c132 c133 c134 c135 c136 c137 c138 c139 c140 c141 c142 c143 c144 c145 c146 c147 c148 c149 c150 c151 c152 c153 c154 c155 c156 c157 c158 : Value} {Q0 : Exit → Act → World → Prop}
    (hexit : ∀ (u102 u103 u104 u105 u106 u107 u108 u109 u110 u111 u112 u113 u114 u115 u116 : Value) (w1 : World), Blk w1 q 43 (arrF 256 (cntF (cntZ 1 f l m))) → Below q W w1 → Q0 (.exit 0) ⟨#[.slice IA m ic, c1, c2, c3, c4, c5, c6, c7, c8, c9, c10, c11, c12, c13, c14, c15, c16, c17, .pointer (some ⟨q, 0, none⟩), .int .i64 m, c20, c21, c22, c23, c24, c25, c26, c27, c28, c29, c30, c31, c32, c33, c34, c35, c36, c37, c38, c39, c40, c41, c42, c43, c44, c45, c46, c47, c48, c49, c50, c51, c52, c53, c54, c55, c56, c57, c58, c59, c60, c61, c62, c63, c64, c65, c66, c67, c68, c69, c70, c71, c72, c73, c74, c75, c76, c77, c78, c79, c80, c81, c82, c83, c84, c85, c86, c87, c88, c89, c90, c91, c92, c93, c94, c95, c96, c97, c98, c99, c100, c101, u102, u103, u104, u105, u106, u107, u108, u109, u110, u111, u112, u113, u114, u115, u116, c117, c118, c119, c120, c121, c122, c123, c124, c125, c126, c127, c128, c129, c130, c131, c132, c133, c134, c135, c136, c137, c138, c139, c140, c141, c142, c143, c144, c145, c146, c147, c148, c149, c150, c151, c152, c153, c154, c155, c156, c157, c158], []⟩ w1) :
    Code.wp Tryz.prog (Code.loop (apartLoop 0)) Q0 ⟨#[.slice IA m ic, c1, c2, c3, c4, c5, c6, c7, c8, c9, c10, c11, c12, c13, c14, c15, c16, c17, .pointer (some ⟨q, 0, none⟩), .int .i64 0, c20, c21, c22, c23, c24, c25, c26, c27, c28, c29, c30, c31, c32, c33, c34, c35, c36, c37, c38, c39, c40, c41, c42, c43, c44, c45, c46, c47, c48, c49, c50, c51, c52, c53, c54, c55, c56, c57, c58, c59, c60, c61, c62, c63, c64, c65, c66, c67, c68, c69, c70, c71, c72, c73, c74, c75, c76, c77, c78, c79, c80, c81, c82, c83, c84, c85, c86, c87, c88, c89, c90, c91, c92, c93, c94, c95, c96, c97, c98, c99, c100, c101, c102, c103, c104, c105, c106, c107, c108, c109, c110, c111, c112, c113, c114, c115, c116, c117, c118, c119, c120, c121, c122, c123, c124, c125, c126, c127, c128, c129, c130, c131, c132, c133, c134, c135, c136, c137, c138, c139, c140, c141, c142, c143, c144, c145, c146, c147, c148, c149, c150, c151, c152, c153, c154, c155, c156, c157, c158], []⟩ w0 := by
  dsimp only at hexit ⊢
  have HR := Lib.hid hlr
  have HL := Lib.hid hlm
  have HF : Hid (∀ k x, -600000000000000 ≤ cntZ 1 f l k x ∧ cntZ 1 f l k x ≤ 600000000000000) := Lib.hid fun k x => cntZ_bound (by omega) hlm hil hf x
  have HX := Lib.hid hexit
  have hc0 := cntZ_zero 1 f l
  have H0 : Hid (Blk w0 q 43 (arrF 256 (cntF (cntZ 1 f l 0)))) := Lib.hid (by rw [hc0]; exact h0)
  have HB := Lib.hid hb0
  clear hlr hlm hexit h0 hb0 hf hc0
  conv => arg 2; arg 1; whnf
  go_loopw [19] (fun iv wr => ∃ k : Nat, k ≤ m ∧ iv = .int .i64 k ∧ Hid (Blk wr q 43 (arrF 256 (cntF (cntZ 1 f l k)))) ∧ Hid (Below q W wr)) (fun iv _ => m - (intOf iv).toNat)
  case atStart => exact ⟨0, by omega, rfl, H0, HB⟩
  case round =>
    obtain ⟨k, hk, rfl, hb, hbe⟩ := hrel
    by_cases hlt : k < m
    · obtain ⟨x, hx⟩ : ∃ x, l[k]? = some x := ⟨_, List.getElem?_eq_getElem (by rw [HL.out]; exact hlt)⟩
      obtain ⟨ad, u, rfl, hadl, hu, hcell⟩ := (HR.out.below hbe.out).at_ (k := k) hlt
      obtain rfl : u = .int .u8 (x.toNat : Int) := by
        simp only [bytesC, List.getElem?_map, hx, Option.map_some] at hu
        exact (Option.some.inj hu).symm
      have hcl : x.toNat < 256 := x.toNat_lt
      obtain ⟨v, hv⟩ : ∃ v, cntZ 1 f l k x = v := ⟨_, rfl⟩
      have hvb : -600000000000000 ≤ v ∧ v ≤ 600000000000000 := by rw [← hv]; exact HF.out k x
      have m1 : wr.cell? ⟨q, x.toNat, none⟩ = some (.int .i64 v) := by rw [← hv]; exact (hb.out.cell _).trans (cnt_get _ x)
      have m2 : wr.frozen? ⟨q, x.toNat, none⟩ = false := hb.out.frozen _
      have m3 := hb.out.lt
      have HS := Lib.hid (cntZ_set (z := 1) (f := f) hx)
      rw [hv] at HS
      clear hu hx hv
      go_wp2_with fail
      exact ⟨⟨k + 1, by omega, by go_num, Lib.hid (by rw [← HS.out]; exact hb.out.set_ _ _), Lib.hid (hbe.out.setCell (p := ⟨q, _, none⟩) (Nat.le_refl _) _)⟩, by simp [intOf]; omega⟩
    · obtain rfl : k = m := by omega
      go_wp2_with fail
      exact HX.out _ _ _ _ _ _ _ _ _ _ _ _ _ _ _ wr hb.out hbe.out

set_option maxRecDepth 100000 in
set_option maxHeartbeats 4000000 in
theorem apart_l2 (W w0 : World) (q m b : Nat) (IA : Option Addr) (ic : Nat) (l : List UInt8) (hlm : l.length = m) (hil : m ≤ 140737488355000) (hlr : Reads W q 1 IA m (bytesC l)) (hy : W.cell? ⟨b, 0, none⟩ = some (.slice IA m ic)) (hbq : b < q) (f : UInt8 → Int) (hf : ∀ x, -400000000000000 ≤ f x ∧ f x ≤ 400000000000000) (h0 : Blk w0 q 43 (arrF 256 (cntF f))) (hb0 : Below q W w0)
    {c0 c1 c2 c3 c4 c5 c6 c7 c8 c9 c11 c12 c13 c14 c15 c16 c17 c19 c21 c22 c23 c24 c25 c26 c27 c28 c29 c30 c31 c32 c33 c34 c35 c36 c37 c38 c39 c40 c41 c42 c43 c44 c45 c46 c47 c48 c49 c50 c51 c52 c53 c54 c55 c56 c57 c58 c59 c60 c61 c62 c63 c64 c65 c66 c67 c68 c69 c70 c71 c72 c73 c74 c75 c76 c77 c78 c79 c80 c81 c82 c83 c84 c85 c86 c87 c88 c89 c90 c91 c92 c93 c94 c95 c96 c97 c98 c99 c100 c101 c102 c103 c104 c105 c106 c107 c108 c109 c110 c111 c112 c113 c114 c115 c116 c117 c118 c119 c120 c121 c122 c123 c124 c125 c126 c127 c128 c129 c130 c131 c132 c133 c134 c135 c136 c137 c138 c139 c140 c141 c142 c143 c144 c145 c146 c147 c148 c149 c150 c151 c152 c153 c154 c155 c156 c157 c158 : Value} {Q0 : Exit → Act → World → Prop}
    (hexit : ∀ (u117 u118 u119 u120 u121 u122 u123 u124 u125 u126 u127 u128 u129 u130 u131 u132 u133 : Value) (w1 : World), Blk w1 q 43 (arrF 256 (cntF (cntZ (-1) f l m))) → Below q W w1 → Q0 (.exit 2) ⟨#[c0, c1, c2, c3, c4, c5, c6, c7, c8, c9, .pointer (some ⟨b, 0, none⟩), c11, c12, c13, c14, c15, c16, c17, .pointer (some ⟨q, 0, none⟩), c19, .int .i64 m, c21, c22, c23, c24, c25, c26, c27, c28, c29, c30, c31, c32, c33, c34, c35, c36, c37, c38, c39, c40, c41, c42, c43, c44, c45, c46, c47, c48, c49, c50, c51, c52, c53, c54, c55, c56, c57, c58, c59, c60, c61, c62, c63, c64, c65, c66, c67, c68, c69, c70, c71, c72, c73, c74, c75, c76, c77, c78, c79, c80, c81, c82, c83, c84, c85, c86, c87, c88, c89, c90, c91, c92, c93, c94, c95, c96, c97, c98, c99, c100, c101, c102, c103, c104, c105, c106, c107, c108, c109, c110, c111, c112, c113, c114, c115, c116, u117, u118, u119, u120, u121, u122, u123, u124, u125, u126, u127, u128, u129, u130, u131, u132, u133, c134, c135, c136, c137, c138, c139, c140, c141, c142, c143, c144, c145, c146, c147, c148, c149, c150, c151, c152, c153, c154, c155, c156, c157, c158], []⟩ w1) :
    Code.wp Tryz.prog (Code.loop (apartLoop 1)) Q0 ⟨#[c0, c1, c2, c3, c4, c5, c6, c7, c8, c9, .pointer (some ⟨b, 0, none⟩), c11, c12, c13, c14, c15, c16, c17, .pointer (some ⟨q, 0, none⟩), c19, .int .i64 0, c21, c22, c23, c24, c25, c26, c27, c28, c29, c30, c31, c32, c33, c34, c35, c36, c37, c38, c39, c40, c41, c42, c43, c44, c45, c46, c47, c48, c49, c50, c51, c52, c53, c54, c55, c56, c57, c58, c59, c60, c61, c62, c63, c64, c65, c66, c67, c68, c69, c70, c71, c72, c73, c74, c75, c76, c77, c78, c79, c80, c81, c82, c83, c84, c85, c86, c87, c88, c89, c90, c91, c92, c93, c94, c95, c96, c97, c98, c99, c100, c101, c102, c103, c104, c105, c106, c107, c108, c109, c110, c111, c112, c113, c114, c115, c116, c117, c118, c119, c120, c121, c122, c123, c124, c125, c126, c127, c128, c129, c130, c131, c132, c133, c134, c135, c136, c137, c138, c139, c140, c141, c142, c143, c144, c145, c146, c147, c148, c149, c150, c151, c152, c153, c154, c155, c156, c157, c158], []⟩ w0 := by
  dsimp only at hexit ⊢
  have HR := Lib.hid hlr
  have HL := Lib.hid hlm
  have HF : Hid (∀ k x, -600000000000000 ≤ cntZ (-1) f l k x ∧ cntZ (-1) f l k x ≤ 600000000000000) := Lib.hid fun k x => cntZ_bound (by omega) hlm hil hf x
  have HX := Lib.hid hexit
  have hc0 := cntZ_zero (-1) f l
  have H0 : Hid (Blk w0 q 43 (arrF 256 (cntF (cntZ (-1) f l 0)))) := Lib.hid (by rw [hc0]; exact h0)
  have HB := Lib.hid hb0
  have HY := Lib.hid hy
  clear hlr hlm hexit h0 hb0 hf hc0 hy
  conv => arg 2; arg 1; whnf
  go_loopw [20] (fun iv wr => ∃ k : Nat, k ≤ m ∧ iv = .int .i64 k ∧ Hid (Blk wr q 43 (arrF 256 (cntF (cntZ (-1) f l k)))) ∧ Hid (Below q W wr)) (fun iv _ => m - (intOf iv).toNat)
  case atStart => exact ⟨0, by omega, rfl, H0, HB⟩
  case round =>
    obtain ⟨k, hk, rfl, hb, hbe⟩ := hrel
    have y0 : wr.cell? ⟨b, 0, none⟩ = some (.slice IA m ic) := (hbe.out.cell (p := ⟨b, 0, none⟩) hbq).trans HY.out
    have yl : b < wr.heap.size := Nat.lt_of_lt_of_le hbq (by have := hb.out.lt; omega)
    by_cases hlt : k < m
    · obtain ⟨x, hx⟩ : ∃ x, l[k]? = some x := ⟨_, List.getElem?_eq_getElem (by rw [HL.out]; exact hlt)⟩
      obtain ⟨ad, u, rfl, hadl, hu, hcell⟩ := (HR.out.below hbe.out).at_ (k := k) hlt
      obtain rfl : u = .int .u8 (x.toNat : Int) := by
        simp only [bytesC, List.getElem?_map, hx, Option.map_some] at hu
        exact (Option.some.inj hu).symm
      have hcl : x.toNat < 256 := x.toNat_lt
      obtain ⟨v, hv⟩ : ∃ v, cntZ (-1) f l k x = v := ⟨_, rfl⟩
      have hvb : -600000000000000 ≤ v ∧ v ≤ 600000000000000 := by rw [← hv]; exact HF.out k x
      have m1 : wr.cell? ⟨q, x.toNat, none⟩ = some (.int .i64 v) := by rw [← hv]; exact (hb.out.cell _).trans (cnt_get _ x)
      have m2 : wr.frozen? ⟨q, x.toNat, none⟩ = false := hb.out.frozen _
      have m3 := hb.out.lt
      have HS := Lib.hid (cntZ_set (z := (-1)) (f := f) hx)
      rw [hv] at HS
      clear hu hx hv
      go_wp2_with fail
      exact ⟨⟨k + 1, by omega, by go_num, Lib.hid (by rw [← HS.out]; exact hb.out.set_ _ _), Lib.hid (hbe.out.setCell (p := ⟨q, _, none⟩) (Nat.le_refl _) _)⟩, by simp [intOf]; omega⟩
    · obtain rfl : k = m := by omega
      go_wp2_with fail
      exact HX.out _ _ _ _ _ _ _ _ _ _ _ _ _ _ _ _ _ wr hb.out hbe.out

set_option maxRecDepth 100000 in
set_option maxHeartbeats 4000000 in
theorem apart_l3 (W w0 : World) (q m b : Nat) (IA : Option Addr) (ic : Nat) (l : List UInt8) (hlm : l.length = m) (hil : m ≤ 140737488355000) (hlr : Reads W q 1 IA m (bytesC l)) (hy : W.cell? ⟨b, 0, none⟩ = some (.slice IA m ic)) (hbq : b < q) (f : UInt8 → Int) (hf : ∀ x, -400000000000000 ≤ f x ∧ f x ≤ 400000000000000) (h0 : Blk w0 q 43 (arrF 256 (cntF f))) (hb0 : Below q W w0)
    {c0 c1 c2 c3 c4 c5 c6 c7 c8 c9 c10 c11 c13 c14 c15 c16 c17 c19 c20 c22 c23 c24 c25 c26 c27 c28 c29 c30 c31 c32 c33 c34 c35 c36 c37 c38 c39 c40 c41 c42 c43 c44 c45 c46 c47 c48 c49 c50 c51 c52 c53 c54 c55 c56 c57 c58 c59 c60 c61 c62 c63 c64 c65 c66 c67 c68 c69 c70 c71 c72 c73 c74 c75 c76 c77 c78 c79 c80 c81 c82 c83 c84 c85 c86 c87 c88 c89 c90 c91 c92 c93 c94 c95 c96 c97 c98 c99 c100 c101 c102 c103 c104 c105 c106 c107 c108 c109 c110 c111 c112 c113 c114 c115 c116 c117 c118 c119 c120 c121 c122 c123 c124 c125 c126 c127 c128 c129 c130 c131 c132 c133 c134 c135 c136 c137 c138 c139 c140 c141 c142 c143 c144 c145 c146 c147 c148 c149 c150 c151 c152 c153 c154 c155 c156 c157 c158 : Value} {Q0 : Exit → Act → World → Prop}
    (hexit : ∀ (u134 u135 u136 u137 u138 u139 u140 u141 u142 u143 u144 u145 u146 u147 u148 u149 u150 : Value) (w1 : World), Blk w1 q 43 (arrF 256 (cntF (cntZ (-1) f l m))) → Below q W w1 → Q0 (.exit 4) ⟨#[c0, c1, c2, c3, c4, c5, c6, c7, c8, c9, c10, c11, .pointer (some ⟨b, 0, none⟩), c13, c14, c15, c16, c17, .pointer (some ⟨q, 0, none⟩), c19, c20, .int .i64 m, c22, c23, c24, c25, c26, c27, c28, c29, c30, c31, c32, c33, c34, c35, c36, c37, c38, c39, c40, c41, c42, c43, c44, c45, c46, c47, c48, c49, c50, c51, c52, c53, c54, c55, c56, c57, c58, c59, c60, c61, c62, c63, c64, c65, c66, c67, c68, c69, c70, c71, c72, c73, c74, c75, c76, c77, c78, c79, c80, c81, c82, c83, c84, c85, c86, c87, c88, c89, c90, c91, c92, c93, c94, c95, c96, c97, c98, c99, c100, c101, c102, c103, c104, c105, c106, c107, c108, c109, c110, c111, c112, c113, c114, c115, c116, c117, c118, c119, c120, c121, c122, c123, c124, c125, c126, c127, c128, c129, c130, c131, c132, c133, u134, u135, u136, u137, u138, u139, u140, u141, u142, u143, u144, u145, u146, u147, u148, u149, u150, c151, c152, c153, c154, c155, c156, c157, c158], []⟩ w1) :
    Code.wp Tryz.prog (Code.loop (apartLoop 2)) Q0 ⟨#[c0, c1, c2, c3, c4, c5, c6, c7, c8, c9, c10, c11, .pointer (some ⟨b, 0, none⟩), c13, c14, c15, c16, c17, .pointer (some ⟨q, 0, none⟩), c19, c20, .int .i64 0, c22, c23, c24, c25, c26, c27, c28, c29, c30, c31, c32, c33, c34, c35, c36, c37, c38, c39, c40, c41, c42, c43, c44, c45, c46, c47, c48, c49, c50, c51, c52, c53, c54, c55, c56, c57, c58, c59, c60, c61, c62, c63, c64, c65, c66, c67, c68, c69, c70, c71, c72, c73, c74, c75, c76, c77, c78, c79, c80, c81, c82, c83, c84, c85, c86, c87, c88, c89, c90, c91, c92, c93, c94, c95, c96, c97, c98, c99, c100, c101, c102, c103, c104, c105, c106, c107, c108, c109, c110, c111, c112, c113, c114, c115, c116, c117, c118, c119, c120, c121, c122, c123, c124, c125, c126, c127, c128, c129, c130, c131, c132, c133, c134, c135, c136, c137, c138, c139, c140, c141, c142, c143, c144, c145, c146, c147, c148, c149, c150, c151, c152, c153, c154, c155, c156, c157, c158], []⟩ w0 := by
  dsimp only at hexit ⊢
  have HR := Lib.hid hlr
  have HL := Lib.hid hlm
  have HF : Hid (∀ k x, -600000000000000 ≤ cntZ (-1) f l k x ∧ cntZ (-1) f l k x ≤ 600000000000000) := Lib.hid fun k x => cntZ_bound (by omega) hlm hil hf x
  have HX := Lib.hid hexit
  have hc0 := cntZ_zero (-1) f l
  have H0 : Hid (Blk w0 q 43 (arrF 256 (cntF (cntZ (-1) f l 0)))) := Lib.hid (by rw [hc0]; exact h0)
  have HB := Lib.hid hb0
  have HY := Lib.hid hy
  clear hlr hlm hexit h0 hb0 hf hc0 hy
  conv => arg 2; arg 1; whnf
  go_loopw [21] (fun iv wr => ∃ k : Nat, k ≤ m ∧ iv = .int .i64 k ∧ Hid (Blk wr q 43 (arrF 256 (cntF (cntZ (-1) f l k)))) ∧ Hid (Below q W wr)) (fun iv _ => m - (intOf iv).toNat)
  case atStart => exact ⟨0, by omega, rfl, H0, HB⟩
  case round =>
    obtain ⟨k, hk, rfl, hb, hbe⟩ := hrel
    have y0 : wr.cell? ⟨b, 0, none⟩ = some (.slice IA m ic) := (hbe.out.cell (p := ⟨b, 0, none⟩) hbq).trans HY.out
    have yl : b < wr.heap.size := Nat.lt_of_lt_of_le hbq (by have := hb.out.lt; omega)
    by_cases hlt : k < m
    · obtain ⟨x, hx⟩ : ∃ x, l[k]? = some x := ⟨_, List.getElem?_eq_getElem (by rw [HL.out]; exact hlt)⟩
      obtain ⟨ad, u, rfl, hadl, hu, hcell⟩ := (HR.out.below hbe.out).at_ (k := k) hlt
      obtain rfl : u = .int .u8 (x.toNat : Int) := by
        simp only [bytesC, List.getElem?_map, hx, Option.map_some] at hu
        exact (Option.some.inj hu).symm
      have hcl : x.toNat < 256 := x.toNat_lt
      obtain ⟨v, hv⟩ : ∃ v, cntZ (-1) f l k x = v := ⟨_, rfl⟩
      have hvb : -600000000000000 ≤ v ∧ v ≤ 600000000000000 := by rw [← hv]; exact HF.out k x
      have m1 : wr.cell? ⟨q, x.toNat, none⟩ = some (.int .i64 v) := by rw [← hv]; exact (hb.out.cell _).trans (cnt_get _ x)
      have m2 : wr.frozen? ⟨q, x.toNat, none⟩ = false := hb.out.frozen _
      have m3 := hb.out.lt
      have HS := Lib.hid (cntZ_set (z := (-1)) (f := f) hx)
      rw [hv] at HS
      clear hu hx hv
      go_wp2_with fail
      exact ⟨⟨k + 1, by omega, by go_num, Lib.hid (by rw [← HS.out]; exact hb.out.set_ _ _), Lib.hid (hbe.out.setCell (p := ⟨q, _, none⟩) (Nat.le_refl _) _)⟩, by simp [intOf]; omega⟩
    · obtain rfl : k = m := by omega
      go_wp2_with fail
      exact HX.out _ _ _ _ _ _ _ _ _ _ _ _ _ _ _ _ _ wr hb.out hbe.out

set_option maxRecDepth 100000 in
set_option maxHeartbeats 4000000 in
theorem apart_l4 (w0 : World) (q : Nat) (h0 : Blk w0 q 43 (arrF 256 (cntF fun _ => 0)))
    {c0 c1 c2 c3 c4 c5 c6 c7 c8 c9 c10 c11 c12 c13 c14 c15 c16 c17 c19 c20 c21 c23 c24 c25 c26 c27 c28 c29 c30 c31 c32 c33 c34 c35 c36 c37 c38 c39 c40 c41 c42 c43 c44 c45 c46 c47 c48 c49 c50 c51 c52 c53 c54 c55 c56 c57 c58 c59 c60 c61 c62 c63 c64 c65 c66 c67 c68 c69 c70 c71 c72 c73 c74 c75 c76 c77 c78 c79 c80 c81 c82 c83 c84 c85 c86 c87 c88 c89 c90 c91 c92 c93 c94 c95 c96 c97 c98 c99 c100 c101 c102 c103 c104 c105 c106 c107 c108 c109 c110 c111 c112 c113 c114 c115 c116 c117 c118 c119 c120 c121 c122 c123 c124 c125 c126 c127 c128 c129 c130 c131 c132 c133 c134 c135 c136 c137 c138 c139 c140 c141 c142 c143 c144 c145 c146 c147 c148 c149 c150 c151 c152 c153 c154 c155 c156 c157 c158 : Value} {Q0 : Exit → Act → World → Prop}
    (hexit : ∀ (u6 u151 u152 u153 u154 u155 u156 u157 u158 : Value), Q0 (.exit 6) ⟨#[c0, c1, c2, c3, c4, c5, u6, c7, c8, c9, c10, c11, c12, c13, c14, c15, c16, c17, .pointer (some ⟨q, 0, none⟩), c19, c20, c21, .int .i64 256, c23, c24, c25, c26, c27, c28, c29, c30, c31, c32, c33, c34, c35, c36, c37, c38, c39, c40, c41, c42, c43, c44, c45, c46, c47, c48, c49, c50, c51, c52, c53, c54, c55, c56, c57, c58, c59, c60, c61, c62, c63, c64, c65, c66, c67, c68, c69, c70, c71, c72, c73, c74, c75, c76, c77, c78, c79, c80, c81, c82, c83, c84, c85, c86, c87, c88, c89, c90, c91, c92, c93, c94, c95, c96, c97, c98, c99, c100, c101, c102, c103, c104, c105, c106, c107, c108, c109, c110, c111, c112, c113, c114, c115, c116, c117, c118, c119, c120, c121, c122, c123, c124, c125, c126, c127, c128, c129, c130, c131, c132, c133, c134, c135, c136, c137, c138, c139, c140, c141, c142, c143, c144, c145, c146, c147, c148, c149, c150, u151, u152, u153, u154, u155, u156, u157, u158], []⟩ w0) :
    Code.wp Tryz.prog (Code.loop (apartLoop 3)) Q0 ⟨#[c0, c1, c2, c3, c4, c5, c6, c7, c8, c9, c10, c11, c12, c13, c14, c15, c16, c17, .pointer (some ⟨q, 0, none⟩), c19, c20, c21, .int .i64 0, c23, c24, c25, c26, c27, c28, c29, c30, c31, c32, c33, c34, c35, c36, c37, c38, c39, c40, c41, c42, c43, c44, c45, c46, c47, c48, c49, c50, c51, c52, c53, c54, c55, c56, c57, c58, c59, c60, c61, c62, c63, c64, c65, c66, c67, c68, c69, c70, c71, c72, c73, c74, c75, c76, c77, c78, c79, c80, c81, c82, c83, c84, c85, c86, c87, c88, c89, c90, c91, c92, c93, c94, c95, c96, c97, c98, c99, c100, c101, c102, c103, c104, c105, c106, c107, c108, c109, c110, c111, c112, c113, c114, c115, c116, c117, c118, c119, c120, c121, c122, c123, c124, c125, c126, c127, c128, c129, c130, c131, c132, c133, c134, c135, c136, c137, c138, c139, c140, c141, c142, c143, c144, c145, c146, c147, c148, c149, c150, c151, c152, c153, c154, c155, c156, c157, c158], []⟩ w0 := by
  dsimp only at hexit ⊢
  have HX := Lib.hid hexit
  have H0 := Lib.hid h0
  clear hexit h0
  conv => arg 2; arg 1; whnf
  go_loopw [22] (fun iv wr => ∃ k : Nat, k ≤ 256 ∧ iv = .int .i64 k ∧ Hid (wr = w0)) (fun iv _ => 256 - (intOf iv).toNat)
  case atStart => exact ⟨0, by omega, rfl, Lib.hid rfl⟩
  case round =>
    obtain ⟨k, hk, rfl, hw⟩ := hrel
    obtain rfl := hw.out
    have m3 := H0.out.lt
    by_cases hlt : k < 256
    · have m1 : wr.cell? ⟨q, k, none⟩ = some (.int .i64 0) := (H0.out.cell _).trans (arrF_get _ hlt)
      go_wp2_with fail
      exact ⟨⟨k + 1, by omega, by go_num, Lib.hid trivial⟩, by simp [intOf]; omega⟩
    · obtain rfl : k = 256 := by omega
      go_wp2_with fail
      exact HX.out _ _ _ _ _ _ _ _ _

end Go.Proofs.YtlhiadnolckoeaaGreatDoor
end

section
namespace Go.Proofs.YtlhiadnolckoeaaGreatDoor
open Go.RowKit Go.Maps

set_option maxRecDepth 100000 in
set_option maxHeartbeats 6000000 in
theorem apart_any (w : World) (hT : Tabs w) (IA : Option Addr) (ic m : Nat) (inb : List UInt8) (him : inb.length = m) (hil : m ≤ 140737488355000) (hiv : Bytes w w.heap.size (.slice IA m ic) inb) (LA : Option Addr) (lc n : Nat) (l : List UInt8) (hln : l.length = n) (hnl : n ≤ 140737488355328) (hlr : Reads w w.heap.size 1 LA n (bytesC l)) (buf line run : Int) :
    Calls Tryz.prog 5 #[.slice IA m ic, .slice LA n lc, .agg #[.int .i64 buf, .int .i64 line, .int .i64 run]] w fun e w' => e = .returned (.bool true) ∧ Below w.heap.size w w' := by
  obtain ⟨D, hDD⟩ : ∃ D, Pl.distinctL l 256 = D := ⟨_, rfl⟩
  have hD : D.length ≤ 256 := by rw [← hDD]; exact Pl.distinct_len l 256
  obtain ⟨S, hS⟩ : ∃ S, strB (Pl.codedL D) = S := ⟨_, rfl⟩
  obtain ⟨g, hg⟩ : ∃ g, w.heap.size = g := ⟨_, rfl⟩
  have bx : LawBox g buf line run w (w.alloc (.cells #[.int .i64 buf, .int .i64 line, .int .i64 run] 28)) := ⟨by rw [← hg]; exact Blk.new w _ _, by rw [← hg]; exact below_one w _⟩
  have HT := Lib.hid hT
  have HIV := Lib.hid (hg ▸ hiv : Bytes w g (.slice IA m ic) inb)
  have HLR := Lib.hid (hg ▸ hlr : Reads w g 1 LA n (bytesC l))
  have hdi : ∀ W, LawBox g buf line run w W → Calls Tryz.prog 9 #[.slice LA n lc, .int .i64 256] W fun e w' => ∃ v, e = .returned v ∧ w'.ownsRow W.heap.size 5 1 v D.length (bytesC D) ∧ Below W.heap.size W w' := fun W hW => by
    have h := distinct_any W LA lc n 256 l ((HLR.out.below hW.below).more (Nat.le_of_lt hW.lim.lt)) hln (by omega) hnl
    rw [hDD] at h
    exact h
  have HDI := Lib.hid hdi
  have HBX := Lib.hid bx
  have HD := Lib.hid hD
  have HS := Lib.hid hS
  clear hdi hT hiv hlr hDD bx hS
  rw [hg]
  go_enter Tryz.func5, Tryz.ntmps5
  go_wp2_with (first
    | (go_at_call 10; refine (refMay _ (.slice (some ⟨w3.heap.size, 0, none⟩) 1 1) (some ⟨w3.heap.size, 0, none⟩) 1 buf line run rfl).mono ?_; rintro e w4 ⟨may, rfl, hmay, hb4⟩
       have HB4 := Lib.hid (HB3.out.on ((below_one w3 _).trans (hb4.mono (below_one w3 _).size)))
       obtain ⟨k0, k1, k2, k3⟩ := HB4.out.cells)
    | (go_at_call 12; refine (coded_any w2 _ _ _ D hrd2 rfl (by have := HD.out; omega)).mono ?_; rintro e w3 ⟨rfl, hb3⟩; rw [HS.out]
       have HB3 := Lib.hid (HB2.out.on hb3)
       obtain ⟨k0, k1, k2, k3⟩ := HB3.out.cells)
    | (go_at_call 9; refine (HDI.out w1 HB1.out).mono ?_; rintro e w2 ⟨v, rfl, hown2, hb2⟩; obtain ⟨Ad, cd, rfl, _, _, hrd2⟩ := own_slice hown2
       have HB2 := Lib.hid (HB1.out.on hb2))
    | (go_at_call 6; refine (awake_any _ (HT.out.below (hg ▸ HBX.out.below))).mono ?_; rintro e w1 ⟨rfl, hb1⟩
       have HB1 := Lib.hid (HBX.out.on hb1)))
  · go_returns
    exact ⟨rfl, HB4.out.below⟩
  · have hmt : may = true := by cases may <;> simp_all
    have hlm := hmay hmt
    obtain ⟨P, hP⟩ : ∃ P, inb.filter (fun c => !D.contains c) = P := ⟨_, rfl⟩
    obtain ⟨K, hK⟩ : ∃ K, inb.filter (fun c => D.contains c) = K := ⟨_, rfl⟩
    obtain ⟨Q, hQ⟩ : ∃ Q, Pl.Tab.tell ⟨D, D, false, false, true⟩ inb = Q := ⟨_, rfl⟩
    obtain ⟨np, hnp⟩ : ∃ n, P.length = n := ⟨_, rfl⟩
    obtain ⟨nk, hnk⟩ : ∃ n, K.length = n := ⟨_, rfl⟩
    obtain ⟨nq, hnq⟩ : ∃ n, Q.length = n := ⟨_, rfl⟩
    have HL0 := Lib.hid hnp
    have HL1 := Lib.hid hnk
    have HL2 := Lib.hid hnq
    have HR0 : Hid (∀ W, Tabs W → TrIs [⟨#[45, 100]⟩, S] 2 inb m buf line run P W) := Lib.hid (fun W hW => by rw [← hP]; exact saidDel W hW D HD.out S HS.out inb m him hil buf line run hlm)
    have HR1 : Hid (∀ W, Tabs W → TrIs [⟨#[45, 99, 100]⟩, S] 2 inb m buf line run K W) := Lib.hid (fun W hW => by rw [← hK]; exact saidKeep W hW D HD.out S HS.out inb m him hil buf line run hlm)
    have HR2 : Hid (∀ W, Tabs W → TrIs [⟨#[45, 115]⟩, S] 2 inb m buf line run Q W) := Lib.hid (fun W hW => by rw [← hQ]; exact saidSq W hW D HD.out S HS.out inb m him hil buf line run hlm)
    have hqm : nq ≤ m := by rw [← hnq, ← hQ, ← him]; exact Pl.tell_len _ _
    have HR3 : Hid (∀ W, Tabs W → TrIs [⟨#[45, 115]⟩, S] 2 Q nq buf line run Q W) := Lib.hid (fun W hW => by
      have h := saidSq W hW D HD.out S HS.out Q nq hnq (by omega) buf line run hlm
      rwa [show Pl.Tab.tell ⟨D, D, false, false, true⟩ Q = Q by rw [← hQ]; exact Pl.squeeze_again _ rfl rfl inb] at h)
    have hle : (nq : Int) ≤ (m : Int) := by omega
    obtain ⟨SQ, hSQ⟩ : ∃ SQ, strB Q = SQ := ⟨_, rfl⟩
    have HSQ := Lib.hid hSQ
    have HP := Lib.hid hP
    have HK := Lib.hid hK
    have HHI := Lib.hid him
    subst hmt
    clear hSQ hP hK hQ hmay hb1 hb2 hb3 hb4 hown2 hrd2 HDI HLR HBX hnp hnk hnq him hlm
    go_wp2_with (first
    | (refine wpList_store_said rfl (.tmp 16) (.tmp 65) rfl (w := w10) HL2.out ho11 he11 hb11 rfl rfl ?_; intro w12 A3 c3 y3 z3 B3 b12
       have HB12 := Lib.hid (HB10.out.on b12)
       have HY3 := Lib.hid B3
       obtain ⟨k0, k1, k2, k3⟩ := HB12.out.cells
       have y0 := (b12.cell (p := ⟨w5.heap.size, 0, none⟩) z0).trans y0
       have z0 := Nat.lt_of_lt_of_le z0 b12.size
       have y1 := (b12.cell (p := ⟨w7.heap.size, 0, none⟩) z1).trans y1
       have z1 := Nat.lt_of_lt_of_le z1 b12.size
       have y2 := (b12.cell (p := ⟨w9.heap.size, 0, none⟩) z2).trans y2
       have z2 := Nat.lt_of_lt_of_le z2 b12.size
       have v2 : (convert 23 9 (.slice A2 nq c2)).run Tryz.prog w12 = .ok (.string SQ) w12 := (by obtain ⟨_, _, e, _, _, _, hr⟩ := HY2.out; cases e; exact convOut HSQ.out HL2.out (hr.below b12))
       have v3 : (convert 23 9 (.slice A3 nq c3)).run Tryz.prog w12 = .ok (.string SQ) w12 := (by obtain ⟨_, _, e, _, _, _, hr⟩ := HY3.out; cases e; exact convOut HSQ.out HL2.out hr))
    | (go_at_call 11; have hq := tr_two w10 ⟨#[45, 115]⟩ S Q nq A2 c2 buf line run Q HY2.out (HR3.out (w10.alloc (.cells #[.string ⟨#[45, 115]⟩, .string S] 9)) (HT.out.below (hg ▸ HB10.out.below.trans ((below_one w10 _).mono (Nat.le_of_lt HB10.out.lim.lt))))); with_reducible refine hq.mono ?_; rintro e w11 ⟨ov11, ev11, sp11, pk11, rfl, ho11, he11, hb11⟩; unfold resV; rw [HL2.out] at ho11; clear hq)
    | (refine wpList_store_said rfl (.tmp 14) (.tmp 56) rfl (w := w8) HL2.out ho9 he9 hb9 rfl rfl ?_; intro w10 A2 c2 y2 z2 B2 b10
       have HB10 := Lib.hid (HB8.out.on b10)
       have HY2 := Lib.hid B2
       obtain ⟨k0, k1, k2, k3⟩ := HB10.out.cells
       have y0 := (b10.cell (p := ⟨w5.heap.size, 0, none⟩) z0).trans y0
       have z0 := Nat.lt_of_lt_of_le z0 b10.size
       have y1 := (b10.cell (p := ⟨w7.heap.size, 0, none⟩) z1).trans y1
       have z1 := Nat.lt_of_lt_of_le z1 b10.size)
    | (go_at_call 11; have hq := tr_two w8 ⟨#[45, 115]⟩ S inb m IA ic buf line run Q ((HIV.out.below HB8.out.below).more (Nat.le_of_lt HB8.out.lim.lt)) (HR2.out (w8.alloc (.cells #[.string ⟨#[45, 115]⟩, .string S] 9)) (HT.out.below (hg ▸ HB8.out.below.trans ((below_one w8 _).mono (Nat.le_of_lt HB8.out.lim.lt))))); with_reducible refine hq.mono ?_; rintro e w9 ⟨ov9, ev9, sp9, pk9, rfl, ho9, he9, hb9⟩; unfold resV; rw [HL2.out] at ho9; clear hq)
    | (refine wpList_store_said rfl (.tmp 12) (.tmp 48) rfl (w := w6) HL1.out ho7 he7 hb7 rfl rfl ?_; intro w8 A1 c1 y1 z1 B1 b8
       have HB8 := Lib.hid (HB6.out.on b8)
       have HY1 := Lib.hid B1
       obtain ⟨k0, k1, k2, k3⟩ := HB8.out.cells
       have y0 := (b8.cell (p := ⟨w5.heap.size, 0, none⟩) z0).trans y0
       have z0 := Nat.lt_of_lt_of_le z0 b8.size)
    | (go_at_call 11; have hq := tr_two w6 ⟨#[45, 99, 100]⟩ S inb m IA ic buf line run K ((HIV.out.below HB6.out.below).more (Nat.le_of_lt HB6.out.lim.lt)) (HR1.out (w6.alloc (.cells #[.string ⟨#[45, 99, 100]⟩, .string S] 9)) (HT.out.below (hg ▸ HB6.out.below.trans ((below_one w6 _).mono (Nat.le_of_lt HB6.out.lim.lt))))); with_reducible refine hq.mono ?_; rintro e w7 ⟨ov7, ev7, sp7, pk7, rfl, ho7, he7, hb7⟩; unfold resV; rw [HL1.out] at ho7; clear hq)
    | (refine wpList_store_said rfl (.tmp 10) (.tmp 40) rfl (w := w4) HL0.out ho5 he5 hb5 rfl rfl ?_; intro w6 A0 c0 y0 z0 B0 b6
       have HB6 := Lib.hid (HB4.out.on b6)
       have HY0 := Lib.hid B0
       obtain ⟨k0, k1, k2, k3⟩ := HB6.out.cells)
    | (go_at_call 11; have hq := tr_two w4 ⟨#[45, 100]⟩ S inb m IA ic buf line run P ((HIV.out.below HB4.out.below).more (Nat.le_of_lt HB4.out.lim.lt)) (HR0.out (w4.alloc (.cells #[.string ⟨#[45, 100]⟩, .string S] 9)) (HT.out.below (hg ▸ HB4.out.below.trans ((below_one w4 _).mono (Nat.le_of_lt HB4.out.lim.lt))))); with_reducible refine hq.mono ?_; rintro e w5 ⟨ov5, ev5, sp5, pk5, rfl, ho5, he5, hb5⟩; unfold resV; rw [HL0.out] at ho5; clear hq))
    obtain ⟨q, hq⟩ : ∃ q, w12.heap.size = q := ⟨_, rfl⟩
    have HA : Blk (w12.alloc (.cells Tryz.zeroCells43 43)) q 43 (arrF 256 (cntF fun _ => 0)) := by rw [← hq, ← zeros_cnt]; exact Blk.new w12 _ _
    have HBW : Below q w12 (w12.alloc (.cells Tryz.zeroCells43 43)) := by rw [← hq]; exact below_one w12 _
    obtain ⟨IA', ic', e0, _, _, _, hir⟩ := HIV.out
    rw [HHI.out] at e0 hir
    cases e0
    have hir12 : Reads w12 q 1 IA m (bytesC inb) := by rw [← hq]; exact (hir.below HB12.out.below).more (Nat.le_of_lt HB12.out.lim.lt)
    rw [hq]
    have hr0 : Reads w12 q 1 A0 np (bytesC P) := by
      obtain ⟨_, _, e, _, _, _, hr⟩ := HY0.out
      rw [HL0.out] at e hr
      cases e
      rw [← hq]
      exact (((((hr.below b8).more b8.size).below b10).more b10.size).below b12).more b12.size
    have hr1 : Reads w12 q 1 A1 nk (bytesC K) := by
      obtain ⟨_, _, e, _, _, _, hr⟩ := HY1.out
      rw [HL1.out] at e hr
      cases e
      rw [← hq]
      exact (((hr.below b10).more b10.size).below b12).more b12.size
    have hnp2 : np ≤ 140737488355000 := by rw [← HL0.out, ← HP.out]; exact Nat.le_trans (List.length_filter_le _ _) (by rw [HHI.out]; exact hil)
    have hnk2 : nk ≤ 140737488355000 := by rw [← HL1.out, ← HK.out]; exact Nat.le_trans (List.length_filter_le _ _) (by rw [HHI.out]; exact hil)
    have q0 : w5.heap.size < q := by rw [← hq]; exact z0
    have q1 : w7.heap.size < q := by rw [← hq]; exact z1
    obtain ⟨p5, hp5⟩ : ∃ p, w5.heap.size = p := ⟨_, rfl⟩
    obtain ⟨p7, hp7⟩ : ∃ p, w7.heap.size = p := ⟨_, rfl⟩
    obtain ⟨p9, hp9⟩ : ∃ p, w9.heap.size = p := ⟨_, rfl⟩
    obtain ⟨p11, hp11⟩ : ∃ p, w11.heap.size = p := ⟨_, rfl⟩
    rw [hp5] at y0 q0
    rw [hp7] at y1 q1
    rw [hp5, hp7, hp9, hp11]
    have f1 : ∀ x, cntZ 1 (fun _ => 0) inb m x ≤ 140737488355000 ∧ -140737488355000 ≤ cntZ 1 (fun _ => 0) inb m x := fun x => by have := cntZ_near (f := fun _ => 0) (l := inb) m (.inl rfl) HHI.out hil x; omega
    have f2 : ∀ x, cntZ (-1) (cntZ 1 (fun _ => 0) inb m) P np x ≤ 2 * 140737488355000 ∧ -(2 * 140737488355000) ≤ cntZ (-1) (cntZ 1 (fun _ => 0) inb m) P np x := fun x => by have := cntZ_near (f := cntZ 1 (fun _ => 0) inb m) (l := P) np (.inr rfl) HL0.out hnp2 x; have := f1 x; omega
    have f3 : (cntZ (-1) (cntZ (-1) (cntZ 1 (fun _ => 0) inb m) P np) K nk) = fun _ => 0 := by
      funext x
      rw [cntZ_all HL1.out, cntZ_all HL0.out, cntZ_all HHI.out]
      have := Pl.count_parts (fun c => D.contains c) inb x
      rw [HP.out, HK.out] at this
      omega
    have hfin : ∀ W, Below q w12 W → Below g w W := fun W hW => HB12.out.below.trans (hW.mono (by rw [← hq]; exact Nat.le_of_lt HB12.out.lim.lt))
    have HFIN := Lib.hid hfin
    have F1 := Lib.hid f1
    have F2 := Lib.hid f2
    have F3 := Lib.hid f3
    clear hfin f1 f2 f3 HIV HP HK HY0 HY1 HY2 HY3 HB12 HR0 HR1 HR2 HR3 hp5 hp7 hp9 hp11
    clear b6 b8 b10 b12 hir
    refine apart_l1 w12 _ q m IA ic inb HHI.out hil hir12 (fun _ => 0) (fun _ => by omega) HA HBW ?_
    intro u102 u103 u104 u105 u106 u107 u108 u109 u110 u111 u112 u113 u114 u115 u116 v1 k1 e1
    go_wp2_with fail
    refine apart_l2 w12 v1 q np p5 A0 c0 P HL0.out hnp2 hr0 y0 q0 (cntZ 1 (fun _ => 0) inb m) (fun x => by have := F1.out x; omega) k1 e1 ?_
    intro u117 u118 u119 u120 u121 u122 u123 u124 u125 u126 u127 u128 u129 u130 u131 u132 u133 v2 k2 e2
    go_wp2_with fail
    refine apart_l3 w12 v2 q nk p7 A1 c1 K HL1.out hnk2 hr1 y1 q1 _ (fun x => by have := F2.out x; omega) k2 e2 ?_
    intro u134 u135 u136 u137 u138 u139 u140 u141 u142 u143 u144 u145 u146 u147 u148 u149 u150 v3 k3 e3
    rw [F3.out] at k3
    go_wp2_with fail
    refine apart_l4 v3 q k3 ?_
    intro u6 u151 u152 u153 u154 u155 u156 u157 u158
    go_wp2_with fail
    go_returns
    exact ⟨rfl, HFIN.out v3 e3⟩

end Go.Proofs.YtlhiadnolckoeaaGreatDoor
end
