/-
  A walk over the law TransBack.
-/
import Derived.Test.YtlhiadnolckoeaaGreatDoorR17
import Derived.Deep.AppendLies
import Derived.Deep.RegionHeld3
import Derived.Test.YtlhiadnolckoeaaGreatDoorR12
import Derived.Test.YtlhiadnolckoeaaGreatDoorR14

section
namespace Go.Proofs.YtlhiadnolckoeaaGreatDoor
open Go.RowKit Go.Maps

/-- the regions of a function's code -/
def regsOf : Code → List Code
  | .region i ops b => [.region i ops b]
  | .loop c => regsOf c
  | .seq a b => regsOf a ++ regsOf b
  | .block _ c => regsOf c
  | .scope c => regsOf c
  | .cond _ a b => regsOf a ++ regsOf b
  | _ => []
def isReg (k : Nat) : Code → Bool
  | .region i _ _ => i == k
  | _ => false
noncomputable def backReg (k : Nat) : Code := (Tryz.f4.body.bind (fun c => (regsOf c).find? (isReg k))).getD .skip

theorem news_one {W : World} {g : Nat} {v : Value} (h : W.cell? ⟨g, 0, none⟩ = some v) : ∀ j u, [v][j]? = some u → W.cell? ((⟨g, 0, none⟩ : Addr).add j) = some u := by
  intro j u hu
  cases j with
  | zero =>
    have e : (⟨g, 0, none⟩ : Addr).add 0 = ⟨g, 0, none⟩ := by unfold Addr.add; split <;> simp_all
    rw [e, h]
    simpa using hu
  | succ j => simp at hu

set_option maxRecDepth 100000 in
set_option maxHeartbeats 4000000 in
theorem back_r11 (w : World) (ad : Addr) (c k : Nat) (x : List UInt8) (hx : x.length = k) (hk1 : 1 ≤ k) (hk2 : k ≤ 256) (hnd : x.Nodup) (hxl : ad.block < w.heap.size) (hxc : ∀ j u, (bytesC x)[j]? = some u → w.cell? (ad.add j) = some u) (IA : Option Addr) (ic m : Nat) (inb : List UInt8) (hir : Reads w w.heap.size 1 IA m (bytesC inb)) (i : Nat) (hi : i < m) (b : UInt8) (hb : inb[i]? = some b)
    {c1 c2 c3 c4 c5 c6 c7 c8 c9 c11 c12 c14 c15 c16 c17 c18 c19 c20 c21 c22 c23 c24 c25 c26 c27 c28 c29 c30 c31 c32 c33 c34 c35 c36 c37 c38 c39 c40 c41 c42 c43 c44 c45 c46 c47 c48 c49 c50 c51 c52 c53 c54 c55 c56 c57 c58 c59 c60 c61 c62 c63 c64 c65 c66 c67 c68 c69 c70 c71 c72 c73 c74 c75 c76 c77 c78 c79 c80 c81 c82 c83 c84 c85 c86 c87 c88 c89 c90 c91 c92 c93 c94 c95 c96 c97 c98 c99 c100 c101 c102 c103 c104 c105 c106 c107 c108 c109 c110 c111 c112 c113 c114 c115 c116 c117 c118 : Value} {Q0 : Exit → Act → World → Prop}
    (hexit : ∀ (u49 u50 u51 u52 u53 u54 u55 u56 u57 u58 u59 u60 u61 : Value) (w1 : World), Below w.heap.size w w1 → Q0 .normal ⟨#[.slice IA m ic, c1, c2, c3, c4, c5, c6, c7, c8, c9, .slice (some ad) k c, c11, c12, .int .i64 i, .bool (decide (b ∈ x)), c15, c16, c17, c18, c19, c20, c21, c22, c23, c24, c25, c26, c27, c28, c29, c30, c31, c32, c33, c34, c35, c36, c37, c38, c39, c40, c41, c42, c43, c44, c45, c46, c47, c48, u49, u50, u51, u52, u53, u54, u55, u56, u57, u58, u59, u60, u61, c62, c63, c64, c65, c66, c67, c68, c69, c70, c71, c72, c73, c74, c75, c76, c77, c78, c79, c80, c81, c82, c83, c84, c85, c86, c87, c88, c89, c90, c91, c92, c93, c94, c95, c96, c97, c98, c99, c100, c101, c102, c103, c104, c105, c106, c107, c108, c109, c110, c111, c112, c113, c114, c115, c116, c117, c118], []⟩ w1) :
    Code.wp Tryz.prog (backReg 11) Q0 ⟨#[.slice IA m ic, c1, c2, c3, c4, c5, c6, c7, c8, c9, .slice (some ad) k c, c11, c12, .int .i64 i, c14, c15, c16, c17, c18, c19, c20, c21, c22, c23, c24, c25, c26, c27, c28, c29, c30, c31, c32, c33, c34, c35, c36, c37, c38, c39, c40, c41, c42, c43, c44, c45, c46, c47, c48, c49, c50, c51, c52, c53, c54, c55, c56, c57, c58, c59, c60, c61, c62, c63, c64, c65, c66, c67, c68, c69, c70, c71, c72, c73, c74, c75, c76, c77, c78, c79, c80, c81, c82, c83, c84, c85, c86, c87, c88, c89, c90, c91, c92, c93, c94, c95, c96, c97, c98, c99, c100, c101, c102, c103, c104, c105, c106, c107, c108, c109, c110, c111, c112, c113, c114, c115, c116, c117, c118], []⟩ w := by
  dsimp only at hexit ⊢
  obtain ⟨iB, hiB, hB0, hB1, hB2⟩ := info_parts Tryz.infoByte
  obtain ⟨ai, u, rfl, hail, hu, hcell⟩ := hir.at_ hi
  obtain rfl : u = .int .u8 (b.toNat : Int) := by
    simp only [bytesC, List.getElem?_map, hb, Option.map_some] at hu
    exact (Option.some.inj hu).symm
  obtain ⟨z, hz⟩ : ∃ z : Int, (b.toNat : Int) = z := ⟨_, rfl⟩
  obtain ⟨g, hg⟩ : ∃ g, w.heap.size = g := ⟨_, rfl⟩
  have hone : ∀ u ∈ bytesC x, u.oneCell' = true := bytesC_oneCell x
  have hone1 : ∀ u ∈ [Value.int .u8 z], u.oneCell' = true := by intro u hu; rw [List.mem_singleton.1 hu]; rfl
  have hxl1 : (bytesC x).length = k * 1 := by simp [bytesC, hx]
  have hsn : bytesC x ++ [.int .u8 z] = bytesC (x ++ [b]) := by rw [← hz]; exact bytesC_snoc x b
  obtain ⟨D, hD⟩ : ∃ D, Pl.distinctL (x ++ [b]) 999 = D := ⟨_, rfl⟩
  obtain ⟨n, hn⟩ : ∃ n, D.length = n := ⟨_, rfl⟩
  have hnk : n = k ↔ b ∈ x := by rw [← hn, ← hD, ← hx]; exact Pl.distinct_snoc x b 999 hnd (by omega)
  obtain ⟨p, hp⟩ : ∃ p, decide (b ∈ x) = p := ⟨_, rfl⟩
  have hnp : ((n : Int) == (k : Int)) = p := by
    rw [← hp, Bool.eq_iff_iff, beq_iff_eq, decide_eq_true_eq, ← hnk]
    omega
  rw [hp] at hexit
  have HDI : Hid (∀ (W : World) (A : Option Addr) (cap : Nat), Reads W W.heap.size 1 A (k + 1) (bytesC (x ++ [b])) → Calls Tryz.prog 9 #[.slice A (k + 1) cap, .int .i64 999] W fun e w' => ∃ v, e = .returned v ∧ w'.ownsRow W.heap.size 5 1 v n (bytesC D) ∧ Below W.heap.size W w') := Lib.hid fun W A cap hR => by
    have h := distinct_any W A cap (k + 1) 999 (x ++ [b]) hR (by simp [hx]) (by omega) (by omega)
    rw [hD, hn] at h
    exact h
  have HX := Lib.hid hexit
  have HC := Lib.hid hxc
  have bA : Below g w w.drew := by rw [← hg]; exact below_drew w 1
  have bB : Below g w ((w.alloc (.cells #[.int .u8 z] 5)).drew) := by rw [← hg]; exact (below_one w _).trans (below_drew _ 1)
  have oA : w.drew.ownsRow g 5 1 (.slice none 0 0) 0 [] := World.ownsRow_nil _ _ _ _
  have oB : (w.alloc (.cells #[.int .u8 z] 5)).drew.ownsRow g 5 1 (.slice none 0 0) 0 [] := World.ownsRow_nil _ _ _ _
  have nA : ∀ j u, (bytesC x)[j]? = some u → w.drew.cell? (ad.add j) = some u := fun j u hu => (bA.cell (by rw [block_of_add]; rw [← hg]; exact hxl)).trans (HC.out j u hu)
  have nB : ∀ j u, (bytesC x)[j]? = some u → (w.alloc (.cells #[.int .u8 z] 5)).drew.cell? (ad.add j) = some u := fun j u hu => (bB.cell (by rw [block_of_add]; rw [← hg]; exact hxl)).trans (HC.out j u hu)
  have NA := Lib.hid nA
  have NB := Lib.hid nB
  have A1 := Lib.hid (show 0 + k ≤ maxLen by simp only [maxLen]; omega)
  have A2 := Lib.hid (show (0 + k) * 1 ≤ 140737488355328 by omega)
  have A3 : 0 < k := hk1
  have A4 := Lib.hid (show k + 1 ≤ maxLen by simp only [maxLen]; omega)
  have A5 := Lib.hid (show (k + 1) * 1 ≤ 140737488355328 by omega)
  have A6 : g ≤ w.heap.size := by omega
  have hsB : ((w.alloc (.cells #[.int .u8 z] 5)).drew).heap.size = g + 1 := by show (w.alloc (.cells #[.int .u8 z] 5)).heap.size = g + 1; simp [hg]
  have A6B : g ≤ ((w.alloc (.cells #[.int .u8 z] 5)).drew).heap.size := by rw [hsB]; omega
  have hS : ∀ W, Below g w W → W.cell? (ai.add i) = some (.int .u8 z) := fun W hW => (hW.cell (p := ai.add i) (by rw [block_of_add, ← hg]; exact hail)).trans (by rw [hcell, hz])
  have HS := Lib.hid hS
  have cB : (w.alloc (.cells #[.int .u8 z] 5)).cell? ⟨g, 0, none⟩ = some (.int .u8 z) := by rw [← hg]; exact (Blk.new w 5 #[.int .u8 z]).cell 0
  have H1 := Lib.hid hsn
  have hi0 : (0 : Int) ≤ (i : Int) := by omega
  have hi1 : (i : Int) < (m : Int) := by omega
  have him2 : i < m := hi
  clear hexit hxc hnk hD hn hp hx hnd hir hb hu nA nB hsn hk1 hk2 hS hcell
  conv => arg 2; whnf
  go_region_held3 (fun W => W.cell? (ai.add i) = some (.int .u8 z))
    (first | exact HS.out _ (by assumption) | exact HS.out _ (Below.refl _ _))
    (first
    | (go_at_call 9; have hq := HDI.out w2 _ cap2 hr2; (first | (with_reducible refine hq.mono ?_) | (rw [Nat.zero_add]; with_reducible refine hq.mono ?_)); clear hq; rintro e w3 ⟨v, rfl, hown3, hb3⟩
       obtain ⟨A3, c3, rfl, _⟩ := own_slice hown3
       have b3 : Below g w w3 := b2.trans (hb3.mono (Nat.le_trans A6 b2.size)))
    | (refine step_append_lies _ (by rfl) _ _ 23 (by rfl) g 5 iB (.int .u8 0) 1 1 Tryz.underlying23 hiB hB0 hB1 hB2 (by rfl) (by decide) (.slice none 0 0) 0 [] (by rfl) oA ad k c (bytesC x) (by rfl) hxl1 NA.out hone A3 A1.out A2.out A6 g hg ?_
       intro g1 cap1 w1 hown1 hgrow1 hat1 hlt1
       have b1 : Below g w w1 := bA.grown hgrow1 A6 (fun j hj => by cases hj)
       have hbC : g ≤ (w1.alloc (.cells #[.int .u8 z] 5)).heap.size := Nat.le_trans A6 (Nat.le_trans b1.size (by simp))
       have bC : Below g w (w1.alloc (.cells #[.int .u8 z] 5)) := b1.alloc (Nat.le_trans A6 b1.size) _
       have oD := hown1
       rw [Nat.zero_add, List.nil_append] at oD
       have oC := oD.alloc (.cells #[.int .u8 z] 5)
       have oE := hown1.alloc (.cells #[.int .u8 z] 5)
       have cC : (w1.alloc (.cells #[.int .u8 z] 5)).cell? ⟨w1.heap.size, 0, none⟩ = some (.int .u8 z) := (by exact (Blk.new w1 5 #[.int .u8 z]).cell 0))
    | (refine step_append_lies _ (by rfl) _ _ 23 (by rfl) g 5 iB (.int .u8 0) 1 1 Tryz.underlying23 hiB hB0 hB1 hB2 (by rfl) (by decide) (.slice none 0 0) 0 [] (by rfl) oB ad k c (bytesC x) (by rfl) hxl1 NB.out hone A3 A1.out A2.out A6B (g + 1) hsB ?_
       intro g1 cap1 w1 hown1 hgrow1 hat1 hlt1
       have bC : Below g w w1 := bB.grown hgrow1 A6B (fun j hj => by cases hj)
       have hbC : g ≤ w1.heap.size := Nat.le_trans A6 bC.size
       have oD := hown1
       rw [Nat.zero_add, List.nil_append] at oD
       have oC := oD
       have oE := hown1
       have cC : w1.cell? ⟨g, 0, none⟩ = some (.int .u8 z) := (by exact (World.grownBy.cell_far hgrow1 ⟨g, 0, none⟩ (by rw [hsB]; exact Nat.lt_succ_self g) (by simp [Value.ownBlock])).trans cB))
    | (refine step_append_lies _ (by rfl) _ _ 23 (by rfl) g 5 iB (.int .u8 0) 1 1 Tryz.underlying23 hiB hB0 hB1 hB2 (by rfl) (by decide) (.slice (some ⟨g1, 0, none⟩) k cap1) k (bytesC x) (by rfl) oC _ 1 1 [.int .u8 z] (by rfl) (by rfl) (news_one cC) hone1 (by decide) A4.out A5.out hbC _ rfl ?_
       intro g2 cap2 w2 hown2 hgrow2 hat2 hlt2
       have b2 : Below g w w2 := bC.grown hgrow2 hbC (fun j hj => (oD.lt j hj).1)
       have hr2 : Reads w2 w2.heap.size 1 (some ⟨g2, 0, none⟩) (k + 1) (bytesC (x ++ [b])) := (by obtain ⟨_, _, e, _, _, h⟩ := own_slice hown2; cases e; rwa [H1.out] at h))
    | (refine step_append_lies _ (by rfl) _ _ 23 (by rfl) g 5 iB (.int .u8 0) 1 1 Tryz.underlying23 hiB hB0 hB1 hB2 (by rfl) (by decide) (.slice (some ⟨g1, 0, none⟩) (0 + k) cap1) (0 + k) ([] ++ bytesC x) (by rfl) oE _ 1 1 [.int .u8 z] (by rfl) (by rfl) (news_one cC) hone1 (by decide) (by rw [Nat.zero_add]; exact A4.out) (by rw [Nat.zero_add]; exact A5.out) hbC _ rfl ?_
       intro g2 cap2 w2 hown2 hgrow2 hat2 hlt2
       have b2 : Below g w w2 := bC.grown hgrow2 hbC (fun j hj => (hown1.lt j hj).1)
       have hr2 : Reads w2 w2.heap.size 1 (some ⟨g2, 0, none⟩) (k + 1) (bytesC (x ++ [b])) := (by obtain ⟨_, _, e, _, _, h⟩ := own_slice hown2; cases e; rwa [Nat.zero_add, List.nil_append, H1.out] at h)))
  all_goals exact HX.out _ _ _ _ _ _ _ _ _ _ _ _ _ _ (by rw [hg]; exact b3)

set_option maxRecDepth 100000 in
set_option maxHeartbeats 4000000 in
theorem back_r12 (w : World) (ad : Addr) (c k : Nat) (x : List UInt8) (hx : x.length = k) (hk1 : 1 ≤ k) (hk2 : k ≤ 256) (hnd : x.Nodup) (hxl : ad.block < w.heap.size) (hxc : ∀ j u, (bytesC x)[j]? = some u → w.cell? (ad.add j) = some u) (IA : Option Addr) (ic m : Nat) (inb : List UInt8) (hir : Reads w w.heap.size 1 IA m (bytesC inb)) (i : Nat) (hi : i < m) (b : UInt8) (hb : inb[i]? = some b)
    {c1 c2 c3 c4 c5 c6 c7 c8 c9 c10 c12 c14 c15 c16 c17 c18 c19 c20 c21 c22 c23 c24 c25 c26 c27 c28 c29 c30 c31 c32 c33 c34 c35 c36 c37 c38 c39 c40 c41 c42 c43 c44 c45 c46 c47 c48 c49 c50 c51 c52 c53 c54 c55 c56 c57 c58 c59 c60 c61 c62 c63 c64 c65 c66 c67 c68 c69 c70 c71 c72 c73 c74 c75 c76 c77 c78 c79 c80 c81 c82 c83 c84 c85 c86 c87 c88 c89 c90 c91 c92 c93 c94 c95 c96 c97 c98 c99 c100 c101 c102 c103 c104 c105 c106 c107 c108 c109 c110 c111 c112 c113 c114 c115 c116 c117 c118 : Value} {Q0 : Exit → Act → World → Prop}
    (hexit : ∀ (u62 u63 u64 u65 u66 u67 u68 u69 u70 u71 u72 u73 u74 : Value) (w1 : World), Below w.heap.size w w1 → Q0 .normal ⟨#[.slice IA m ic, c1, c2, c3, c4, c5, c6, c7, c8, c9, c10, .slice (some ad) k c, c12, .int .i64 i, c14, .bool (decide (b ∈ x)), c16, c17, c18, c19, c20, c21, c22, c23, c24, c25, c26, c27, c28, c29, c30, c31, c32, c33, c34, c35, c36, c37, c38, c39, c40, c41, c42, c43, c44, c45, c46, c47, c48, c49, c50, c51, c52, c53, c54, c55, c56, c57, c58, c59, c60, c61, u62, u63, u64, u65, u66, u67, u68, u69, u70, u71, u72, u73, u74, c75, c76, c77, c78, c79, c80, c81, c82, c83, c84, c85, c86, c87, c88, c89, c90, c91, c92, c93, c94, c95, c96, c97, c98, c99, c100, c101, c102, c103, c104, c105, c106, c107, c108, c109, c110, c111, c112, c113, c114, c115, c116, c117, c118], []⟩ w1) :
    Code.wp Tryz.prog (backReg 12) Q0 ⟨#[.slice IA m ic, c1, c2, c3, c4, c5, c6, c7, c8, c9, c10, .slice (some ad) k c, c12, .int .i64 i, c14, c15, c16, c17, c18, c19, c20, c21, c22, c23, c24, c25, c26, c27, c28, c29, c30, c31, c32, c33, c34, c35, c36, c37, c38, c39, c40, c41, c42, c43, c44, c45, c46, c47, c48, c49, c50, c51, c52, c53, c54, c55, c56, c57, c58, c59, c60, c61, c62, c63, c64, c65, c66, c67, c68, c69, c70, c71, c72, c73, c74, c75, c76, c77, c78, c79, c80, c81, c82, c83, c84, c85, c86, c87, c88, c89, c90, c91, c92, c93, c94, c95, c96, c97, c98, c99, c100, c101, c102, c103, c104, c105, c106, c107, c108, c109, c110, c111, c112, c113, c114, c115, c116, c117, c118], []⟩ w := by
  dsimp only at hexit ⊢
  obtain ⟨iB, hiB, hB0, hB1, hB2⟩ := info_parts Tryz.infoByte
  obtain ⟨ai, u, rfl, hail, hu, hcell⟩ := hir.at_ hi
  obtain rfl : u = .int .u8 (b.toNat : Int) := by
    simp only [bytesC, List.getElem?_map, hb, Option.map_some] at hu
    exact (Option.some.inj hu).symm
  obtain ⟨z, hz⟩ : ∃ z : Int, (b.toNat : Int) = z := ⟨_, rfl⟩
  obtain ⟨g, hg⟩ : ∃ g, w.heap.size = g := ⟨_, rfl⟩
  have hone : ∀ u ∈ bytesC x, u.oneCell' = true := bytesC_oneCell x
  have hone1 : ∀ u ∈ [Value.int .u8 z], u.oneCell' = true := by intro u hu; rw [List.mem_singleton.1 hu]; rfl
  have hxl1 : (bytesC x).length = k * 1 := by simp [bytesC, hx]
  have hsn : bytesC x ++ [.int .u8 z] = bytesC (x ++ [b]) := by rw [← hz]; exact bytesC_snoc x b
  obtain ⟨D, hD⟩ : ∃ D, Pl.distinctL (x ++ [b]) 999 = D := ⟨_, rfl⟩
  obtain ⟨n, hn⟩ : ∃ n, D.length = n := ⟨_, rfl⟩
  have hnk : n = k ↔ b ∈ x := by rw [← hn, ← hD, ← hx]; exact Pl.distinct_snoc x b 999 hnd (by omega)
  obtain ⟨p, hp⟩ : ∃ p, decide (b ∈ x) = p := ⟨_, rfl⟩
  have hnp : ((n : Int) == (k : Int)) = p := by
    rw [← hp, Bool.eq_iff_iff, beq_iff_eq, decide_eq_true_eq, ← hnk]
    omega
  rw [hp] at hexit
  have HDI : Hid (∀ (W : World) (A : Option Addr) (cap : Nat), Reads W W.heap.size 1 A (k + 1) (bytesC (x ++ [b])) → Calls Tryz.prog 9 #[.slice A (k + 1) cap, .int .i64 999] W fun e w' => ∃ v, e = .returned v ∧ w'.ownsRow W.heap.size 5 1 v n (bytesC D) ∧ Below W.heap.size W w') := Lib.hid fun W A cap hR => by
    have h := distinct_any W A cap (k + 1) 999 (x ++ [b]) hR (by simp [hx]) (by omega) (by omega)
    rw [hD, hn] at h
    exact h
  have HX := Lib.hid hexit
  have HC := Lib.hid hxc
  have bA : Below g w w.drew := by rw [← hg]; exact below_drew w 1
  have bB : Below g w ((w.alloc (.cells #[.int .u8 z] 5)).drew) := by rw [← hg]; exact (below_one w _).trans (below_drew _ 1)
  have oA : w.drew.ownsRow g 5 1 (.slice none 0 0) 0 [] := World.ownsRow_nil _ _ _ _
  have oB : (w.alloc (.cells #[.int .u8 z] 5)).drew.ownsRow g 5 1 (.slice none 0 0) 0 [] := World.ownsRow_nil _ _ _ _
  have nA : ∀ j u, (bytesC x)[j]? = some u → w.drew.cell? (ad.add j) = some u := fun j u hu => (bA.cell (by rw [block_of_add]; rw [← hg]; exact hxl)).trans (HC.out j u hu)
  have nB : ∀ j u, (bytesC x)[j]? = some u → (w.alloc (.cells #[.int .u8 z] 5)).drew.cell? (ad.add j) = some u := fun j u hu => (bB.cell (by rw [block_of_add]; rw [← hg]; exact hxl)).trans (HC.out j u hu)
  have NA := Lib.hid nA
  have NB := Lib.hid nB
  have A1 := Lib.hid (show 0 + k ≤ maxLen by simp only [maxLen]; omega)
  have A2 := Lib.hid (show (0 + k) * 1 ≤ 140737488355328 by omega)
  have A3 : 0 < k := hk1
  have A4 := Lib.hid (show k + 1 ≤ maxLen by simp only [maxLen]; omega)
  have A5 := Lib.hid (show (k + 1) * 1 ≤ 140737488355328 by omega)
  have A6 : g ≤ w.heap.size := by omega
  have hsB : ((w.alloc (.cells #[.int .u8 z] 5)).drew).heap.size = g + 1 := by show (w.alloc (.cells #[.int .u8 z] 5)).heap.size = g + 1; simp [hg]
  have A6B : g ≤ ((w.alloc (.cells #[.int .u8 z] 5)).drew).heap.size := by rw [hsB]; omega
  have hS : ∀ W, Below g w W → W.cell? (ai.add i) = some (.int .u8 z) := fun W hW => (hW.cell (p := ai.add i) (by rw [block_of_add, ← hg]; exact hail)).trans (by rw [hcell, hz])
  have HS := Lib.hid hS
  have cB : (w.alloc (.cells #[.int .u8 z] 5)).cell? ⟨g, 0, none⟩ = some (.int .u8 z) := by rw [← hg]; exact (Blk.new w 5 #[.int .u8 z]).cell 0
  have H1 := Lib.hid hsn
  have hi0 : (0 : Int) ≤ (i : Int) := by omega
  have hi1 : (i : Int) < (m : Int) := by omega
  have him2 : i < m := hi
  clear hexit hxc hnk hD hn hp hx hnd hir hb hu nA nB hsn hk1 hk2 hS hcell
  conv => arg 2; whnf
  go_region_held3 (fun W => W.cell? (ai.add i) = some (.int .u8 z))
    (first | exact HS.out _ (by assumption) | exact HS.out _ (Below.refl _ _))
    (first
    | (go_at_call 9; have hq := HDI.out w2 _ cap2 hr2; (first | (with_reducible refine hq.mono ?_) | (rw [Nat.zero_add]; with_reducible refine hq.mono ?_)); clear hq; rintro e w3 ⟨v, rfl, hown3, hb3⟩
       obtain ⟨A3, c3, rfl, _⟩ := own_slice hown3
       have b3 : Below g w w3 := b2.trans (hb3.mono (Nat.le_trans A6 b2.size)))
    | (refine step_append_lies _ (by rfl) _ _ 23 (by rfl) g 5 iB (.int .u8 0) 1 1 Tryz.underlying23 hiB hB0 hB1 hB2 (by rfl) (by decide) (.slice none 0 0) 0 [] (by rfl) oA ad k c (bytesC x) (by rfl) hxl1 NA.out hone A3 A1.out A2.out A6 g hg ?_
       intro g1 cap1 w1 hown1 hgrow1 hat1 hlt1
       have b1 : Below g w w1 := bA.grown hgrow1 A6 (fun j hj => by cases hj)
       have hbC : g ≤ (w1.alloc (.cells #[.int .u8 z] 5)).heap.size := Nat.le_trans A6 (Nat.le_trans b1.size (by simp))
       have bC : Below g w (w1.alloc (.cells #[.int .u8 z] 5)) := b1.alloc (Nat.le_trans A6 b1.size) _
       have oD := hown1
       rw [Nat.zero_add, List.nil_append] at oD
       have oC := oD.alloc (.cells #[.int .u8 z] 5)
       have oE := hown1.alloc (.cells #[.int .u8 z] 5)
       have cC : (w1.alloc (.cells #[.int .u8 z] 5)).cell? ⟨w1.heap.size, 0, none⟩ = some (.int .u8 z) := (by exact (Blk.new w1 5 #[.int .u8 z]).cell 0))
    | (refine step_append_lies _ (by rfl) _ _ 23 (by rfl) g 5 iB (.int .u8 0) 1 1 Tryz.underlying23 hiB hB0 hB1 hB2 (by rfl) (by decide) (.slice none 0 0) 0 [] (by rfl) oB ad k c (bytesC x) (by rfl) hxl1 NB.out hone A3 A1.out A2.out A6B (g + 1) hsB ?_
       intro g1 cap1 w1 hown1 hgrow1 hat1 hlt1
       have bC : Below g w w1 := bB.grown hgrow1 A6B (fun j hj => by cases hj)
       have hbC : g ≤ w1.heap.size := Nat.le_trans A6 bC.size
       have oD := hown1
       rw [Nat.zero_add, List.nil_append] at oD
       have oC := oD
       have oE := hown1
       have cC : w1.cell? ⟨g, 0, none⟩ = some (.int .u8 z) := (by exact (World.grownBy.cell_far hgrow1 ⟨g, 0, none⟩ (by rw [hsB]; exact Nat.lt_succ_self g) (by simp [Value.ownBlock])).trans cB))
    | (refine step_append_lies _ (by rfl) _ _ 23 (by rfl) g 5 iB (.int .u8 0) 1 1 Tryz.underlying23 hiB hB0 hB1 hB2 (by rfl) (by decide) (.slice (some ⟨g1, 0, none⟩) k cap1) k (bytesC x) (by rfl) oC _ 1 1 [.int .u8 z] (by rfl) (by rfl) (news_one cC) hone1 (by decide) A4.out A5.out hbC _ rfl ?_
       intro g2 cap2 w2 hown2 hgrow2 hat2 hlt2
       have b2 : Below g w w2 := bC.grown hgrow2 hbC (fun j hj => (oD.lt j hj).1)
       have hr2 : Reads w2 w2.heap.size 1 (some ⟨g2, 0, none⟩) (k + 1) (bytesC (x ++ [b])) := (by obtain ⟨_, _, e, _, _, h⟩ := own_slice hown2; cases e; rwa [H1.out] at h))
    | (refine step_append_lies _ (by rfl) _ _ 23 (by rfl) g 5 iB (.int .u8 0) 1 1 Tryz.underlying23 hiB hB0 hB1 hB2 (by rfl) (by decide) (.slice (some ⟨g1, 0, none⟩) (0 + k) cap1) (0 + k) ([] ++ bytesC x) (by rfl) oE _ 1 1 [.int .u8 z] (by rfl) (by rfl) (news_one cC) hone1 (by decide) (by rw [Nat.zero_add]; exact A4.out) (by rw [Nat.zero_add]; exact A5.out) hbC _ rfl ?_
       intro g2 cap2 w2 hown2 hgrow2 hat2 hlt2
       have b2 : Below g w w2 := bC.grown hgrow2 hbC (fun j hj => (hown1.lt j hj).1)
       have hr2 : Reads w2 w2.heap.size 1 (some ⟨g2, 0, none⟩) (k + 1) (bytesC (x ++ [b])) := (by obtain ⟨_, _, e, _, _, h⟩ := own_slice hown2; cases e; rwa [Nat.zero_add, List.nil_append, H1.out] at h)))
  all_goals exact HX.out _ _ _ _ _ _ _ _ _ _ _ _ _ _ (by rw [hg]; exact b3)

end Go.Proofs.YtlhiadnolckoeaaGreatDoor
end

section
namespace Go.Proofs.YtlhiadnolckoeaaGreatDoor
open Go.RowKit Go.Maps

/-- the loops of a function's code, in their order -/
def loopsOf : Code → List Code
  | .loop c => [c]
  | .seq a b => loopsOf a ++ loopsOf b
  | .block _ c => loopsOf c
  | .scope c => loopsOf c
  | .cond _ a b => loopsOf a ++ loopsOf b
  | _ => []
noncomputable def apartLoop (k : Nat) : Code := (Tryz.f5.body.bind (fun c => (loopsOf c)[k]?)).getD .skip
/-- counts, and so many more (or less) of a text's -/
def cntZ (z : Int) (f : UInt8 → Int) (l : List UInt8) (k : Nat) (x : UInt8) : Int := f x + z * ((l.take k).count x : Int)
theorem cntZ_zero (z : Int) (f : UInt8 → Int) (l : List UInt8) : cntZ z f l 0 = f := by funext x; simp [cntZ]
theorem cntZ_all {z : Int} {f : UInt8 → Int} {l : List UInt8} {k : Nat} (h : l.length = k) (x : UInt8) : cntZ z f l k x = f x + z * (l.count x : Int) := by simp [cntZ, ← h]
theorem cntZ_set {z : Int} {f : UInt8 → Int} {l : List UInt8} {k : Nat} {c : UInt8} (hc : l[k]? = some c) : (arrF 256 (cntF (cntZ z f l k))).setIfInBounds c.toNat (.int .i64 (cntZ z f l k c + z)) = arrF 256 (cntF (cntZ z f l (k + 1))) := by
  refine cnt_set _ _ c _ ?_ fun x hx => ?_
  · unfold cntZ
    rw [count_more l k c hc, if_pos rfl, Int.mul_add, Int.mul_one, Int.add_assoc]
  · unfold cntZ
    rw [count_more l k c hc, if_neg hx, Int.add_zero]
theorem cntZ_near {z : Int} {f : UInt8 → Int} {l : List UInt8} (k : Nat) {m : Nat} (hz : z = 1 ∨ z = -1) (hl : l.length = m) (hm : m ≤ 140737488355000) (x : UInt8) : f x - 140737488355000 ≤ cntZ z f l k x ∧ cntZ z f l k x ≤ f x + 140737488355000 := by
  have h2 : (l.take k).count x ≤ m := Nat.le_trans List.count_le_length (by rw [List.length_take]; omega)
  unfold cntZ
  rcases hz with rfl | rfl <;> omega
theorem cntZ_bound {z : Int} {f : UInt8 → Int} {l : List UInt8} {k m : Nat} (hz : z = 1 ∨ z = -1) (hl : l.length = m) (hm : m ≤ 140737488355000) (hf : ∀ x, -400000000000000 ≤ f x ∧ f x ≤ 400000000000000) (x : UInt8) : -600000000000000 ≤ cntZ z f l k x ∧ cntZ z f l k x ≤ 600000000000000 := by
  have h1 := hf x
  have h2 : (l.take k).count x ≤ m := Nat.le_trans List.count_le_length (by rw [List.length_take]; omega)
  unfold cntZ
  rcases hz with rfl | rfl <;> omega

set_option maxRecDepth 100000 in
set_option maxHeartbeats 4000000 in
theorem apart_l1 (W w0 : World) (q m : Nat) (IA : Option Addr) (ic : Nat) (l : List UInt8) (hlm : l.length = m) (hil : m ≤ 140737488355000) (hlr : Reads W q 1 IA m (bytesC l)) (f : UInt8 → Int) (hf : ∀ x, -400000000000000 ≤ f x ∧ f x ≤ 400000000000000) (h0 : Blk w0 q 43 (arrF 256 (cntF f))) (hb0 : Below q W w0)
    {c1 c2 c3 c4 c5 c6 c7 c8 c9 c10 c11 c12 c13 c14 c15 c16 c17 c20 c21 c22 c23 c24 c25 c26 c27 c28 c29 c30 c31 c32 c33 c34 c35 c36 c37 c38 c39 c40 c41 c42 c43 c44 c45 c46 c47 c48 c49 c50 c51 c52 c53 c54 c55 c56 c57 c58 c59 c60 c61 c62 c63 c64 c65 c66 c67 c68 c69 c70 c71 c72 c73 c74 c75 c76 c77 c78 c79 c80 c81 c82 c83 c84 c85 c86 c87 c88 c89 c90 c91 c92 c93 c94 c95 c96 c97 c98 c99 c100 c101 c102 c103 c104 c105 c106 c107 c108 c109 c110 c111 c112 c113 c114 c115 c116 c117 c118 c119 c120 c121 c122 c123 c124 c125 c126 c127 c128 c129 c130 c131 c132 c133 c134 c135 c136 c137 c138 c139 c140 c141 c142 c143 c144 c145 c146 c147 c148 c149 c150 c151 c152 c153 c154 c155 c156 c157 c158 : Value} {Q0 : Exit → Act → World → Prop}
    (hexit : ∀ (u102 u103 u104 u105 u106 u107 u108 u109 u110 u111 u112 u113 u114 u115 u116 : Value) (w1 : World), Blk w1 q 43 (arrF 256 (cntF (cntZ 1 f l m))) → Below q W w1 → Q0 (.exit 0) ⟨#[.slice IA m ic, c1, c2, c3, c4, c5, c6, c7, c8, c9, c10, c11, c12, c13, c14, c15, c16, c17, .pointer (some ⟨q, 0, none⟩), .int .i64 m, c20, c21, c22, c23, c24, c25, c26, c27, c28, c29, c30, c31, c32, c33, c34, c35, c36, c37, c38, c39, c40, c41, c42, c43, c44, c45, c46, c47, c48, c49, c50, c51, c52, c53, c54, c55, c56, c57, c58, c59, c60, c61, c62, c63, c64, c65, c66, c67, c68, c69, c70, c71, c72, c73, c74, c75, c76, c77, c78, c79, c80, c81, c82, c83, c84, c85, c86, c87, c88, c89, c90, c91, c92, c93, c94, c95, c96, c97, c98, c99, c100, c101, u102, u103, u104, u105, u106, u107, u108, u109, u110, u111, u112, u113, u114, u115, u116, c117, c118, c119, c120, c121, c122, c123, c124, c125, c126, c127, c128, c129, c130, c131, c132, c133, c134, c135, c136, c137, c138, c139, c140, c141, c142, c143, c144, c145, c146, c147, c148, c149, c150, c151, c152, c153, c154, c155, c156, c157, c158], []⟩ w1) :
    Code.wp Tryz.prog (Code.loop (apartLoop 0)) Q0 ⟨#[.slice IA m ic, c1, c2, c3, c4, c5, c6, c7, c8, c9, c10, c11, c12, c13, c14, c15, c16, c17, .pointer (some ⟨q, 0, none⟩), .int .i64 0, c20, c21, c22, c23, c24, c25, c26, c27, c28, c29, c30, c31, c32, c33, c34, c35, c36, c37, c38, c39, c40, c41, c42, c43, c44, c45, c46, c47, c48, c49, c50, c51, c52, c53, c54, c55, c56, c57, c58, c59, c60, c61, c62, c63, c64, c65, c66, c67, c68, c69, c70, c71, c72, c73, c74, c75, c76, c77, c78, c79, c80, c81, c82, c83, c84, c85, c86, c87, c88, c89, c90, c91, c92, c93, c94, c95, c96, c97, c98, c99, c100, c101, c102, c103, c104, c105, c106, c107, c108, c109, c110, c111, c112, c113, c114, c115, c116, c117, c118, c119, c120, c121, c122, c123, c124, c125, c126, c127, c128, c129, c130, c131, c132, c133, c134, c135, c136, c137, c138, c139, c140, c141, c142, c143, c144, c145, c146, c147, c148, c149, c150, c151, c152, c153, c154, c155, c156, c157, c158], []⟩ w0 := by
  dsimp only at hexit ⊢
  have HR := Lib.hid hlr
  have HL := Lib.hid hlm
  have HF : Hid (∀ k x, -600000000000000 ≤ cntZ 1 f l k x ∧ cntZ 1 f l k x ≤ 600000000000000) := Lib.hid fun k x => cntZ_bound (by omega) hlm hil hf x
  have HX := Lib.hid hexit
  have hc0 := cntZ_zero 1 f l
  have H0 : Hid (Blk w0 q 43 (arrF 256 (cntF (cntZ 1 f l 0)))) := Lib.hid (by rw [hc0]; exact h0)
  have HB := Lib.hid hb0
  clear hlr hlm hexit h0 hb0 hf hc0
  conv => arg 2; arg 1; whnf
  go_loopw [19] (fun iv wr => ∃ k : Nat, k ≤ m ∧ iv = .int .i64 k ∧ Hid (Blk wr q 43 (arrF 256 (cntF (cntZ 1 f l k)))) ∧ Hid (Below q W wr)) (fun iv _ => m - (intOf iv).toNat)
  case atStart => exact ⟨0, by omega, rfl, H0, HB⟩
  case round =>
    obtain ⟨k, hk, rfl, hb, hbe⟩ := hrel
    by_cases hlt : k < m
    · obtain ⟨x, hx⟩ : ∃ x, l[k]? = some x := ⟨_, List.getElem?_eq_getElem (by rw [HL.out]; exact hlt)⟩
      obtain ⟨ad, u, rfl, hadl, hu, hcell⟩ := (HR.out.below hbe.out).at_ (k := k) hlt
      obtain rfl : u = .int .u8 (x.toNat : Int) := by
        simp only [bytesC, List.getElem?_map, hx, Option.map_some] at hu
        exact (Option.some.inj hu).symm
      have hcl : x.toNat < 256 := x.toNat_lt
      obtain ⟨v, hv⟩ : ∃ v, cntZ 1 f l k x = v := ⟨_, rfl⟩
      have hvb : -600000000000000 ≤ v ∧ v ≤ 600000000000000 := by rw [← hv]; exact HF.out k x
      have m1 : wr.cell? ⟨q, x.toNat, none⟩ = some (.int .i64 v) := by rw [← hv]; exact (hb.out.cell _).trans (cnt_get _ x)
      have m2 : wr.frozen? ⟨q, x.toNat, none⟩ = false := hb.out.frozen _
      have m3 := hb.out.lt
      have HS := Lib.hid (cntZ_set (z := 1) (f := f) hx)
      rw [hv] at HS
      clear hu hx hv
      go_wp2_with fail
      exact ⟨⟨k + 1, by omega, by go_num, Lib.hid (by rw [← HS.out]; exact hb.out.set_ _ _), Lib.hid (hbe.out.setCell (p := ⟨q, _, none⟩) (Nat.le_refl _) _)⟩, by simp [intOf]; omega⟩
    · obtain rfl : k = m := by omega
      go_wp2_with fail
      exact HX.out _ _ _ _ _ _ _ _ _ _ _ _ _ _ _ wr hb.out hbe.out

set_option maxRecDepth 100000 in
set_option maxHeartbeats 4000000 in
theorem apart_l2 (W w0 : World) (q m b : Nat) (IA : Option Addr) (ic : Nat) (l : List UInt8) (hlm : l.length = m) (hil : m ≤ 140737488355000) (hlr : Reads W q 1 IA m (bytesC l)) (hy : W.cell? ⟨b, 0, none⟩ = some (.slice IA m ic)) (hbq : b < q) (f : UInt8 → Int) (hf : ∀ x, -400000000000000 ≤ f x ∧ f x ≤ 400000000000000) (h0 : Blk w0 q 43 (arrF 256 (cntF f))) (hb0 : Below q W w0)
    {c0 c1 c2 c3 c4 c5 c6 c7 c8 c9 c11 c12 c13 c14 c15 c16 c17 c19 c21 c22 c23 c24 c25 c26 c27 c28 c29 c30 c31 c32 c33 c34 c35 c36 c37 c38 c39 c40 c41 c42 c43 c44 c45 c46 c47 c48 c49 c50 c51 c52 c53 c54 c55 c56 c57 c58 c59 c60 c61 c62 c63 c64 c65 c66 c67 c68 c69 c70 c71 c72 c73 c74 c75 c76 c77 c78 c79 c80 c81 c82 c83 c84 c85 c86 c87 c88 c89 c90 c91 c92 c93 c94 c95 c96 c97 c98 c99 c100 c101 c102 c103 c104 c105 c106 c107 c108 c109 c110 c111 c112 c113 c114 c115 c116 c117 c118 c119 c120 c121 c122 c123 c124 c125 c126 c127 c128 c129 c130 c131 c132 c133 c134 c135 c136 c137 c138 c139 c140 c141 c142 c143 c144 c145 c146 c147 c148 c149 c150 c151 c152 c153 c154 c155 c156 c157 c158 : Value} {Q0 : Exit → Act → World → Prop}
    (hexit : ∀ (u117 u118 u119 u120 u121 u122 u123 u124 u125 u126 u127 u128 u129 u130 u131 u132 u133 : Value) (w1 : World), Blk w1 q 43 (arrF 256 (cntF (cntZ (-1) f l m))) → Below q W w1 → Q0 (.exit 2) ⟨#[c0, c1, c2, c3, c4, c5, c6, c7, c8, c9, .pointer (some ⟨b, 0, none⟩), c11, c12, c13, c14, c15, c16, c17, .pointer (some ⟨q, 0, none⟩), c19, .int .i64 m, c21, c22, c23, c24, c25, c26, c27, c28, c29, c30, c31, c32, c33, c34, c35, c36, c37, c38, c39, c40, c41, c42, c43, c44, c45, c46, c47, c48, c49, c50, c51, c52, c53, c54, c55, c56, c57, c58, c59, c60, c61, c62, c63, c64, c65, c66, c67, c68, c69, c70, c71, c72, c73, c74, c75, c76, c77, c78, c79, c80, c81, c82, c83, c84, c85, c86, c87, c88, c89, c90, c91, c92, c93, c94, c95, c96, c97, c98, c99, c100, c101, c102, c103, c104, c105, c106, c107, c108, c109, c110, c111, c112, c113, c114, c115, c116, u117, u118, u119, u120, u121, u122, u123, u124, u125, u126, u127, u128, u129, u130, u131, u132, u133, c134, c135, c136, c137, c138, c139, c140, c141, c142, c143, c144, c145, c146, c147, c148, c149, c150, c151, c152, c153, c154, c155, c156, c157, c158], []⟩ w1) :
    Code.wp Tryz.prog (Code.loop (apartLoop 1)) Q0 ⟨#[c0, c1, c2, c3, c4, c5, c6, c7, c8, c9, .pointer (some ⟨b, 0, none⟩), c11, c12, c13, c14, c15, c16, c17, .pointer (some ⟨q, 0, none⟩), c19, .int .i64 0, c21, c22, c23, c24, c25, c26, c27, c28, c29, c30, c31, c32, c33, c34, c35, c36, c37, c38, c39, c40, c41, c42, c43, c44, c45, c46, c47, c48, c49, c50, c51, c52, c53, c54, c55, c56, c57, c58, c59, c60, c61, c62, c63, c64, c65, c66, c67, c68, c69, c70, c71, c72, c73, c74, c75, c76, c77, c78, c79, c80, c81, c82, c83, c84, c85, c86, c87, c88, c89, c90, c91, c92, c93, c94, c95, c96, c97, c98, c99, c100, c101, c102, c103, c104, c105, c106, c107, c108, c109, c110, c111, c112, c113, c114, c115, c116, c117, c118, c119, c120, c121, c122, c123, c124, c125, c126, c127, c128, c129, c130, c131, c132, c133, c134, c135, c136, c137, c138, c139, c140, c141, c142, c143, c144, c145, c146, c147, c148, c149, c150, c151, c152, c153, c154, c155, c156, c157, c158], []⟩ w0 := by
  dsimp only at hexit ⊢
  have HR := Lib.hid hlr
  have HL := Lib.hid hlm
  have HF : Hid (∀ k x, -600000000000000 ≤ cntZ (-1) f l k x ∧ cntZ (-1) f l k x ≤ 600000000000000) := Lib.hid fun k x => cntZ_bound (by omega) hlm hil hf x
  have HX := Lib.hid hexit
  have hc0 := cntZ_zero (-1) f l
  have H0 : Hid (Blk w0 q 43 (arrF 256 (cntF (cntZ (-1) f l 0)))) := Lib.hid (by rw [hc0]; exact h0)
  have HB := Lib.hid hb0
  have HY := Lib.hid hy
  clear hlr hlm hexit h0 hb0 hf hc0 hy
  conv => arg 2; arg 1; whnf
  go_loopw [20] (fun iv wr => ∃ k : Nat, k ≤ m ∧ iv = .int .i64 k ∧ Hid (Blk wr q 43 (arrF 256 (cntF (cntZ (-1) f l k)))) ∧ Hid (Below q W wr)) (fun iv _ => m - (intOf iv).toNat)
  case atStart => exact ⟨0, by omega, rfl, H0, HB⟩
  case round =>
    obtain ⟨k, hk, rfl, hb, hbe⟩ := hrel
    have y0 : wr.cell? ⟨b, 0, none⟩ = some (.slice IA m ic) := (hbe.out.cell (p := ⟨b, 0, none⟩) hbq).trans HY.out
    have yl : b < wr.heap.size := Nat.lt_of_lt_of_le hbq (by have := hb.out.lt; omega)
    by_cases hlt : k < m
    · obtain ⟨x, hx⟩ : ∃ x, l[k]? = some x := ⟨_, List.getElem?_eq_getElem (by rw [HL.out]; exact hlt)⟩
      obtain ⟨ad, u, rfl, hadl, hu, hcell⟩ := (HR.out.below hbe.out).at_ (k := k) hlt
      obtain rfl : u = .int .u8 (x.toNat : Int) := by
        simp only [bytesC, List.getElem?_map, hx, Option.map_some] at hu
        exact (Option.some.inj hu).symm
      have hcl : x.toNat < 256 := x.toNat_lt
      obtain ⟨v, hv⟩ : ∃ v, cntZ (-1) f l k x = v := ⟨_, rfl⟩
      have hvb : -600000000000000 ≤ v ∧ v ≤ 600000000000000 := by rw [← hv]; exact HF.out k x
      have m1 : wr.cell? ⟨q, x.toNat, none⟩ = some (.int .i64 v) := by rw [← hv]; exact (hb.out.cell _).trans (cnt_get _ x)
      have m2 : wr.frozen? ⟨q, x.toNat, none⟩ = false := hb.out.frozen _
      have m3 := hb.out.lt
      have HS := Lib.hid (cntZ_set (z := (-1)) (f := f) hx)
      rw [hv] at HS
      clear hu hx hv
      go_wp2_with fail
      exact ⟨⟨k + 1, by omega, by go_num, Lib.hid (by rw [← HS.out]; exact hb.out.set_ _ _), Lib.hid (hbe.out.setCell (p := ⟨q, _, none⟩) (Nat.le_refl _) _)⟩, by simp [intOf]; omega⟩
    · obtain rfl : k = m := by omega
      go_wp2_with fail
      exact HX.out _ _ _ _ _ _ _ _ _ _ _ _ _ _ _ _ _ wr hb.out hbe.out

set_option maxRecDepth 100000 in
set_option maxHeartbeats 4000000 in
theorem apart_l3 (W w0 : World) (q m b : Nat) (IA : Option Addr) (ic : Nat) (l : List UInt8) (hlm : l.length = m) (hil : m ≤ 140737488355000) (hlr : Reads W q 1 IA m (bytesC l)) (hy : W.cell? ⟨b, 0, none⟩ = some (.slice IA m ic)) (hbq : b < q) (f : UInt8 → Int) (hf : ∀ x, -400000000000000 ≤ f x ∧ f x ≤ 400000000000000) (h0 : Blk w0 q 43 (arrF 256 (cntF f))) (hb0 : Below q W w0)
    {c0 c1 c2 c3 c4 c5 c6 c7 c8 c9 c10 c11 c13 c14 c15 c16 c17 c19 c20 c22 c23 c24 c25 c26 c27 c28 c29 c30 c31 c32 c33 c34 c35 c36 c37 c38 c39 c40 c41 c42 c43 c44 c45 c46 c47 c48 c49 c50 c51 c52 c53 c54 c55 c56 c57 c58 c59 c60 c61 c62 c63 c64 c65 c66 c67 c68 c69 c70 c71 c72 c73 c74 c75 c76 c77 c78 c79 c80 c81 c82 c83 c84 c85 c86 c87 c88 c89 c90 c91 c92 c93 c94 c95 c96 c97 c98 c99 c100 c101 c102 c103 c104 c105 c106 c107 c108 c109 c110 c111 c112 c113 c114 c115 c116 c117 c118 c119 c120 c121 c122 c123 c124 c125 c126 c127 c128 c129 c130 c131 c132 c133 c134 c135 c136 c137 c138 c139 c140 c141 c142 c143 c144 c145 c146 c147 c148 c149 c150 c151 c152 c153 c154 c155 c156 c157 c158 : Value} {Q0 : Exit → Act → World → Prop}
    (hexit : ∀ (u134 u135 u136 u137 u138 u139 u140 u141 u142 u143 u144 u145 u146 u147 u148 u149 u150 : Value) (w1 : World), Blk w1 q 43 (arrF 256 (cntF (cntZ (-1) f l m))) → Below q W w1 → Q0 (.exit 4) ⟨#[c0, c1, c2, c3, c4, c5, c6, c7, c8, c9, c10, c11, .pointer (some ⟨b, 0, none⟩), c13, c14, c15, c16, c17, .pointer (some ⟨q, 0, none⟩), c19, c20, .int .i64 m, c22, c23, c24, c25, c26, c27, c28, c29, c30, c31, c32, c33, c34, c35, c36, c37, c38, c39, c40, c41, c42, c43, c44, c45, c46, c47, c48, c49, c50, c51, c52, c53, c54, c55, c56, c57, c58, c59, c60, c61, c62, c63, c64, c65, c66, c67, c68, c69, c70, c71, c72, c73, c74, c75, c76, c77, c78, c79, c80, c81, c82, c83, c84, c85, c86, c87, c88, c89, c90, c91, c92, c93, c94, c95, c96, c97, c98, c99, c100, c101, c102, c103, c104, c105, c106, c107, c108, c109, c110, c111, c112, c113, c114, c115, c116, c117, c118, c119, c120, c121, c122, c123, c124, c125, c126, c127, c128, c129, c130, c131, c132, c133, u134, u135, u136, u137, u138, u139, u140, u141, u142, u143, u144, u145, u146, u147, u148, u149, u150, c151, c152, c153, c154, c155, c156, c157, c158], []⟩ w1) :
    Code.wp Tryz.prog (Code.loop (apartLoop 2)) Q0 ⟨#[c0, c1, c2, c3, c4, c5, c6, c7, c8, c9, c10, c11, .pointer (some ⟨b, 0, none⟩), c13, c14, c15, c16, c17, .pointer (some ⟨q, 0, none⟩), c19, c20, .int .i64 0, c22, c23, c24, c25, c26, c27, c28, c29, c30, c31, c32, c33, c34, c35, c36, c37, c38, c39, c40, c41, c42, c43, c44, c45, c46, c47, c48, c49, c50, c51, c52, c53, c54, c55, c56, c57, c58, c59, c60, c61, c62, c63, c64, c65, c66, c67, c68, c69, c70, c71, c72, c73, c74, c75, c76, c77, c78, c79, c80, c81, c82, c83, c84, c85, c86, c87, c88, c89, c90, c91, c92, c93, c94, c95, c96, c97, c98, c99, c100, c101, c102, c103, c104, c105, c106, c107, c108, c109, c110, c111, c112, c113, c114, c115, c116, c117, c118, c119, c120, c121, c122, c123, c124, c125, c126, c127, c128, c129, c130, c131, c132, c133, c134, c135, c136, c137, c138, c139, c140, c141, c142, c143, c144, c145, c146, c147, c148, c149, c150, c151, c152, c153, c154, c155, c156, c157, c158], []⟩ w0 := by
  dsimp only at hexit ⊢
  have HR := Lib.hid hlr
  have HL := Lib.hid hlm
  have HF : Hid (∀ k x, -600000000000000 ≤ cntZ (-1) f l k x ∧ cntZ (-1) f l k x ≤ 600000000000000) := Lib.hid fun k x => cntZ_bound (by omega) hlm hil hf x
  have HX := Lib.hid hexit
  have hc0 := cntZ_zero (-1) f l
  have H0 : Hid (Blk w0 q 43 (arrF 256 (cntF (cntZ (-1) f l 0)))) := Lib.hid (by rw [hc0]; exact h0)
  have HB := Lib.hid hb0
  have HY := Lib.hid hy
  clear hlr hlm hexit h0 hb0 hf hc0 hy
  conv => arg 2; arg 1; whnf
  go_loopw [21] (fun iv wr => ∃ k : Nat, k ≤ m ∧ iv = .int .i64 k ∧ Hid (Blk wr q 43 (arrF 256 (cntF (cntZ (-1) f l k)))) ∧ Hid (Below q W wr)) (fun iv _ => m - (intOf iv).toNat)
  case atStart => exact ⟨0, by omega, rfl, H0, HB⟩
  case round =>
    obtain ⟨k, hk, rfl, hb, hbe⟩ := hrel
    have y0 : wr.cell? ⟨b, 0, none⟩ = some (.slice IA m ic) := (hbe.out.cell (p := ⟨b, 0, none⟩) hbq).trans HY.out
    have yl : b < wr.heap.size := Nat.lt_of_lt_of_le hbq (by have := hb.out.lt; omega)
    by_cases hlt : k < m
    · obtain ⟨x, hx⟩ : ∃ x, l[k]? = some x := ⟨_, List.getElem?_eq_getElem (by rw [HL.out]; exact hlt)⟩
      obtain ⟨ad, u, rfl, hadl, hu, hcell⟩ := (HR.out.below hbe.out).at_ (k := k) hlt
      obtain rfl : u = .int .u8 (x.toNat : Int) := by
        simp only [bytesC, List.getElem?_map, hx, Option.map_some] at hu
        exact (Option.some.inj hu).symm
      have hcl : x.toNat < 256 := x.toNat_lt
      obtain ⟨v, hv⟩ : ∃ v, cntZ (-1) f l k x = v := ⟨_, rfl⟩
      have hvb : -600000000000000 ≤ v ∧ v ≤ 600000000000000 := by rw [← hv]; exact HF.out k x
      have m1 : wr.cell? ⟨q, x.toNat, none⟩ = some (.int .i64 v) := by rw [← hv]; exact (hb.out.cell _).trans (cnt_get _ x)
      have m2 : wr.frozen? ⟨q, x.toNat, none⟩ = false := hb.out.frozen _
      have m3 := hb.out.lt
      have HS := Lib.hid (cntZ_set (z := (-1)) (f := f) hx)
      rw [hv] at HS
      clear hu hx hv
      go_wp2_with fail
      exact ⟨⟨k + 1, by omega, by go_num, Lib.hid (by rw [← HS.out]; exact hb.out.set_ _ _), Lib.hid (hbe.out.setCell (p := ⟨q, _, none⟩) (Nat.le_refl _) _)⟩, by simp [intOf]; omega⟩
    · obtain rfl : k = m := by omega
      go_wp2_with fail
      exact HX.out _ _ _ _ _ _ _ _ _ _ _ _ _ _ _ _ _ wr hb.out hbe.out

set_option maxRecDepth 100000 in
set_option maxHeartbeats 4000000 in
theorem apart_l4 (w0 : World) (q : Nat) (h0 : Blk w0 q 43 (arrF 256 (cntF fun _ => 0)))
    {c0 c1 c2 c3 c4 c5 c6 c7 c8 c9 c10 c11 c12 c13 c14 c15 c16 c17 c19 c20 c21 c23 c24 c25 c26 c27 c28 c29 c30 c31 c32 c33 c34 c35 c36 c37 c38 c39 c40 c41 c42 c43 c44 c45 c46 c47 c48 c49 c50 c51 c52 c53 c54 c55 c56 c57 c58 c59 c60 c61 c62 c63 c64 c65 c66 c67 c68 c69 c70 c71 c72 c73 c74 c75 c76 c77 c78 c79 c80 c81 c82 c83 c84 c85 c86 c87 c88 c89 c90 c91 c92 c93 c94 c95 c96 c97 c98 c99 c100 c101 c102 c103 c104 c105 c106 c107 c108 c109 c110 c111 c112 c113 c114 c115 c116 c117 c118 c119 c120 c121 c122 c123 c124 c125 c126 c127 c128 c129 c130 c131 c132 c133 c134 c135 c136 c137 c138 c139 c140 c141 c142 c143 c144 c145 c146 c147 c148 c149 c150 c151 c152 c153 c154 c155 c156 c157 c158 : Value} {Q0 : Exit → Act → World → Prop}
    (hexit : ∀ (u6 u151 u152 u153 u154 u155 u156 u157 u158 : Value), Q0 (.exit 6) ⟨#[c0, c1, c2, c3, c4, c5, u6, c7, c8, c9, c10, c11, c12, c13, c14, c15, c16, c17, .pointer (some ⟨q, 0, none⟩), c19, c20, c21, .int .i64 256, c23, c24, c25, c26, c27, c28, c29, c30, c31, c32, c33, c34, c35, c36, c37, c38, c39, c40, c41, c42, c43, c44, c45, c46, c47, c48, c49, c50, c51, c52, c53, c54, c55, c56, c57, c58, c59, c60, c61, c62, c63, c64, c65, c66, c67, c68, c69, c70, c71, c72, c73, c74, c75, c76, c77, c78, c79, c80, c81, c82, c83, c84, c85, c86, c87, c88, c89, c90, c91, c92, c93, c94, c95, c96, c97, c98, c99, c100, c101, c102, c103, c104, c105, c106, c107, c108, c109, c110, c111, c112, c113, c114, c115, c116, c117, c118, c119, c120, c121, c122, c123, c124, c125, c126, c127, c128, c129, c130, c131, c132, c133, c134, c135, c136, c137, c138, c139, c140, c141, c142, c143, c144, c145, c146, c147, c148, c149, c150, u151, u152, u153, u154, u155, u156, u157, u158], []⟩ w0) :
    Code.wp Tryz.prog (Code.loop (apartLoop 3)) Q0 ⟨#[c0, c1, c2, c3, c4, c5, c6, c7, c8, c9, c10, c11, c12, c13, c14, c15, c16, c17, .pointer (some ⟨q, 0, none⟩), c19, c20, c21, .int .i64 0, c23, c24, c25, c26, c27, c28, c29, c30, c31, c32, c33, c34, c35, c36, c37, c38, c39, c40, c41, c42, c43, c44, c45, c46, c47, c48, c49, c50, c51, c52, c53, c54, c55, c56, c57, c58, c59, c60, c61, c62, c63, c64, c65, c66, c67, c68, c69, c70, c71, c72, c73, c74, c75, c76, c77, c78, c79, c80, c81, c82, c83, c84, c85, c86, c87, c88, c89, c90, c91, c92, c93, c94, c95, c96, c97, c98, c99, c100, c101, c102, c103, c104, c105, c106, c107, c108, c109, c110, c111, c112, c113, c114, c115, c116, c117, c118, c119, c120, c121, c122, c123, c124, c125, c126, c127, c128, c129, c130, c131, c132, c133, c134, c135, c136, c137, c138, c139, c140, c141, c142, c143, c144, c145, c146, c147, c148, c149, c150, c151, c152, c153, c154, c155, c156, c157, c158], []⟩ w0 := by
  dsimp only at hexit ⊢
  have HX := Lib.hid hexit
  have H0 := Lib.hid h0
  clear hexit h0
  conv => arg 2; arg 1; whnf
  go_loopw [22] (fun iv wr => ∃ k : Nat, k ≤ 256 ∧ iv = .int .i64 k ∧ Hid (wr = w0)) (fun iv _ => 256 - (intOf iv).toNat)
  case atStart => exact ⟨0, by omega, rfl, Lib.hid rfl⟩
  case round =>
    obtain ⟨k, hk, rfl, hw⟩ := hrel
    obtain rfl := hw.out
    have m3 := H0.out.lt
    by_cases hlt : k < 256
    · have m1 : wr.cell? ⟨q, k, none⟩ = some (.int .i64 0) := (H0.out.cell _).trans (arrF_get _ hlt)
      go_wp2_with fail
      exact ⟨⟨k + 1, by omega, by go_num, Lib.hid trivial⟩, by simp [intOf]; omega⟩
    · obtain rfl : k = 256 := by omega
      go_wp2_with fail
      exact HX.out _ _ _ _ _ _ _ _ _

end Go.Proofs.YtlhiadnolckoeaaGreatDoor
end

section
namespace Go.Proofs.YtlhiadnolckoeaaGreatDoor
open Go.RowKit Go.Maps

noncomputable def backLoop (k : Nat) : Code := (Tryz.f4.body.bind (fun c => (loopsOf c)[k]?)).getD .skip

set_option maxRecDepth 100000 in
set_option maxHeartbeats 8000000 in
theorem back_loop (W w0 : World) (q m : Nat) (IA : Option Addr) (ic : Nat) (inb : List UInt8) (him : inb.length = m) (hil : m ≤ 140737488355000) (hir : Reads W q 1 IA m (bytesC inb)) (hqs : W.heap.size = q) (k : Nat) (hk1 : 1 ≤ k) (hk2 : k ≤ 256) (ad ae : Addr) (c e : Nat) (x y : List UInt8) (hx : x.length = k) (hy : y.length = k) (hnx : x.Nodup) (hny : y.Nodup) (hrx : Reads W q 1 (some ad) k (bytesC x)) (hry : Reads W q 1 (some ae) k (bytesC y)) (hb0 : Below q W w0)
    {c1 c2 c3 c4 c5 c6 c7 c8 c12 c14 c15 c16 c17 c18 c19 c20 c21 c22 c23 c24 c25 c26 c27 c28 c29 c30 c31 c32 c33 c34 c35 c36 c37 c38 c39 c40 c41 c42 c43 c44 c45 c46 c47 c48 c49 c50 c51 c52 c53 c54 c55 c56 c57 c58 c59 c60 c61 c62 c63 c64 c65 c66 c67 c68 c69 c70 c71 c72 c73 c74 c75 c76 c77 c78 c79 c80 c81 c82 c83 c84 c85 c86 c87 c88 c89 c90 c91 c92 c93 c94 c95 c96 c97 c98 c99 c100 c101 c102 c103 c104 c105 c106 c107 c108 c109 c110 c111 c112 c113 c114 c115 c116 c117 c118 : Value} {Q0 : Exit → Act → World → Prop}
    (hexit : ∀ (u8 u14 u15 u43 u44 u45 u46 u47 u48 u49 u50 u51 u52 u53 u54 u55 u56 u57 u58 u59 u60 u61 u62 u63 u64 u65 u66 u67 u68 u69 u70 u71 u72 u73 u74 u75 u76 u77 u78 u79 u80 : Value) (w1 : World), (∀ b ∈ inb, b ∈ y → b ∈ x) → Below q W w1 → Q0 (.exit 0) ⟨#[.slice IA m ic, c1, c2, c3, c4, c5, c6, c7, u8, .bool true, .slice (some ad) k c, .slice (some ae) k e, c12, .int .i64 m, u14, u15, c16, c17, c18, c19, c20, c21, c22, c23, c24, c25, c26, c27, c28, c29, c30, c31, c32, c33, c34, c35, c36, c37, c38, c39, c40, c41, c42, u43, u44, u45, u46, u47, u48, u49, u50, u51, u52, u53, u54, u55, u56, u57, u58, u59, u60, u61, u62, u63, u64, u65, u66, u67, u68, u69, u70, u71, u72, u73, u74, u75, u76, u77, u78, u79, u80, c81, c82, c83, c84, c85, c86, c87, c88, c89, c90, c91, c92, c93, c94, c95, c96, c97, c98, c99, c100, c101, c102, c103, c104, c105, c106, c107, c108, c109, c110, c111, c112, c113, c114, c115, c116, c117, c118], []⟩ w1)
    (hret : ∀ (u13 u14 u15 u43 u44 u45 u46 u47 u48 u49 u50 u51 u52 u53 u54 u55 u56 u57 u58 u59 u60 u61 u62 u63 u64 u65 u66 u67 u68 u69 u70 u71 u72 u73 u74 u75 u76 u77 u78 u79 u80 : Value) (w1 : World), Below q W w1 → Q0 .ret ⟨#[.slice IA m ic, c1, c2, c3, c4, c5, c6, c7, .bool true, .bool true, .slice (some ad) k c, .slice (some ae) k e, c12, u13, u14, u15, c16, c17, c18, c19, c20, c21, c22, c23, c24, c25, c26, c27, c28, c29, c30, c31, c32, c33, c34, c35, c36, c37, c38, c39, c40, c41, c42, u43, u44, u45, u46, u47, u48, u49, u50, u51, u52, u53, u54, u55, u56, u57, u58, u59, u60, u61, u62, u63, u64, u65, u66, u67, u68, u69, u70, u71, u72, u73, u74, u75, u76, u77, u78, u79, u80, c81, c82, c83, c84, c85, c86, c87, c88, c89, c90, c91, c92, c93, c94, c95, c96, c97, c98, c99, c100, c101, c102, c103, c104, c105, c106, c107, c108, c109, c110, c111, c112, c113, c114, c115, c116, c117, c118], []⟩ w1) :
    Code.wp Tryz.prog (Code.loop (backLoop 0)) Q0 ⟨#[.slice IA m ic, c1, c2, c3, c4, c5, c6, c7, c8, .bool true, .slice (some ad) k c, .slice (some ae) k e, c12, .int .i64 0, c14, c15, c16, c17, c18, c19, c20, c21, c22, c23, c24, c25, c26, c27, c28, c29, c30, c31, c32, c33, c34, c35, c36, c37, c38, c39, c40, c41, c42, c43, c44, c45, c46, c47, c48, c49, c50, c51, c52, c53, c54, c55, c56, c57, c58, c59, c60, c61, c62, c63, c64, c65, c66, c67, c68, c69, c70, c71, c72, c73, c74, c75, c76, c77, c78, c79, c80, c81, c82, c83, c84, c85, c86, c87, c88, c89, c90, c91, c92, c93, c94, c95, c96, c97, c98, c99, c100, c101, c102, c103, c104, c105, c106, c107, c108, c109, c110, c111, c112, c113, c114, c115, c116, c117, c118], []⟩ w0 := by
  dsimp only at hexit hret ⊢
  obtain ⟨ad', e1, had, hxc⟩ := hrx.2 (by omega)
  cases e1
  obtain ⟨ae', e2, hae, hyc⟩ := hry.2 (by omega)
  cases e2
  have hgx : ∀ V, Below q W V → ad.block < V.heap.size ∧ (∀ j u, (bytesC x)[j]? = some u → V.cell? (ad.add j) = some u) := fun V hV => ⟨Nat.lt_of_lt_of_le had (by rw [← hqs]; exact hV.size), fun j u hu => (hV.cell (by rw [block_of_add]; exact had)).trans (hxc j u hu)⟩
  have hgy : ∀ V, Below q W V → ae.block < V.heap.size ∧ (∀ j u, (bytesC y)[j]? = some u → V.cell? (ae.add j) = some u) := fun V hV => ⟨Nat.lt_of_lt_of_le hae (by rw [← hqs]; exact hV.size), fun j u hu => (hV.cell (by rw [block_of_add]; exact hae)).trans (hyc j u hu)⟩
  have hgi : ∀ V, Below q W V → Reads V V.heap.size 1 IA m (bytesC inb) := fun V hV => (hir.below hV).more (by rw [← hqs]; exact hV.size)
  have HGX := Lib.hid hgx
  have HGY := Lib.hid hgy
  have HGI := Lib.hid hgi
  have HL := Lib.hid him
  have HLX := Lib.hid hx
  have HLY := Lib.hid hy
  have HX := Lib.hid hexit
  have HT := Lib.hid hret
  have HB := Lib.hid hb0
  have HQ := Lib.hid hqs
  clear hgx hgy hgi him hx hy hexit hret hb0 hir hrx hry had hxc hae hyc hqs
  conv => arg 2; arg 1; whnf
  go_loopw [13] (fun iv wr => ∃ i : Nat, i ≤ m ∧ iv = .int .i64 i ∧ Hid (∀ b ∈ inb.take i, b ∈ y → b ∈ x) ∧ Hid (Below q W wr)) (fun iv _ => m - (intOf iv).toNat)
  case atStart => exact ⟨0, by omega, rfl, Lib.hid (by simp), HB⟩
  case round =>
    obtain ⟨i, hi, rfl, hall, hbe⟩ := hrel
    by_cases hlt : i < m
    · obtain ⟨b, hb⟩ : ∃ b, inb[i]? = some b := ⟨_, List.getElem?_eq_getElem (by rw [HL.out]; exact hlt)⟩
      obtain ⟨xl, xc⟩ := HGX.out wr hbe.out
      have ri := HGI.out wr hbe.out
      go_wp2_with fail
      refine back_r11 wr ad c k x HLX.out hk1 hk2 hnx xl xc IA ic m inb ri i hlt b hb ?_
      intro x49 x50 x51 x52 x53 x54 x55 x56 x57 x58 x59 x60 x61 w1 hb1
      have hbe1 : Below q W w1 := hbe.out.trans (hb1.mono (by rw [← HQ.out]; exact hbe.out.size))
      obtain ⟨yl, yc⟩ := HGY.out w1 hbe1
      have ri1 := HGI.out w1 hbe1
      have HBE := Lib.hid hbe1
      have HB1 := Lib.hid hb
      obtain ⟨p, hp⟩ : ∃ p, decide (b ∈ x) = p := ⟨_, rfl⟩
      rw [hp]
      clear xl xc ri hb1 hbe1
      go_wp2_with fail
      refine back_r12 w1 ae e k y HLY.out hk1 hk2 hny yl yc IA ic m inb ri1 i hlt b hb ?_
      intro y62 y63 y64 y65 y66 y67 y68 y69 y70 y71 y72 y73 y74 w2 hb2
      have HBE2 : Hid (Below q W w2) := Lib.hid (HBE.out.trans (hb2.mono (by rw [← HQ.out]; exact HBE.out.size)))
      obtain ⟨r, hr⟩ : ∃ r, decide (b ∈ y) = r := ⟨_, rfl⟩
      rw [hr]
      clear yl yc ri1 hb2 hb
      have HSTEP : Hid ((r = true → p = true) → ∀ z ∈ inb.take (i + 1), z ∈ y → z ∈ x) := Lib.hid (by
        intro hrp z hz hzy
        rw [List.take_add_one, HB1.out] at hz
        rcases List.mem_append.1 hz with h | h
        · exact hall.out z h hzy
        · simp at h
          subst h
          exact of_decide_eq_true (hp.trans (hrp (by rw [← hr]; exact decide_eq_true hzy))))
      clear hp hr
      cases r
      · go_wp2_with fail
        exact ⟨⟨i + 1, by omega, by go_num, Lib.hid (HSTEP.out (by simp)), HBE2⟩, by simp [intOf]; omega⟩
      · cases p
        · go_wp2_with fail
          exact HT.out _ _ _ _ _ _ _ _ _ _ _ _ _ _ _ _ _ _ _ _ _ _ _ _ _ _ _ _ _ _ _ _ _ _ _ _ _ _ _ _ _ w2 HBE2.out
        · go_wp2_with fail
          exact ⟨⟨i + 1, by omega, by go_num, Lib.hid (HSTEP.out (by simp)), HBE2⟩, by simp [intOf]; omega⟩
    · obtain rfl : i = m := by omega
      go_wp2_with fail
      exact HX.out _ _ _ _ _ _ _ _ _ _ _ _ _ _ _ _ _ _ _ _ _ _ _ _ _ _ _ _ _ _ _ _ _ _ _ _ _ _ _ _ _ wr (by have := hall.out; rwa [← HL.out, List.take_length] at this) hbe.out

end Go.Proofs.YtlhiadnolckoeaaGreatDoor
end

section
namespace Go.Proofs.YtlhiadnolckoeaaGreatDoor
open Go.RowKit Go.Maps
attribute [local go_sem ↓ high] storeHere_eq

def resZ1 : Array Value := #[.slice none 0 0, .slice none 0 0, .int .i64 0, .slice none 0 0, .int .i64 0, .int .i64 0, .int .i64 0]
theorem tr_stored {q R n : Nat} {w V w3 : World} {O : List UInt8} {ov ev : Value} (sp pk : Int) (hb : Below q w V) (hqV : q ≤ V.heap.size) (hz : Blk V R 38 resZ1) (hR : q ≤ R) (hn : O.length = n) (ho : w3.ownsRow V.heap.size 5 1 ov n (bytesC O)) (he : w3.ownsRow V.heap.size 5 1 ev 0 []) (hb3 : Below V.heap.size V w3) :
    ∃ A cap E d w5, ov = .slice A n cap ∧ ev = .slice E 0 d ∧ (storeHere 38 (.pointer (some ⟨R, 0, none⟩)) (.agg #[.slice A n cap, .slice E 0 d, .int .i64 0, .slice none 0 0, .int .i64 sp, .int .i64 pk, .int .i64 0])).run Tryz.prog w3 = .ok () w5 ∧ Below q w w3 ∧ Below q w w5 ∧ w5.cell? ⟨R, 0, none⟩ = some (.slice A n cap) ∧ R < w5.heap.size ∧ Bytes w5 w5.heap.size (.slice A n cap) O := by
  have b3 : Below q w w3 := hb.trans (hb3.mono hqV)
  obtain ⟨A, cap, rfl, _⟩ := own_bytes hn ho
  obtain ⟨E, d, rfl, _⟩ := own_slice he
  have z3 := Blk.on hz hb3
  obtain ⟨w5, h1, h2, h3⟩ := run_storeHere (P := Tryz.prog) 38 #[.slice A n cap, .slice E 0 d, .int .i64 0, .slice none 0 0, .int .i64 sp, .int .i64 pk, .int .i64 0] z3 (by rfl) (by kernel_rfl) (by kernel_rfl)
  have hRV := hz.lt
  have ho5 := ownsRow_same ho fun j hj => h3.block j (ho.lt j hj).2 (by intro e; cases e; have := (ho.lt _ hj).1; omega)
  obtain ⟨A', cap', e5, hby5⟩ := own_bytes hn ho5
  cases e5
  exact ⟨A, cap, E, d, w5, rfl, rfl, h1, b3, b3.grown h3 (Nat.le_trans hqV hb3.size) (fun j hj => by cases hj; exact hR), h2.cell 0, h2.lt, hby5⟩
theorem tr_stored_last {q n : Nat} {w V w3 : World} {O : List UInt8} {ov ev : Value} (sp pk : Int) (hb : Below q w V) (hqV : q ≤ V.heap.size) (hn : O.length = n) (ho : w3.ownsRow V.heap.size 5 1 ov n (bytesC O)) (he : w3.ownsRow V.heap.size 5 1 ev 0 []) (hb3 : Below V.heap.size V w3) :
    ∃ A cap E d w5, ov = .slice A n cap ∧ ev = .slice E 0 d ∧ (storeHere 38 (.pointer (some ⟨w3.heap.size, 0, none⟩)) (.agg #[.slice A n cap, .slice E 0 d, .int .i64 0, .slice none 0 0, .int .i64 sp, .int .i64 pk, .int .i64 0])).run Tryz.prog (w3.alloc (.cells #[.slice none 0 0, .slice none 0 0, .int .i64 0, .slice none 0 0, .int .i64 0, .int .i64 0, .int .i64 0] 38)) = .ok () w5 ∧ Below q w w3 ∧ Below q w (w3.alloc (.cells #[.slice none 0 0, .slice none 0 0, .int .i64 0, .slice none 0 0, .int .i64 0, .int .i64 0, .int .i64 0] 38)) ∧ Below q w w5 ∧ w5.cell? ⟨w3.heap.size, 0, none⟩ = some (.slice A n cap) ∧ w3.heap.size < w5.heap.size ∧ Bytes w5 w5.heap.size (.slice A n cap) O := by
  have b3 : Below q w w3 := hb.trans (hb3.mono hqV)
  have hq3 := Nat.le_trans hqV hb3.size
  obtain ⟨A, cap, rfl, hby⟩ := own_bytes hn ho
  obtain ⟨E, d, rfl, _⟩ := own_slice he
  have b4 : Below q w (w3.alloc (.cells #[.slice none 0 0, .slice none 0 0, .int .i64 0, .slice none 0 0, .int .i64 0, .int .i64 0, .int .i64 0] 38)) := b3.alloc hq3 _
  obtain ⟨w5, h1, h2, h3⟩ := run_storeHere (P := Tryz.prog) (w := w3.alloc (.cells #[.slice none 0 0, .slice none 0 0, .int .i64 0, .slice none 0 0, .int .i64 0, .int .i64 0, .int .i64 0] 38)) (g := w3.heap.size) 38 #[.slice A n cap, .slice E 0 d, .int .i64 0, .slice none 0 0, .int .i64 sp, .int .i64 pk, .int .i64 0] (Blk.new w3 38 #[.slice none 0 0, .slice none 0 0, .int .i64 0, .slice none 0 0, .int .i64 0, .int .i64 0, .int .i64 0]) (by rfl) (by kernel_rfl) (by kernel_rfl)
  have h5 : Below w3.heap.size w3 w5 := (below_one w3 _).grown h3 (by simp) (fun j hj => by cases hj; exact Nat.le_refl _)
  exact ⟨A, cap, E, d, w5, rfl, rfl, h1, b3, b4, b4.grown h3 (Nat.le_trans hq3 (by simp)) (fun j hj => by cases hj; exact hq3), h2.cell 0, h2.lt, (hby.below h5).more h5.size⟩

set_option maxRecDepth 100000 in
set_option maxHeartbeats 8000000 in
theorem back_r15 (w0 w : World) (hT : Tabs w0) (g : Nat) (buf line run : Int) (bx : LawBox g buf line run w0 w) (hg0 : w0.heap.size = g) (k : Nat) (hk2 : k ≤ 256) (ad ae : Addr) (c e : Nat) (x y : List UInt8) (hx : x.length = k) (hy : y.length = k) (hrx : Reads w w.heap.size 1 (some ad) k (bytesC x)) (hry : Reads w w.heap.size 1 (some ae) k (bytesC y)) (SX SY : ByteArray) (hSX : strB (Pl.codedL x) = SX) (hSY : strB (Pl.codedL y) = SY) (IA : Option Addr) (ic m : Nat) (inb : List UInt8) (hiv : Bytes w w.heap.size (.slice IA m ic) inb) (O : List UInt8) (n : Nat) (hn : O.length = n) (htr : ∀ V, Tabs V → TrIs [SX, SY] 2 inb m buf line run O V)
    {c1 c2 c3 c4 c5 c6 c8 c9 c12 c13 c14 c15 c16 c17 c18 c19 c20 c21 c22 c23 c24 c25 c26 c27 c28 c29 c30 c31 c32 c33 c34 c35 c36 c37 c38 c39 c40 c41 c42 c43 c44 c45 c46 c47 c48 c49 c50 c51 c52 c53 c54 c55 c56 c57 c58 c59 c60 c61 c62 c63 c64 c65 c66 c67 c68 c69 c70 c71 c72 c73 c74 c75 c76 c77 c78 c79 c80 c81 c82 c83 c84 c85 c86 c87 c88 c89 c90 c91 c92 c93 c94 c95 c96 c97 c98 c99 c100 c101 c102 c103 c104 c105 c106 c107 c108 c109 c110 c111 c112 c113 c114 c115 c116 c117 c118 : Value} {Q0 : Exit → Act → World → Prop}
    (hexit : ∀ (u81 u82 u83 u84 u85 u86 u87 u88 u89 u90 u91 : Value) (r : Nat) (A : Option Addr) (cap : Nat) (w1 : World), Below w.heap.size w w1 → w1.cell? ⟨r, 0, none⟩ = some (.slice A n cap) → r < w1.heap.size → Bytes w1 w1.heap.size (.slice A n cap) O → Q0 .normal ⟨#[.slice IA m ic, c1, c2, c3, c4, c5, c6, .pointer (some ⟨g, 0, none⟩), c8, c9, .slice (some ad) k c, .slice (some ae) k e, c12, c13, c14, c15, .pointer (some ⟨r, 0, none⟩), .bool true, c18, c19, c20, c21, c22, c23, c24, c25, c26, c27, c28, c29, c30, c31, c32, c33, c34, c35, c36, c37, c38, c39, c40, c41, c42, c43, c44, c45, c46, c47, c48, c49, c50, c51, c52, c53, c54, c55, c56, c57, c58, c59, c60, c61, c62, c63, c64, c65, c66, c67, c68, c69, c70, c71, c72, c73, c74, c75, c76, c77, c78, c79, c80, u81, u82, u83, u84, u85, u86, u87, u88, u89, u90, u91, c92, c93, c94, c95, c96, c97, c98, c99, c100, c101, c102, c103, c104, c105, c106, c107, c108, c109, c110, c111, c112, c113, c114, c115, c116, c117, c118], []⟩ w1) :
    Code.wp Tryz.prog (backReg 15) Q0 ⟨#[.slice IA m ic, c1, c2, c3, c4, c5, c6, .pointer (some ⟨g, 0, none⟩), c8, c9, .slice (some ad) k c, .slice (some ae) k e, c12, c13, c14, c15, c16, c17, c18, c19, c20, c21, c22, c23, c24, c25, c26, c27, c28, c29, c30, c31, c32, c33, c34, c35, c36, c37, c38, c39, c40, c41, c42, c43, c44, c45, c46, c47, c48, c49, c50, c51, c52, c53, c54, c55, c56, c57, c58, c59, c60, c61, c62, c63, c64, c65, c66, c67, c68, c69, c70, c71, c72, c73, c74, c75, c76, c77, c78, c79, c80, c81, c82, c83, c84, c85, c86, c87, c88, c89, c90, c91, c92, c93, c94, c95, c96, c97, c98, c99, c100, c101, c102, c103, c104, c105, c106, c107, c108, c109, c110, c111, c112, c113, c114, c115, c116, c117, c118], []⟩ w := by
  dsimp only at hexit ⊢
  have hlim : ∀ W, Below w.heap.size w W → W.cell? ⟨g, 0, none⟩ = some (.int .i64 buf) ∧ W.cell? ⟨g, 1, none⟩ = some (.int .i64 line) ∧ W.cell? ⟨g, 2, none⟩ = some (.int .i64 run) := fun W hW => ⟨(bx.on hW).cells.1, (bx.on hW).cells.2.1, (bx.on hW).cells.2.2.1⟩
  have hc1 : ∀ W, Below w.heap.size w W → Calls Tryz.prog 12 #[.slice (some ad) k c] W fun e w' => e = .returned (.string SX) ∧ Below W.heap.size W w' := fun W hW => by
    have h := coded_any W (some ad) c k x ((hrx.below hW).more hW.size) hx (by omega)
    rwa [hSX] at h
  have hc2 : ∀ W, Below w.heap.size w W → Calls Tryz.prog 12 #[.slice (some ae) k e] W fun e w' => e = .returned (.string SY) ∧ Below W.heap.size W w' := fun W hW => by
    have h := coded_any W (some ae) e k y ((hry.below hW).more hW.size) hy (by omega)
    rwa [hSY] at h
  have htt : ∀ (V : World) (ap : Addr), Below w.heap.size w V → Reads V V.heap.size 1 (some ap) 2 (strsC [SX, SY]) → Calls Tryz.prog 11 #[.slice IA m ic, .slice (some ap) 2 2, .agg #[.int .i64 buf, .int .i64 line, .int .i64 run]] V fun e w' => ∃ ov ev sp pk, e = .returned (.tuple #[.agg #[ov, ev, .int .i64 0, .slice none 0 0, .int .i64 sp, .int .i64 pk, .int .i64 0], .bool true]) ∧
      w'.ownsRow V.heap.size 5 1 ov n (bytesC O) ∧ w'.ownsRow V.heap.size 5 1 ev 0 [] ∧ Below V.heap.size V w' := fun V ap hV hR => by
    have h := (htr V (hT.below (by rw [hg0]; exact bx.below.trans (hV.mono (Nat.le_of_lt bx.lim.lt))))).go ap 2 IA ic hR ((hiv.below hV).more hV.size)
    rw [hn] at h
    exact h
  obtain ⟨q, hq⟩ : ∃ q, w.heap.size = q := ⟨_, rfl⟩
  rw [hq] at hlim hc1 hc2 htt hexit
  have HLIM := Lib.hid hlim
  have HC1 := Lib.hid hc1
  have HC2 := Lib.hid hc2
  have HT := Lib.hid htt
  have HX := Lib.hid hexit
  have HN := Lib.hid hn
  have b0 : Below q w w.drew := by rw [← hq]; exact below_drew w 1
  have b0z : Below q w ((w.alloc (.cells #[.slice none 0 0, .slice none 0 0, .int .i64 0, .slice none 0 0, .int .i64 0, .int .i64 0, .int .i64 0] 38)).drew) := by rw [← hq]; exact (below_one w _).trans (below_drew _ 1)
  have z0 : Blk ((w.alloc (.cells #[.slice none 0 0, .slice none 0 0, .int .i64 0, .slice none 0 0, .int .i64 0, .int .i64 0, .int .i64 0] 38)).drew) q 38 resZ1 := by rw [← hq]; exact Blk.new w _ _
  have A6 : q ≤ w.heap.size := by omega
  clear hlim hc1 hc2 htt hexit htr hrx hry hiv hT bx hSX hSY hx hy hn
  conv => arg 2; whnf
  go_region_held3 (fun W => W.cell? ⟨g, 0, none⟩ = some (.int .i64 buf) ∧ W.cell? ⟨g, 1, none⟩ = some (.int .i64 line) ∧ W.cell? ⟨g, 2, none⟩ = some (.int .i64 run))
    (first | exact HLIM.out _ (by assumption) | exact HLIM.out _ (Below.refl _ _))
    (first
    | (go_at_call 11; have zz := z2; have zzq := z2q; have hq2 := HT.out (w2.alloc (.cells #[.string SX, .string SY] 9)) ⟨w2.heap.size, 0, none⟩ b2s rd2; (with_reducible refine hq2.mono ?_); clear hq2; rintro e w3 ⟨ov, ev, sp, pk, rfl, hov, hev, hb3⟩
       obtain ⟨A, cap, E, d, w5, rfl, rfl, hst5, b3, b5, k50, k5l, hby5⟩ := tr_stored sp pk b2s (Nat.le_trans A6 b2s.size) (zz.alloc _) zzq HN.out hov hev hb3)
    | (go_at_call 11; have hq2 := HT.out (w2.alloc (.cells #[.string SX, .string SY] 9)) ⟨w2.heap.size, 0, none⟩ b2s rd2; (with_reducible refine hq2.mono ?_); clear hq2; rintro e w3 ⟨ov, ev, sp, pk, rfl, hov, hev, hb3⟩
       obtain ⟨A, cap, E, d, w5, rfl, rfl, hst5, b3, b4, b5, k50, k5l, hby5⟩ := tr_stored_last sp pk b2s (Nat.le_trans A6 b2s.size) HN.out hov hev hb3)
    | (go_at_call 11; have hq2 := HT.out ((w2.alloc (.cells #[.string SX, .string SY] 9)).alloc (.cells #[.slice none 0 0, .slice none 0 0, .int .i64 0, .slice none 0 0, .int .i64 0, .int .i64 0, .int .i64 0] 38)) ⟨w2.heap.size, 0, none⟩ b2sz rd2sz; (with_reducible refine hq2.mono ?_); clear hq2; rintro e w3 ⟨ov, ev, sp, pk, rfl, hov, hev, hb3⟩
       obtain ⟨A, cap, E, d, w5, rfl, rfl, hst5, b3, b5, k50, k5l, hby5⟩ := tr_stored sp pk b2sz (Nat.le_trans A6 b2sz.size) z2sz z2szq HN.out hov hev hb3)
    | (go_at_call 11; have hq2 := HT.out ((w2.alloc (.cells #[.slice none 0 0, .slice none 0 0, .int .i64 0, .slice none 0 0, .int .i64 0, .int .i64 0, .int .i64 0] 38)).alloc (.cells #[.string SX, .string SY] 9)) ⟨w2.heap.size + 1, 0, none⟩ b2zs rd2zs; (with_reducible refine hq2.mono ?_); clear hq2; rintro e w3 ⟨ov, ev, sp, pk, rfl, hov, hev, hb3⟩
       obtain ⟨A, cap, E, d, w5, rfl, rfl, hst5, b3, b5, k50, k5l, hby5⟩ := tr_stored sp pk b2zs (Nat.le_trans A6 b2zs.size) z2zs z2zsq HN.out hov hev hb3)
    | (go_at_call 12; have zz := z1; have hq2 := HC2.out (w1) b1; (with_reducible refine hq2.mono ?_); clear hq2; rintro e w2 ⟨rfl, hb2⟩
       have b2 : Below q w w2 := b1.trans (hb2.mono (Nat.le_trans A6 b1.size))
       have z2 := Blk.on z1 hb2
       have z2q := Nat.le_refl q
       have b2s : Below q w (w2.alloc (.cells #[.string SX, .string SY] 9)) := b2.alloc (Nat.le_trans A6 b2.size) _
       have rd2 := reads_two w2 SX SY
       have b2z : Below q w (w2.alloc (.cells #[.slice none 0 0, .slice none 0 0, .int .i64 0, .slice none 0 0, .int .i64 0, .int .i64 0, .int .i64 0] 38)) := b2.alloc (Nat.le_trans A6 b2.size) _
       have b2sz : Below q w ((w2.alloc (.cells #[.string SX, .string SY] 9)).alloc (.cells #[.slice none 0 0, .slice none 0 0, .int .i64 0, .slice none 0 0, .int .i64 0, .int .i64 0, .int .i64 0] 38)) := b2s.alloc (Nat.le_trans A6 b2s.size) _
       have b2zs : Below q w ((w2.alloc (.cells #[.slice none 0 0, .slice none 0 0, .int .i64 0, .slice none 0 0, .int .i64 0, .int .i64 0, .int .i64 0] 38)).alloc (.cells #[.string SX, .string SY] 9)) := b2z.alloc (Nat.le_trans A6 b2z.size) _
       have e2s : (w2.alloc (.cells #[.string SX, .string SY] 9)).heap.size = w2.heap.size + 1 := (by simp)
       have e2z : (w2.alloc (.cells #[.slice none 0 0, .slice none 0 0, .int .i64 0, .slice none 0 0, .int .i64 0, .int .i64 0, .int .i64 0] 38)).heap.size = w2.heap.size + 1 := (by simp)
       have rd2sz : Reads ((w2.alloc (.cells #[.string SX, .string SY] 9)).alloc (.cells #[.slice none 0 0, .slice none 0 0, .int .i64 0, .slice none 0 0, .int .i64 0, .int .i64 0, .int .i64 0] 38)) ((w2.alloc (.cells #[.string SX, .string SY] 9)).alloc (.cells #[.slice none 0 0, .slice none 0 0, .int .i64 0, .slice none 0 0, .int .i64 0, .int .i64 0, .int .i64 0] 38)).heap.size 1 (some ⟨w2.heap.size, 0, none⟩) 2 (strsC [SX, SY]) := (rd2.below (below_one _ _)).more (below_one _ _).size
       have rd2zs : Reads ((w2.alloc (.cells #[.slice none 0 0, .slice none 0 0, .int .i64 0, .slice none 0 0, .int .i64 0, .int .i64 0, .int .i64 0] 38)).alloc (.cells #[.string SX, .string SY] 9)) ((w2.alloc (.cells #[.slice none 0 0, .slice none 0 0, .int .i64 0, .slice none 0 0, .int .i64 0, .int .i64 0, .int .i64 0] 38)).alloc (.cells #[.string SX, .string SY] 9)).heap.size 1 (some ⟨w2.heap.size + 1, 0, none⟩) 2 (strsC [SX, SY]) := (by have h := reads_two (w2.alloc (.cells #[.slice none 0 0, .slice none 0 0, .int .i64 0, .slice none 0 0, .int .i64 0, .int .i64 0, .int .i64 0] 38)) SX SY; rwa [e2z] at h)
       have z2sz : Blk ((w2.alloc (.cells #[.string SX, .string SY] 9)).alloc (.cells #[.slice none 0 0, .slice none 0 0, .int .i64 0, .slice none 0 0, .int .i64 0, .int .i64 0, .int .i64 0] 38)) (w2.heap.size + 1) 38 resZ1 := (by rw [← e2s]; exact Blk.new _ _ _)
       have z2szq : q ≤ w2.heap.size + 1 := Nat.le_succ_of_le (Nat.le_trans A6 b2.size)
       have z2zs : Blk ((w2.alloc (.cells #[.slice none 0 0, .slice none 0 0, .int .i64 0, .slice none 0 0, .int .i64 0, .int .i64 0, .int .i64 0] 38)).alloc (.cells #[.string SX, .string SY] 9)) w2.heap.size 38 resZ1 := (Blk.new w2 _ _).alloc _
       have z2zsq : q ≤ w2.heap.size := Nat.le_trans A6 b2.size
       clear e2s e2z)
    | (go_at_call 12; have hq2 := HC2.out (w1.alloc (.cells #[.slice none 0 0, .slice none 0 0, .int .i64 0, .slice none 0 0, .int .i64 0, .int .i64 0, .int .i64 0] 38)) b1a; (with_reducible refine hq2.mono ?_); clear hq2; rintro e w2 ⟨rfl, hb2⟩
       have b2 : Below q w w2 := b1a.trans (hb2.mono (Nat.le_trans A6 b1a.size))
       have z2 := Blk.on z1a hb2
       have z2q := Nat.le_trans A6 b1.size
       have b2s : Below q w (w2.alloc (.cells #[.string SX, .string SY] 9)) := b2.alloc (Nat.le_trans A6 b2.size) _
       have rd2 := reads_two w2 SX SY
       have b2z : Below q w (w2.alloc (.cells #[.slice none 0 0, .slice none 0 0, .int .i64 0, .slice none 0 0, .int .i64 0, .int .i64 0, .int .i64 0] 38)) := b2.alloc (Nat.le_trans A6 b2.size) _
       have b2sz : Below q w ((w2.alloc (.cells #[.string SX, .string SY] 9)).alloc (.cells #[.slice none 0 0, .slice none 0 0, .int .i64 0, .slice none 0 0, .int .i64 0, .int .i64 0, .int .i64 0] 38)) := b2s.alloc (Nat.le_trans A6 b2s.size) _
       have b2zs : Below q w ((w2.alloc (.cells #[.slice none 0 0, .slice none 0 0, .int .i64 0, .slice none 0 0, .int .i64 0, .int .i64 0, .int .i64 0] 38)).alloc (.cells #[.string SX, .string SY] 9)) := b2z.alloc (Nat.le_trans A6 b2z.size) _
       have e2s : (w2.alloc (.cells #[.string SX, .string SY] 9)).heap.size = w2.heap.size + 1 := (by simp)
       have e2z : (w2.alloc (.cells #[.slice none 0 0, .slice none 0 0, .int .i64 0, .slice none 0 0, .int .i64 0, .int .i64 0, .int .i64 0] 38)).heap.size = w2.heap.size + 1 := (by simp)
       have rd2sz : Reads ((w2.alloc (.cells #[.string SX, .string SY] 9)).alloc (.cells #[.slice none 0 0, .slice none 0 0, .int .i64 0, .slice none 0 0, .int .i64 0, .int .i64 0, .int .i64 0] 38)) ((w2.alloc (.cells #[.string SX, .string SY] 9)).alloc (.cells #[.slice none 0 0, .slice none 0 0, .int .i64 0, .slice none 0 0, .int .i64 0, .int .i64 0, .int .i64 0] 38)).heap.size 1 (some ⟨w2.heap.size, 0, none⟩) 2 (strsC [SX, SY]) := (rd2.below (below_one _ _)).more (below_one _ _).size
       have rd2zs : Reads ((w2.alloc (.cells #[.slice none 0 0, .slice none 0 0, .int .i64 0, .slice none 0 0, .int .i64 0, .int .i64 0, .int .i64 0] 38)).alloc (.cells #[.string SX, .string SY] 9)) ((w2.alloc (.cells #[.slice none 0 0, .slice none 0 0, .int .i64 0, .slice none 0 0, .int .i64 0, .int .i64 0, .int .i64 0] 38)).alloc (.cells #[.string SX, .string SY] 9)).heap.size 1 (some ⟨w2.heap.size + 1, 0, none⟩) 2 (strsC [SX, SY]) := (by have h := reads_two (w2.alloc (.cells #[.slice none 0 0, .slice none 0 0, .int .i64 0, .slice none 0 0, .int .i64 0, .int .i64 0, .int .i64 0] 38)) SX SY; rwa [e2z] at h)
       have z2sz : Blk ((w2.alloc (.cells #[.string SX, .string SY] 9)).alloc (.cells #[.slice none 0 0, .slice none 0 0, .int .i64 0, .slice none 0 0, .int .i64 0, .int .i64 0, .int .i64 0] 38)) (w2.heap.size + 1) 38 resZ1 := (by rw [← e2s]; exact Blk.new _ _ _)
       have z2szq : q ≤ w2.heap.size + 1 := Nat.le_succ_of_le (Nat.le_trans A6 b2.size)
       have z2zs : Blk ((w2.alloc (.cells #[.slice none 0 0, .slice none 0 0, .int .i64 0, .slice none 0 0, .int .i64 0, .int .i64 0, .int .i64 0] 38)).alloc (.cells #[.string SX, .string SY] 9)) w2.heap.size 38 resZ1 := (Blk.new w2 _ _).alloc _
       have z2zsq : q ≤ w2.heap.size := Nat.le_trans A6 b2.size
       clear e2s e2z)
    | (go_at_call 12; have hq2 := HC2.out (w1) b1; (with_reducible refine hq2.mono ?_); clear hq2; rintro e w2 ⟨rfl, hb2⟩
       have b2 : Below q w w2 := b1.trans (hb2.mono (Nat.le_trans A6 b1.size))
       have b2s : Below q w (w2.alloc (.cells #[.string SX, .string SY] 9)) := b2.alloc (Nat.le_trans A6 b2.size) _
       have rd2 := reads_two w2 SX SY
       have b2z : Below q w (w2.alloc (.cells #[.slice none 0 0, .slice none 0 0, .int .i64 0, .slice none 0 0, .int .i64 0, .int .i64 0, .int .i64 0] 38)) := b2.alloc (Nat.le_trans A6 b2.size) _
       have b2sz : Below q w ((w2.alloc (.cells #[.string SX, .string SY] 9)).alloc (.cells #[.slice none 0 0, .slice none 0 0, .int .i64 0, .slice none 0 0, .int .i64 0, .int .i64 0, .int .i64 0] 38)) := b2s.alloc (Nat.le_trans A6 b2s.size) _
       have b2zs : Below q w ((w2.alloc (.cells #[.slice none 0 0, .slice none 0 0, .int .i64 0, .slice none 0 0, .int .i64 0, .int .i64 0, .int .i64 0] 38)).alloc (.cells #[.string SX, .string SY] 9)) := b2z.alloc (Nat.le_trans A6 b2z.size) _
       have e2s : (w2.alloc (.cells #[.string SX, .string SY] 9)).heap.size = w2.heap.size + 1 := (by simp)
       have e2z : (w2.alloc (.cells #[.slice none 0 0, .slice none 0 0, .int .i64 0, .slice none 0 0, .int .i64 0, .int .i64 0, .int .i64 0] 38)).heap.size = w2.heap.size + 1 := (by simp)
       have rd2sz : Reads ((w2.alloc (.cells #[.string SX, .string SY] 9)).alloc (.cells #[.slice none 0 0, .slice none 0 0, .int .i64 0, .slice none 0 0, .int .i64 0, .int .i64 0, .int .i64 0] 38)) ((w2.alloc (.cells #[.string SX, .string SY] 9)).alloc (.cells #[.slice none 0 0, .slice none 0 0, .int .i64 0, .slice none 0 0, .int .i64 0, .int .i64 0, .int .i64 0] 38)).heap.size 1 (some ⟨w2.heap.size, 0, none⟩) 2 (strsC [SX, SY]) := (rd2.below (below_one _ _)).more (below_one _ _).size
       have rd2zs : Reads ((w2.alloc (.cells #[.slice none 0 0, .slice none 0 0, .int .i64 0, .slice none 0 0, .int .i64 0, .int .i64 0, .int .i64 0] 38)).alloc (.cells #[.string SX, .string SY] 9)) ((w2.alloc (.cells #[.slice none 0 0, .slice none 0 0, .int .i64 0, .slice none 0 0, .int .i64 0, .int .i64 0, .int .i64 0] 38)).alloc (.cells #[.string SX, .string SY] 9)).heap.size 1 (some ⟨w2.heap.size + 1, 0, none⟩) 2 (strsC [SX, SY]) := (by have h := reads_two (w2.alloc (.cells #[.slice none 0 0, .slice none 0 0, .int .i64 0, .slice none 0 0, .int .i64 0, .int .i64 0, .int .i64 0] 38)) SX SY; rwa [e2z] at h)
       have z2sz : Blk ((w2.alloc (.cells #[.string SX, .string SY] 9)).alloc (.cells #[.slice none 0 0, .slice none 0 0, .int .i64 0, .slice none 0 0, .int .i64 0, .int .i64 0, .int .i64 0] 38)) (w2.heap.size + 1) 38 resZ1 := (by rw [← e2s]; exact Blk.new _ _ _)
       have z2szq : q ≤ w2.heap.size + 1 := Nat.le_succ_of_le (Nat.le_trans A6 b2.size)
       have z2zs : Blk ((w2.alloc (.cells #[.slice none 0 0, .slice none 0 0, .int .i64 0, .slice none 0 0, .int .i64 0, .int .i64 0, .int .i64 0] 38)).alloc (.cells #[.string SX, .string SY] 9)) w2.heap.size 38 resZ1 := (Blk.new w2 _ _).alloc _
       have z2zsq : q ≤ w2.heap.size := Nat.le_trans A6 b2.size
       clear e2s e2z)
    | (go_at_call 12; have hq1 := HC1.out (w.drew) b0; (with_reducible refine hq1.mono ?_); clear hq1; rintro e w1 ⟨rfl, hb1⟩
       have b1 : Below q w w1 := b0.trans (hb1.mono (Nat.le_trans A6 b0.size))
       have b1a : Below q w (w1.alloc (.cells #[.slice none 0 0, .slice none 0 0, .int .i64 0, .slice none 0 0, .int .i64 0, .int .i64 0, .int .i64 0] 38)) := b1.alloc (Nat.le_trans A6 b1.size) _
       have z1a : Blk (w1.alloc (.cells #[.slice none 0 0, .slice none 0 0, .int .i64 0, .slice none 0 0, .int .i64 0, .int .i64 0, .int .i64 0] 38)) w1.heap.size 38 resZ1 := Blk.new w1 _ _)
    | (go_at_call 12; have hq1 := HC1.out ((w.alloc (.cells #[.slice none 0 0, .slice none 0 0, .int .i64 0, .slice none 0 0, .int .i64 0, .int .i64 0, .int .i64 0] 38)).drew) b0z; (with_reducible refine hq1.mono ?_); clear hq1; rintro e w1 ⟨rfl, hb1⟩
       have b1 : Below q w w1 := b0z.trans (hb1.mono (Nat.le_trans A6 b0z.size))
       have b1a : Below q w (w1.alloc (.cells #[.slice none 0 0, .slice none 0 0, .int .i64 0, .slice none 0 0, .int .i64 0, .int .i64 0, .int .i64 0] 38)) := b1.alloc (Nat.le_trans A6 b1.size) _
       have z1a : Blk (w1.alloc (.cells #[.slice none 0 0, .slice none 0 0, .int .i64 0, .slice none 0 0, .int .i64 0, .int .i64 0, .int .i64 0] 38)) w1.heap.size 38 resZ1 := Blk.new w1 _ _
       have z1 := Blk.on z0 hb1))
  all_goals exact HX.out _ _ _ _ _ _ _ _ _ _ _ _ A cap w5 b5 k50 k5l hby5

set_option maxRecDepth 100000 in
set_option maxHeartbeats 8000000 in
theorem back_r16 (w0 w : World) (hT : Tabs w0) (g : Nat) (buf line run : Int) (bx : LawBox g buf line run w0 w) (hg0 : w0.heap.size = g) (k : Nat) (hk2 : k ≤ 256) (ad ae : Addr) (c e : Nat) (x y : List UInt8) (hx : x.length = k) (hy : y.length = k) (hrx : Reads w w.heap.size 1 (some ad) k (bytesC x)) (hry : Reads w w.heap.size 1 (some ae) k (bytesC y)) (SX SY : ByteArray) (hSX : strB (Pl.codedL x) = SX) (hSY : strB (Pl.codedL y) = SY) (IA : Option Addr) (ic m : Nat) (inb : List UInt8) (hiv : Bytes w w.heap.size (.slice IA m ic) inb) (O : List UInt8) (n : Nat) (hn : O.length = n) (htr : ∀ V, Tabs V → TrIs [SY, SX] 2 inb m buf line run O V) (b : Nat) (hbl : b < w.heap.size) (hbc : w.cell? ⟨b, 0, none⟩ = some (.slice IA m ic))
    {c0 c1 c2 c3 c4 c5 c6 c8 c9 c12 c13 c14 c15 c17 c18 c19 c20 c21 c22 c23 c24 c25 c26 c27 c28 c29 c30 c31 c32 c33 c34 c35 c36 c37 c38 c39 c40 c41 c42 c43 c44 c45 c46 c47 c48 c49 c50 c51 c52 c53 c54 c55 c56 c57 c58 c59 c60 c61 c62 c63 c64 c65 c66 c67 c68 c69 c70 c71 c72 c73 c74 c75 c76 c77 c78 c79 c80 c81 c82 c83 c84 c85 c86 c87 c88 c89 c90 c91 c92 c93 c94 c95 c96 c97 c98 c99 c100 c101 c102 c103 c104 c105 c106 c107 c108 c109 c110 c111 c112 c113 c114 c115 c116 c117 c118 : Value} {Q0 : Exit → Act → World → Prop}
    (hexit : ∀ (u92 u93 u94 u95 u96 u97 u98 u99 u100 u101 u102 u103 : Value) (r : Nat) (A : Option Addr) (cap : Nat) (w1 : World), Below w.heap.size w w1 → w1.cell? ⟨r, 0, none⟩ = some (.slice A n cap) → r < w1.heap.size → Bytes w1 w1.heap.size (.slice A n cap) O → Q0 .normal ⟨#[c0, c1, c2, c3, c4, c5, c6, .pointer (some ⟨g, 0, none⟩), c8, c9, .slice (some ad) k c, .slice (some ae) k e, c12, c13, c14, c15, .pointer (some ⟨b, 0, none⟩), c17, .pointer (some ⟨r, 0, none⟩), .bool true, c20, c21, c22, c23, c24, c25, c26, c27, c28, c29, c30, c31, c32, c33, c34, c35, c36, c37, c38, c39, c40, c41, c42, c43, c44, c45, c46, c47, c48, c49, c50, c51, c52, c53, c54, c55, c56, c57, c58, c59, c60, c61, c62, c63, c64, c65, c66, c67, c68, c69, c70, c71, c72, c73, c74, c75, c76, c77, c78, c79, c80, c81, c82, c83, c84, c85, c86, c87, c88, c89, c90, c91, u92, u93, u94, u95, u96, u97, u98, u99, u100, u101, u102, u103, c104, c105, c106, c107, c108, c109, c110, c111, c112, c113, c114, c115, c116, c117, c118], []⟩ w1) :
    Code.wp Tryz.prog (backReg 16) Q0 ⟨#[c0, c1, c2, c3, c4, c5, c6, .pointer (some ⟨g, 0, none⟩), c8, c9, .slice (some ad) k c, .slice (some ae) k e, c12, c13, c14, c15, .pointer (some ⟨b, 0, none⟩), c17, c18, c19, c20, c21, c22, c23, c24, c25, c26, c27, c28, c29, c30, c31, c32, c33, c34, c35, c36, c37, c38, c39, c40, c41, c42, c43, c44, c45, c46, c47, c48, c49, c50, c51, c52, c53, c54, c55, c56, c57, c58, c59, c60, c61, c62, c63, c64, c65, c66, c67, c68, c69, c70, c71, c72, c73, c74, c75, c76, c77, c78, c79, c80, c81, c82, c83, c84, c85, c86, c87, c88, c89, c90, c91, c92, c93, c94, c95, c96, c97, c98, c99, c100, c101, c102, c103, c104, c105, c106, c107, c108, c109, c110, c111, c112, c113, c114, c115, c116, c117, c118], []⟩ w := by
  dsimp only at hexit ⊢
  have hlim : ∀ W, Below w.heap.size w W → W.cell? ⟨g, 0, none⟩ = some (.int .i64 buf) ∧ W.cell? ⟨g, 1, none⟩ = some (.int .i64 line) ∧ W.cell? ⟨g, 2, none⟩ = some (.int .i64 run) ∧ W.cell? ⟨b, 0, none⟩ = some (.slice IA m ic) := fun W hW => ⟨(bx.on hW).cells.1, (bx.on hW).cells.2.1, (bx.on hW).cells.2.2.1, (hW.cell (p := ⟨b, 0, none⟩) hbl).trans hbc⟩
  have hc1 : ∀ W, Below w.heap.size w W → Calls Tryz.prog 12 #[.slice (some ad) k c] W fun e w' => e = .returned (.string SX) ∧ Below W.heap.size W w' := fun W hW => by
    have h := coded_any W (some ad) c k x ((hrx.below hW).more hW.size) hx (by omega)
    rwa [hSX] at h
  have hc2 : ∀ W, Below w.heap.size w W → Calls Tryz.prog 12 #[.slice (some ae) k e] W fun e w' => e = .returned (.string SY) ∧ Below W.heap.size W w' := fun W hW => by
    have h := coded_any W (some ae) e k y ((hry.below hW).more hW.size) hy (by omega)
    rwa [hSY] at h
  have htt : ∀ (V : World) (ap : Addr), Below w.heap.size w V → Reads V V.heap.size 1 (some ap) 2 (strsC [SY, SX]) → Calls Tryz.prog 11 #[.slice IA m ic, .slice (some ap) 2 2, .agg #[.int .i64 buf, .int .i64 line, .int .i64 run]] V fun e w' => ∃ ov ev sp pk, e = .returned (.tuple #[.agg #[ov, ev, .int .i64 0, .slice none 0 0, .int .i64 sp, .int .i64 pk, .int .i64 0], .bool true]) ∧
      w'.ownsRow V.heap.size 5 1 ov n (bytesC O) ∧ w'.ownsRow V.heap.size 5 1 ev 0 [] ∧ Below V.heap.size V w' := fun V ap hV hR => by
    have h := (htr V (hT.below (by rw [hg0]; exact bx.below.trans (hV.mono (Nat.le_of_lt bx.lim.lt))))).go ap 2 IA ic hR ((hiv.below hV).more hV.size)
    rw [hn] at h
    exact h
  obtain ⟨q, hq⟩ : ∃ q, w.heap.size = q := ⟨_, rfl⟩
  rw [hq] at hlim hc1 hc2 htt hexit
  have HLIM := Lib.hid hlim
  have HC1 := Lib.hid hc1
  have HC2 := Lib.hid hc2
  have HT := Lib.hid htt
  have HX := Lib.hid hexit
  have HN := Lib.hid hn
  have b0 : Below q w w.drew := by rw [← hq]; exact below_drew w 1
  have b0z : Below q w ((w.alloc (.cells #[.slice none 0 0, .slice none 0 0, .int .i64 0, .slice none 0 0, .int .i64 0, .int .i64 0, .int .i64 0] 38)).drew) := by rw [← hq]; exact (below_one w _).trans (below_drew _ 1)
  have z0 : Blk ((w.alloc (.cells #[.slice none 0 0, .slice none 0 0, .int .i64 0, .slice none 0 0, .int .i64 0, .int .i64 0, .int .i64 0] 38)).drew) q 38 resZ1 := by rw [← hq]; exact Blk.new w _ _
  have A6 : q ≤ w.heap.size := by omega
  clear hlim hc1 hc2 htt hexit htr hrx hry hiv hT bx hSX hSY hx hy hn hbl hbc
  conv => arg 2; whnf
  go_region_held3 (fun W => W.cell? ⟨g, 0, none⟩ = some (.int .i64 buf) ∧ W.cell? ⟨g, 1, none⟩ = some (.int .i64 line) ∧ W.cell? ⟨g, 2, none⟩ = some (.int .i64 run) ∧ W.cell? ⟨b, 0, none⟩ = some (.slice IA m ic))
    (first | exact HLIM.out _ (by assumption) | exact HLIM.out _ (Below.refl _ _))
    (first
    | (go_at_call 11; have zz := z2; have zzq := z2q; have hq2 := HT.out (w2.alloc (.cells #[.string SY, .string SX] 9)) ⟨w2.heap.size, 0, none⟩ b2s rd2; (with_reducible refine hq2.mono ?_); clear hq2; rintro e w3 ⟨ov, ev, sp, pk, rfl, hov, hev, hb3⟩
       obtain ⟨A, cap, E, d, w5, rfl, rfl, hst5, b3, b5, k50, k5l, hby5⟩ := tr_stored sp pk b2s (Nat.le_trans A6 b2s.size) (zz.alloc _) zzq HN.out hov hev hb3)
    | (go_at_call 11; have hq2 := HT.out (w2.alloc (.cells #[.string SY, .string SX] 9)) ⟨w2.heap.size, 0, none⟩ b2s rd2; (with_reducible refine hq2.mono ?_); clear hq2; rintro e w3 ⟨ov, ev, sp, pk, rfl, hov, hev, hb3⟩
       obtain ⟨A, cap, E, d, w5, rfl, rfl, hst5, b3, b4, b5, k50, k5l, hby5⟩ := tr_stored_last sp pk b2s (Nat.le_trans A6 b2s.size) HN.out hov hev hb3)
    | (go_at_call 11; have hq2 := HT.out ((w2.alloc (.cells #[.string SY, .string SX] 9)).alloc (.cells #[.slice none 0 0, .slice none 0 0, .int .i64 0, .slice none 0 0, .int .i64 0, .int .i64 0, .int .i64 0] 38)) ⟨w2.heap.size, 0, none⟩ b2sz rd2sz; (with_reducible refine hq2.mono ?_); clear hq2; rintro e w3 ⟨ov, ev, sp, pk, rfl, hov, hev, hb3⟩
       obtain ⟨A, cap, E, d, w5, rfl, rfl, hst5, b3, b5, k50, k5l, hby5⟩ := tr_stored sp pk b2sz (Nat.le_trans A6 b2sz.size) z2sz z2szq HN.out hov hev hb3)
    | (go_at_call 11; have hq2 := HT.out ((w2.alloc (.cells #[.slice none 0 0, .slice none 0 0, .int .i64 0, .slice none 0 0, .int .i64 0, .int .i64 0, .int .i64 0] 38)).alloc (.cells #[.string SY, .string SX] 9)) ⟨w2.heap.size + 1, 0, none⟩ b2zs rd2zs; (with_reducible refine hq2.mono ?_); clear hq2; rintro e w3 ⟨ov, ev, sp, pk, rfl, hov, hev, hb3⟩
       obtain ⟨A, cap, E, d, w5, rfl, rfl, hst5, b3, b5, k50, k5l, hby5⟩ := tr_stored sp pk b2zs (Nat.le_trans A6 b2zs.size) z2zs z2zsq HN.out hov hev hb3)
    | (go_at_call 12; have zz := z1; have hq2 := HC1.out (w1) b1; (with_reducible refine hq2.mono ?_); clear hq2; rintro e w2 ⟨rfl, hb2⟩
       have b2 : Below q w w2 := b1.trans (hb2.mono (Nat.le_trans A6 b1.size))
       have z2 := Blk.on z1 hb2
       have z2q := Nat.le_refl q
       have b2s : Below q w (w2.alloc (.cells #[.string SY, .string SX] 9)) := b2.alloc (Nat.le_trans A6 b2.size) _
       have rd2 := reads_two w2 SY SX
       have b2z : Below q w (w2.alloc (.cells #[.slice none 0 0, .slice none 0 0, .int .i64 0, .slice none 0 0, .int .i64 0, .int .i64 0, .int .i64 0] 38)) := b2.alloc (Nat.le_trans A6 b2.size) _
       have b2sz : Below q w ((w2.alloc (.cells #[.string SY, .string SX] 9)).alloc (.cells #[.slice none 0 0, .slice none 0 0, .int .i64 0, .slice none 0 0, .int .i64 0, .int .i64 0, .int .i64 0] 38)) := b2s.alloc (Nat.le_trans A6 b2s.size) _
       have b2zs : Below q w ((w2.alloc (.cells #[.slice none 0 0, .slice none 0 0, .int .i64 0, .slice none 0 0, .int .i64 0, .int .i64 0, .int .i64 0] 38)).alloc (.cells #[.string SY, .string SX] 9)) := b2z.alloc (Nat.le_trans A6 b2z.size) _
       have e2s : (w2.alloc (.cells #[.string SY, .string SX] 9)).heap.size = w2.heap.size + 1 := (by simp)
       have e2z : (w2.alloc (.cells #[.slice none 0 0, .slice none 0 0, .int .i64 0, .slice none 0 0, .int .i64 0, .int .i64 0, .int .i64 0] 38)).heap.size = w2.heap.size + 1 := (by simp)
       have rd2sz : Reads ((w2.alloc (.cells #[.string SY, .string SX] 9)).alloc (.cells #[.slice none 0 0, .slice none 0 0, .int .i64 0, .slice none 0 0, .int .i64 0, .int .i64 0, .int .i64 0] 38)) ((w2.alloc (.cells #[.string SY, .string SX] 9)).alloc (.cells #[.slice none 0 0, .slice none 0 0, .int .i64 0, .slice none 0 0, .int .i64 0, .int .i64 0, .int .i64 0] 38)).heap.size 1 (some ⟨w2.heap.size, 0, none⟩) 2 (strsC [SY, SX]) := (rd2.below (below_one _ _)).more (below_one _ _).size
       have rd2zs : Reads ((w2.alloc (.cells #[.slice none 0 0, .slice none 0 0, .int .i64 0, .slice none 0 0, .int .i64 0, .int .i64 0, .int .i64 0] 38)).alloc (.cells #[.string SY, .string SX] 9)) ((w2.alloc (.cells #[.slice none 0 0, .slice none 0 0, .int .i64 0, .slice none 0 0, .int .i64 0, .int .i64 0, .int .i64 0] 38)).alloc (.cells #[.string SY, .string SX] 9)).heap.size 1 (some ⟨w2.heap.size + 1, 0, none⟩) 2 (strsC [SY, SX]) := (by have h := reads_two (w2.alloc (.cells #[.slice none 0 0, .slice none 0 0, .int .i64 0, .slice none 0 0, .int .i64 0, .int .i64 0, .int .i64 0] 38)) SY SX; rwa [e2z] at h)
       have z2sz : Blk ((w2.alloc (.cells #[.string SY, .string SX] 9)).alloc (.cells #[.slice none 0 0, .slice none 0 0, .int .i64 0, .slice none 0 0, .int .i64 0, .int .i64 0, .int .i64 0] 38)) (w2.heap.size + 1) 38 resZ1 := (by rw [← e2s]; exact Blk.new _ _ _)
       have z2szq : q ≤ w2.heap.size + 1 := Nat.le_succ_of_le (Nat.le_trans A6 b2.size)
       have z2zs : Blk ((w2.alloc (.cells #[.slice none 0 0, .slice none 0 0, .int .i64 0, .slice none 0 0, .int .i64 0, .int .i64 0, .int .i64 0] 38)).alloc (.cells #[.string SY, .string SX] 9)) w2.heap.size 38 resZ1 := (Blk.new w2 _ _).alloc _
       have z2zsq : q ≤ w2.heap.size := Nat.le_trans A6 b2.size
       clear e2s e2z)
    | (go_at_call 12; have hq2 := HC1.out (w1.alloc (.cells #[.slice none 0 0, .slice none 0 0, .int .i64 0, .slice none 0 0, .int .i64 0, .int .i64 0, .int .i64 0] 38)) b1a; (with_reducible refine hq2.mono ?_); clear hq2; rintro e w2 ⟨rfl, hb2⟩
       have b2 : Below q w w2 := b1a.trans (hb2.mono (Nat.le_trans A6 b1a.size))
       have z2 := Blk.on z1a hb2
       have z2q := Nat.le_trans A6 b1.size
       have b2s : Below q w (w2.alloc (.cells #[.string SY, .string SX] 9)) := b2.alloc (Nat.le_trans A6 b2.size) _
       have rd2 := reads_two w2 SY SX
       have b2z : Below q w (w2.alloc (.cells #[.slice none 0 0, .slice none 0 0, .int .i64 0, .slice none 0 0, .int .i64 0, .int .i64 0, .int .i64 0] 38)) := b2.alloc (Nat.le_trans A6 b2.size) _
       have b2sz : Below q w ((w2.alloc (.cells #[.string SY, .string SX] 9)).alloc (.cells #[.slice none 0 0, .slice none 0 0, .int .i64 0, .slice none 0 0, .int .i64 0, .int .i64 0, .int .i64 0] 38)) := b2s.alloc (Nat.le_trans A6 b2s.size) _
       have b2zs : Below q w ((w2.alloc (.cells #[.slice none 0 0, .slice none 0 0, .int .i64 0, .slice none 0 0, .int .i64 0, .int .i64 0, .int .i64 0] 38)).alloc (.cells #[.string SY, .string SX] 9)) := b2z.alloc (Nat.le_trans A6 b2z.size) _
       have e2s : (w2.alloc (.cells #[.string SY, .string SX] 9)).heap.size = w2.heap.size + 1 := (by simp)
       have e2z : (w2.alloc (.cells #[.slice none 0 0, .slice none 0 0, .int .i64 0, .slice none 0 0, .int .i64 0, .int .i64 0, .int .i64 0] 38)).heap.size = w2.heap.size + 1 := (by simp)
       have rd2sz : Reads ((w2.alloc (.cells #[.string SY, .string SX] 9)).alloc (.cells #[.slice none 0 0, .slice none 0 0, .int .i64 0, .slice none 0 0, .int .i64 0, .int .i64 0, .int .i64 0] 38)) ((w2.alloc (.cells #[.string SY, .string SX] 9)).alloc (.cells #[.slice none 0 0, .slice none 0 0, .int .i64 0, .slice none 0 0, .int .i64 0, .int .i64 0, .int .i64 0] 38)).heap.size 1 (some ⟨w2.heap.size, 0, none⟩) 2 (strsC [SY, SX]) := (rd2.below (below_one _ _)).more (below_one _ _).size
       have rd2zs : Reads ((w2.alloc (.cells #[.slice none 0 0, .slice none 0 0, .int .i64 0, .slice none 0 0, .int .i64 0, .int .i64 0, .int .i64 0] 38)).alloc (.cells #[.string SY, .string SX] 9)) ((w2.alloc (.cells #[.slice none 0 0, .slice none 0 0, .int .i64 0, .slice none 0 0, .int .i64 0, .int .i64 0, .int .i64 0] 38)).alloc (.cells #[.string SY, .string SX] 9)).heap.size 1 (some ⟨w2.heap.size + 1, 0, none⟩) 2 (strsC [SY, SX]) := (by have h := reads_two (w2.alloc (.cells #[.slice none 0 0, .slice none 0 0, .int .i64 0, .slice none 0 0, .int .i64 0, .int .i64 0, .int .i64 0] 38)) SY SX; rwa [e2z] at h)
       have z2sz : Blk ((w2.alloc (.cells #[.string SY, .string SX] 9)).alloc (.cells #[.slice none 0 0, .slice none 0 0, .int .i64 0, .slice none 0 0, .int .i64 0, .int .i64 0, .int .i64 0] 38)) (w2.heap.size + 1) 38 resZ1 := (by rw [← e2s]; exact Blk.new _ _ _)
       have z2szq : q ≤ w2.heap.size + 1 := Nat.le_succ_of_le (Nat.le_trans A6 b2.size)
       have z2zs : Blk ((w2.alloc (.cells #[.slice none 0 0, .slice none 0 0, .int .i64 0, .slice none 0 0, .int .i64 0, .int .i64 0, .int .i64 0] 38)).alloc (.cells #[.string SY, .string SX] 9)) w2.heap.size 38 resZ1 := (Blk.new w2 _ _).alloc _
       have z2zsq : q ≤ w2.heap.size := Nat.le_trans A6 b2.size
       clear e2s e2z)
    | (go_at_call 12; have hq2 := HC1.out (w1) b1; (with_reducible refine hq2.mono ?_); clear hq2; rintro e w2 ⟨rfl, hb2⟩
       have b2 : Below q w w2 := b1.trans (hb2.mono (Nat.le_trans A6 b1.size))
       have b2s : Below q w (w2.alloc (.cells #[.string SY, .string SX] 9)) := b2.alloc (Nat.le_trans A6 b2.size) _
       have rd2 := reads_two w2 SY SX
       have b2z : Below q w (w2.alloc (.cells #[.slice none 0 0, .slice none 0 0, .int .i64 0, .slice none 0 0, .int .i64 0, .int .i64 0, .int .i64 0] 38)) := b2.alloc (Nat.le_trans A6 b2.size) _
       have b2sz : Below q w ((w2.alloc (.cells #[.string SY, .string SX] 9)).alloc (.cells #[.slice none 0 0, .slice none 0 0, .int .i64 0, .slice none 0 0, .int .i64 0, .int .i64 0, .int .i64 0] 38)) := b2s.alloc (Nat.le_trans A6 b2s.size) _
       have b2zs : Below q w ((w2.alloc (.cells #[.slice none 0 0, .slice none 0 0, .int .i64 0, .slice none 0 0, .int .i64 0, .int .i64 0, .int .i64 0] 38)).alloc (.cells #[.string SY, .string SX] 9)) := b2z.alloc (Nat.le_trans A6 b2z.size) _
       have e2s : (w2.alloc (.cells #[.string SY, .string SX] 9)).heap.size = w2.heap.size + 1 := (by simp)
       have e2z : (w2.alloc (.cells #[.slice none 0 0, .slice none 0 0, .int .i64 0, .slice none 0 0, .int .i64 0, .int .i64 0, .int .i64 0] 38)).heap.size = w2.heap.size + 1 := (by simp)
       have rd2sz : Reads ((w2.alloc (.cells #[.string SY, .string SX] 9)).alloc (.cells #[.slice none 0 0, .slice none 0 0, .int .i64 0, .slice none 0 0, .int .i64 0, .int .i64 0, .int .i64 0] 38)) ((w2.alloc (.cells #[.string SY, .string SX] 9)).alloc (.cells #[.slice none 0 0, .slice none 0 0, .int .i64 0, .slice none 0 0, .int .i64 0, .int .i64 0, .int .i64 0] 38)).heap.size 1 (some ⟨w2.heap.size, 0, none⟩) 2 (strsC [SY, SX]) := (rd2.below (below_one _ _)).more (below_one _ _).size
       have rd2zs : Reads ((w2.alloc (.cells #[.slice none 0 0, .slice none 0 0, .int .i64 0, .slice none 0 0, .int .i64 0, .int .i64 0, .int .i64 0] 38)).alloc (.cells #[.string SY, .string SX] 9)) ((w2.alloc (.cells #[.slice none 0 0, .slice none 0 0, .int .i64 0, .slice none 0 0, .int .i64 0, .int .i64 0, .int .i64 0] 38)).alloc (.cells #[.string SY, .string SX] 9)).heap.size 1 (some ⟨w2.heap.size + 1, 0, none⟩) 2 (strsC [SY, SX]) := (by have h := reads_two (w2.alloc (.cells #[.slice none 0 0, .slice none 0 0, .int .i64 0, .slice none 0 0, .int .i64 0, .int .i64 0, .int .i64 0] 38)) SY SX; rwa [e2z] at h)
       have z2sz : Blk ((w2.alloc (.cells #[.string SY, .string SX] 9)).alloc (.cells #[.slice none 0 0, .slice none 0 0, .int .i64 0, .slice none 0 0, .int .i64 0, .int .i64 0, .int .i64 0] 38)) (w2.heap.size + 1) 38 resZ1 := (by rw [← e2s]; exact Blk.new _ _ _)
       have z2szq : q ≤ w2.heap.size + 1 := Nat.le_succ_of_le (Nat.le_trans A6 b2.size)
       have z2zs : Blk ((w2.alloc (.cells #[.slice none 0 0, .slice none 0 0, .int .i64 0, .slice none 0 0, .int .i64 0, .int .i64 0, .int .i64 0] 38)).alloc (.cells #[.string SY, .string SX] 9)) w2.heap.size 38 resZ1 := (Blk.new w2 _ _).alloc _
       have z2zsq : q ≤ w2.heap.size := Nat.le_trans A6 b2.size
       clear e2s e2z)
    | (go_at_call 12; have hq1 := HC2.out (w.drew) b0; (with_reducible refine hq1.mono ?_); clear hq1; rintro e w1 ⟨rfl, hb1⟩
       have b1 : Below q w w1 := b0.trans (hb1.mono (Nat.le_trans A6 b0.size))
       have b1a : Below q w (w1.alloc (.cells #[.slice none 0 0, .slice none 0 0, .int .i64 0, .slice none 0 0, .int .i64 0, .int .i64 0, .int .i64 0] 38)) := b1.alloc (Nat.le_trans A6 b1.size) _
       have z1a : Blk (w1.alloc (.cells #[.slice none 0 0, .slice none 0 0, .int .i64 0, .slice none 0 0, .int .i64 0, .int .i64 0, .int .i64 0] 38)) w1.heap.size 38 resZ1 := Blk.new w1 _ _)
    | (go_at_call 12; have hq1 := HC2.out ((w.alloc (.cells #[.slice none 0 0, .slice none 0 0, .int .i64 0, .slice none 0 0, .int .i64 0, .int .i64 0, .int .i64 0] 38)).drew) b0z; (with_reducible refine hq1.mono ?_); clear hq1; rintro e w1 ⟨rfl, hb1⟩
       have b1 : Below q w w1 := b0z.trans (hb1.mono (Nat.le_trans A6 b0z.size))
       have b1a : Below q w (w1.alloc (.cells #[.slice none 0 0, .slice none 0 0, .int .i64 0, .slice none 0 0, .int .i64 0, .int .i64 0, .int .i64 0] 38)) := b1.alloc (Nat.le_trans A6 b1.size) _
       have z1a : Blk (w1.alloc (.cells #[.slice none 0 0, .slice none 0 0, .int .i64 0, .slice none 0 0, .int .i64 0, .int .i64 0, .int .i64 0] 38)) w1.heap.size 38 resZ1 := Blk.new w1 _ _
       have z1 := Blk.on z0 hb1))
  all_goals exact HX.out _ _ _ _ _ _ _ _ _ _ _ _ _ A cap w5 b5 k50 k5l hby5

end Go.Proofs.YtlhiadnolckoeaaGreatDoor
end

section
namespace Go.Proofs.YtlhiadnolckoeaaGreatDoor
open Go.RowKit Go.Maps

theorem tell_map_len (x y l : List UInt8) : (Pl.Tab.tell ⟨x, y, false, true, false⟩ l).length = l.length := by
  rw [Pl.tell_plain _ rfl rfl, List.length_map]

set_option maxRecDepth 100000 in
set_option maxHeartbeats 8000000 in
theorem back_any (w : World) (hT : Tabs w) (IA : Option Addr) (ic m : Nat) (inb : List UInt8) (him : inb.length = m) (hil : m ≤ 140737488355000) (hiv : Bytes w w.heap.size (.slice IA m ic) inb) (XA : Option Addr) (xc nx : Nat) (lx : List UInt8) (hlx : lx.length = nx) (hnx : nx ≤ 140737488355328) (hrx : Reads w w.heap.size 1 XA nx (bytesC lx)) (YA : Option Addr) (yc ny : Nat) (ly : List UInt8) (hly : ly.length = ny) (hny : ny ≤ 140737488355328) (hry : Reads w w.heap.size 1 YA ny (bytesC ly)) (buf line run : Int) :
    Calls Tryz.prog 4 #[.slice IA m ic, .slice XA nx xc, .slice YA ny yc, .agg #[.int .i64 buf, .int .i64 line, .int .i64 run]] w fun e w' => e = .returned (.bool true) ∧ Below w.heap.size w w' := by
  obtain ⟨iB, hiB, hB0, hB1, hB2⟩ := info_parts Tryz.infoByte
  obtain ⟨D, hDD⟩ : ∃ D, Pl.distinctL lx 256 = D := ⟨_, rfl⟩
  obtain ⟨n0, hn0⟩ : ∃ n, D.length = n := ⟨_, rfl⟩
  have hD : n0 ≤ 256 := by rw [← hn0, ← hDD]; exact Pl.distinct_len lx 256
  have hDn : D.Nodup := by rw [← hDD]; exact Pl.distinct_nodup lx 256
  obtain ⟨E, hEE⟩ : ∃ E, Pl.distinctL ly n0 = E := ⟨_, rfl⟩
  obtain ⟨n1, hn1⟩ : ∃ n, E.length = n := ⟨_, rfl⟩
  have hE : n1 ≤ n0 := by rw [← hn1, ← hEE]; exact Pl.distinct_len ly n0
  have hEn : E.Nodup := by rw [← hEE]; exact Pl.distinct_nodup ly n0
  obtain ⟨g, hg⟩ : ∃ g, w.heap.size = g := ⟨_, rfl⟩
  have bx : LawBox g buf line run w (w.alloc (.cells #[.int .i64 buf, .int .i64 line, .int .i64 run] 28)) := ⟨by rw [← hg]; exact Blk.new w _ _, by rw [← hg]; exact below_one w _⟩
  have HT := Lib.hid hT
  have HIV := Lib.hid (hg ▸ hiv : Bytes w g (.slice IA m ic) inb)
  have HRX := Lib.hid (hg ▸ hrx : Reads w g 1 XA nx (bytesC lx))
  have HRY := Lib.hid (hg ▸ hry : Reads w g 1 YA ny (bytesC ly))
  have hd1 : ∀ W, LawBox g buf line run w W → Calls Tryz.prog 9 #[.slice XA nx xc, .int .i64 256] W fun e w' => ∃ v, e = .returned v ∧ w'.ownsRow W.heap.size 5 1 v n0 (bytesC D) ∧ Below W.heap.size W w' := fun W hW => by
    have h := distinct_any W XA xc nx 256 lx ((HRX.out.below hW.below).more (Nat.le_of_lt hW.lim.lt)) hlx (by omega) hnx
    rw [hDD, hn0] at h
    exact h
  have hd2 : ∀ W, LawBox g buf line run w W → Calls Tryz.prog 9 #[.slice YA ny yc, .int .i64 (n0 : Int)] W fun e w' => ∃ v, e = .returned v ∧ w'.ownsRow W.heap.size 5 1 v n1 (bytesC E) ∧ Below W.heap.size W w' := fun W hW => by
    have h := distinct_any W YA yc ny n0 ly ((HRY.out.below hW.below).more (Nat.le_of_lt hW.lim.lt)) hly (by omega) hny
    rw [hEE, hn1] at h
    exact h
  have HD1 := Lib.hid hd1
  have HD2 := Lib.hid hd2
  have HBX := Lib.hid bx
  have HN0 := Lib.hid hn0
  have HN1 := Lib.hid hn1
  have HDN := Lib.hid hDn
  have HEN := Lib.hid hEn
  have HI := Lib.hid him
  have HIL := Lib.hid hil
  have HG := Lib.hid hg
  clear hd1 hd2 hT hiv hrx hry hDD hEE bx hDn hEn hn0 hn1 him hlx hly
  rw [hg]
  by_cases hz : n1 = 0
  · have hz1 : ((n1 : Int) == 0) = true := by simp [hz]
    go_enter Tryz.func4, Tryz.ntmps4
    go_wp2_with (first
      | (go_at_call 10; refine (refMay _ (.slice (some ⟨w3.heap.size, 0, none⟩) 1 1) (some ⟨w3.heap.size, 0, none⟩) 1 buf line run rfl).mono ?_; rintro e w4 ⟨may, rfl, hmay, hb4⟩
         have HB4 := Lib.hid (HB3.out.on ((below_one w3 _).trans (hb4.mono (below_one w3 _).size)))
         obtain ⟨k0, k1, k2, k3⟩ := HB4.out.cells)
      | (go_at_call 9; have hq := HD2.out w2 HB2.out; with_reducible refine hq.mono ?_; clear hq; rintro e w3 ⟨v, rfl, hown3, hb3⟩; obtain ⟨A3, c3, rfl, _, _, hrd3⟩ := own_slice hown3
         have HB3 := Lib.hid (HB2.out.on hb3)
         obtain ⟨k0, k1, k2, k3⟩ := HB3.out.cells)
      | (go_at_call 9; have hq := HD1.out w1 HB1.out; with_reducible refine hq.mono ?_; clear hq; rintro e w2 ⟨v, rfl, hown2, hb2⟩; obtain ⟨A2, c2, rfl, hc2, _, hrd2⟩ := own_slice hown2
         have hfr := fun W => run_front (P := Tryz.prog) 23 5 iB Tryz.underlying23 hiB A2 n0 c2 n1 (Nat.le_trans hE hc2) W
         have HB2 := Lib.hid (HB1.out.on hb2))
      | (go_at_call 6; refine (awake_any _ (HT.out.below (hg ▸ HBX.out.below))).mono ?_; rintro e w1 ⟨rfl, hb1⟩
         have HB1 := Lib.hid (HBX.out.on hb1)))
    all_goals (go_returns; exact ⟨rfl, HB4.out.below⟩)
  have hz1 : ((n1 : Int) == 0) = false := by rw [beq_eq_false_iff_ne]; omega
  go_enter Tryz.func4, Tryz.ntmps4
  go_wp2_with (first
    | (go_at_call 10; refine (refMay _ (.slice (some ⟨w3.heap.size, 0, none⟩) 1 1) (some ⟨w3.heap.size, 0, none⟩) 1 buf line run rfl).mono ?_; rintro e w4 ⟨may, rfl, hmay, hb4⟩
       have HB4 := Lib.hid (HB3.out.on ((below_one w3 _).trans (hb4.mono (below_one w3 _).size)))
       obtain ⟨k0, k1, k2, k3⟩ := HB4.out.cells)
    | (go_at_call 9; have hq := HD2.out w2 HB2.out; with_reducible refine hq.mono ?_; clear hq; rintro e w3 ⟨v, rfl, hown3, hb3⟩; obtain ⟨A3, c3, rfl, _, _, hrd3⟩ := own_slice hown3
       have HB3 := Lib.hid (HB2.out.on hb3)
       obtain ⟨k0, k1, k2, k3⟩ := HB3.out.cells)
    | (go_at_call 9; have hq := HD1.out w1 HB1.out; with_reducible refine hq.mono ?_; clear hq; rintro e w2 ⟨v, rfl, hown2, hb2⟩; obtain ⟨A2, c2, rfl, hc2, _, hrd2⟩ := own_slice hown2
       have hfr := fun W => run_front (P := Tryz.prog) 23 5 iB Tryz.underlying23 hiB A2 n0 c2 n1 (Nat.le_trans hE hc2) W
       have HB2 := Lib.hid (HB1.out.on hb2))
    | (go_at_call 6; refine (awake_any _ (HT.out.below (hg ▸ HBX.out.below))).mono ?_; rintro e w1 ⟨rfl, hb1⟩
       have HB1 := Lib.hid (HBX.out.on hb1)))
  · have hmt : may = true := by cases may <;> simp_all
    have hlm := hmay hmt
    subst hmt
    obtain ⟨X, hX⟩ : ∃ X, D.take n1 = X := ⟨_, rfl⟩
    have hXl : X.length = n1 := by rw [← hX, List.length_take, HN0.out]; omega
    have hXn : X.Nodup := by rw [← hX]; exact HDN.out.sublist (List.take_sublist _ _)
    have hrX2 : Reads w2 w2.heap.size 1 A2 n1 (bytesC X) := by
      have := hrd2.front hE
      rwa [← bytesC_take, hX] at this
    obtain ⟨q, hq⟩ : ∃ q, w4.heap.size = q := ⟨_, rfl⟩
    have h34 : Below w3.heap.size w3 w4 := (below_one w3 _).trans (hb4.mono (below_one w3 _).size)
    have h24 : Below w2.heap.size w2 w4 := hb3.trans (h34.mono hb3.size)
    have hrX : Reads w4 q 1 A2 n1 (bytesC X) := by rw [← hq]; exact (hrX2.below h24).more h24.size
    have hrE : Reads w4 q 1 A3 n1 (bytesC E) := by rw [← hq]; exact (hrd3.below h34).more h34.size
    obtain ⟨ad, rfl, _⟩ := hrX.2 (by omega)
    obtain ⟨ae, rfl, _⟩ := hrE.2 (by omega)
    obtain ⟨SX, hSX⟩ : ∃ S, strB (Pl.codedL X) = S := ⟨_, rfl⟩
    obtain ⟨SY, hSY⟩ : ∃ S, strB (Pl.codedL E) = S := ⟨_, rfl⟩
    obtain ⟨O, hO⟩ : ∃ O, Pl.Tab.tell ⟨X, E, false, true, false⟩ inb = O := ⟨_, rfl⟩
    have hOl : O.length = m := by rw [← hO, tell_map_len, HI.out]
    have htr1 : ∀ V, Tabs V → TrIs [SX, SY] 2 inb m buf line run O V := fun V hV => by
      rw [← hO]
      exact saidMap V hV X (by omega) SX hSX inb m HI.out HIL.out buf line run hlm E (by rw [HN1.out, hXl]) SY hSY
    have htr2 : (∀ b ∈ inb, b ∈ E → b ∈ X) → ∀ V, Tabs V → TrIs [SY, SX] 2 O m buf line run inb V := fun hall V hV => by
      have h := saidMap V hV E (by rw [HN1.out]; omega) SY hSY O m hOl HIL.out buf line run hlm X (by rw [HN1.out, hXl]) SX hSX
      rwa [← hO, Pl.tell_back X E hXn HEN.out (by rw [HN1.out, hXl]) inb hall, hO] at h
    have HTR1 := Lib.hid htr1
    have HTR2 := Lib.hid htr2
    have HOL := Lib.hid hOl
    obtain ⟨SI, hSI⟩ : ∃ S, strB inb = S := ⟨_, rfl⟩
    have hib : ∀ V, Below q w4 V → Bytes V V.heap.size (.slice IA m ic) inb := fun V hV => by
      have hgV := HB4.out.below.trans (hV.mono (by rw [← hq]; exact Nat.le_of_lt HB4.out.lim.lt))
      exact (HIV.out.below hgV).more (Nat.le_trans (by rw [← hg]; exact Nat.le_refl _) hgV.size)
    have HIB := Lib.hid hib
    have hir : Reads w4 q 1 IA m (bytesC inb) := by
      obtain ⟨_, _, e0, _, _, _, h⟩ := HIB.out w4 (Below.refl _ _)
      rw [HI.out] at e0 h
      cases e0
      rw [← hq]
      exact h
    have HSI := Lib.hid hSI
    have HSX := Lib.hid hSX
    have HSY := Lib.hid hSY
    have HRX4 := Lib.hid hrX
    have HRE4 := Lib.hid hrE
    have HQ := Lib.hid hq
    have hfin : ∀ V, Below q w4 V → Below g w V := fun V hV => HB4.out.below.trans (hV.mono (by rw [← hq]; exact Nat.le_of_lt HB4.out.lim.lt))
    have HFIN := Lib.hid hfin
    clear hfin hib htr1 htr2 hOl hO hSI hSX hSY hrX2 h34 h24 hrd2 hrd3 hown2 hown3 hb1 hb2 hb3 hb4 hmay HD1 HD2 HRX HRY HBX
    refine back_loop w4 w4 q m IA ic inb HI.out HIL.out hir hq n1 (by omega) (by omega) ad ae c2 c3 X E hXl HN1.out hXn HEN.out hrX hrE (Below.refl _ _) ?_ ?_
    · intro u8 u14 u15 u43 u44 u45 u46 u47 u48 u49 u50 u51 u52 u53 u54 u55 u56 u57 u58 u59 u60 u61 u62 u63 u64 u65 u66 u67 u68 u69 u70 u71 u72 u73 u74 u75 u76 u77 u78 u79 u80 w5 hall hb5
      have bx5 : LawBox g buf line run w w5 := HB4.out.on (by rw [HQ.out]; exact hb5)
      have hs5 : q ≤ w5.heap.size := by rw [← HQ.out]; exact hb5.size
      have hi5 := HIB.out w5 hb5
      have htr2 := HTR2.out hall
      go_wp2_with fail
      refine back_r15 w w5 HT.out g buf line run bx5 HG.out n1 (by omega) ad ae c2 c3 X E hXl HN1.out ((HRX4.out.below hb5).more hs5) ((HRE4.out.below hb5).more hs5) SX SY HSX.out HSY.out IA ic m inb hi5 O m HOL.out HTR1.out ?_
      intro u81 u82 u83 u84 u85 u86 u87 u88 u89 u90 u91 r A6 c6 w6 hb6 hc6 hr6 hby6
      have h56 : Below q w4 w6 := hb5.trans (hb6.mono hs5)
      have hs6 : q ≤ w6.heap.size := Nat.le_trans hs5 hb6.size
      have bx6 := bx5.on hb6
      clear bx5 hi5 hb6 hb5
      go_wp2_with fail
      refine back_r16 w w6 HT.out g buf line run bx6 HG.out n1 (by omega) ad ae c2 c3 X E hXl HN1.out ((HRX4.out.below h56).more hs6) ((HRE4.out.below h56).more hs6) SX SY HSX.out HSY.out A6 c6 m O hby6 inb m HI.out htr2 r hr6 hc6 ?_
      intro u92 u93 u94 u95 u96 u97 u98 u99 u100 u101 u102 u103 r2 A7 c7 w7 hb7 hc7 hr7 hby7
      have h67 : Below q w4 w7 := h56.trans (hb7.mono hs6)
      have v2 : (convert 23 9 (.slice A7 m c7)).run Tryz.prog w7 = .ok (.string SI) w7 := (by obtain ⟨_, _, e, _, _, _, hr⟩ := hby7; rw [HI.out] at e; cases e; exact convOut HSI.out HI.out hr)
      have v3 : (convert 23 9 (.slice IA m ic)).run Tryz.prog w7 = .ok (.string SI) w7 := (by obtain ⟨_, _, e, _, _, _, hr⟩ := HIB.out w7 h67; rw [HI.out] at e; cases e; exact convOut HSI.out HI.out hr)
      have hfinal := HFIN.out w7 h67
      clear bx6 hby6 hby7 hb7 h56
      go_wp2_with fail
      go_returns
      exact ⟨rfl, hfinal⟩
    · intro u13 u14 u15 u43 u44 u45 u46 u47 u48 u49 u50 u51 u52 u53 u54 u55 u56 u57 u58 u59 u60 u61 u62 u63 u64 u65 u66 u67 u68 u69 u70 u71 u72 u73 u74 u75 u76 u77 u78 u79 u80 w5 hb5
      have hfinal := HFIN.out w5 hb5
      go_wp2_with fail
      go_returns
      exact ⟨rfl, hfinal⟩
  · go_returns
    exact ⟨rfl, HB4.out.below⟩

end Go.Proofs.YtlhiadnolckoeaaGreatDoor
end
