/-
  Walks over the reference's times (printed by wip/tools/reftimes2.py).
-/
import Derived.Test.YtlhiadnolckoeaaGreatDoorSetsB
import Derived.Test.YtlhiadnolckoeaaGreatDoorSetsL
import Derived.Test.YtlhiadnolckoeaaGreatDoorR12
import Derived.Test.YtlhiadnolckoeaaGreatDoorSetsT

section
namespace Go.Proofs.YtlhiadnolckoeaaGreatDoor
open Go.RowKit Go.Maps

noncomputable def timesLoop (k : Nat) : Code := (Tryz.f20.body.bind (fun c => (loopsOf c)[k]?)).getD .skip

set_option maxRecDepth 100000 in
set_option maxHeartbeats 4000000 in
theorem times_l1 (w : World) (g : Nat) (S : ByteArray) (hs : S.size ≤ 1048576) (q0 : w.cell? ⟨g, 0, none⟩ = some (.string S)) (ql : g < w.heap.size) (f d : Nat) (hf : f + d ≤ S.size) (hdig : ∀ (j : Nat) (h : f + j < S.size), j < d → 48 ≤ (S[f + j]'h).toNat ∧ (S[f + j]'h).toNat ≤ 57) (hend : ∀ (h : f + d < S.size), ¬ (48 ≤ (S[f + d]'h).toNat ∧ (S[f + d]'h).toNat ≤ 57))
    {c1 c2 c3 c4 c6 c7 c8 c9 c10 c11 c12 c13 c14 c15 c16 c17 c18 c19 c20 c21 c22 c23 c24 c25 c26 c27 c28 c29 c30 c31 c32 c33 c34 c35 c36 c37 c38 c39 c40 c41 c42 c43 c44 c45 c46 c47 c48 c49 c50 c51 c52 c53 c54 c55 c56 c57 c58 c59 c60 c61 c62 c63 c64 c65 c66 c67 c68 c69 c70 c71 c72 c73 c74 c75 c76 c77 c78 c79 c80 c81 c82 c83 c84 c85 c86 c87 c88 c89 c90 c91 c92 c93 c94 c95 c96 c97 c98 c99 c100 c101 c102 c103 c104 c105 c106 c107 c108 c109 c110 c111 c112 c113 c114 c115 c116 c117 c118 c119 c120 c121 c122 c123 c124 c125 c126 c127 c128 c129 c130 c131 c132 c133 c134 c135 c136 c137 c138 c139 c140 c141 c142 c143 c144 c145 c146 c147 c148 c149 c150 c151 c152 c153 c154 c155 c156 c157 c158 c159 c160 c161 c162 c163 c164 c165 c166 c167 c168 c169 c170 c171 c172 c173 c174 c175 c176 c177 c178 c179 c180 c181 c182 c183 c184 c185 c186 c187 c188 c189 c190 c191 c192 c193 : Value} {Q0 : Exit → Act → World → Prop}
    (hexit : ∀ (u73 u74 u75 u76 u77 u78 u79 u80 u81 u82 u83 u84 u85 u86 u87 u88 u89 u90 u91 u92 u93 u94 u95 u96 u97 u98 u99 : Value), Q0 (.exit 0) ⟨#[.pointer (some ⟨g, 0, none⟩), c1, c2, c3, c4, .int .i64 ((f : Int) + (d : Int)), c6, c7, c8, c9, c10, c11, c12, c13, c14, c15, c16, c17, c18, c19, c20, c21, c22, c23, c24, c25, c26, c27, c28, c29, c30, c31, c32, c33, c34, c35, c36, c37, c38, c39, c40, c41, c42, c43, c44, c45, c46, c47, c48, c49, c50, c51, c52, c53, c54, c55, c56, c57, c58, c59, c60, c61, c62, c63, c64, c65, c66, c67, c68, c69, c70, c71, c72, u73, u74, u75, u76, u77, u78, u79, u80, u81, u82, u83, u84, u85, u86, u87, u88, u89, u90, u91, u92, u93, u94, u95, u96, u97, u98, u99, c100, c101, c102, c103, c104, c105, c106, c107, c108, c109, c110, c111, c112, c113, c114, c115, c116, c117, c118, c119, c120, c121, c122, c123, c124, c125, c126, c127, c128, c129, c130, c131, c132, c133, c134, c135, c136, c137, c138, c139, c140, c141, c142, c143, c144, c145, c146, c147, c148, c149, c150, c151, c152, c153, c154, c155, c156, c157, c158, c159, c160, c161, c162, c163, c164, c165, c166, c167, c168, c169, c170, c171, c172, c173, c174, c175, c176, c177, c178, c179, c180, c181, c182, c183, c184, c185, c186, c187, c188, c189, c190, c191, c192, c193], []⟩ w) :
    Code.wp Tryz.prog (Code.loop (timesLoop 0)) Q0 ⟨#[.pointer (some ⟨g, 0, none⟩), c1, c2, c3, c4, .int .i64 f, c6, c7, c8, c9, c10, c11, c12, c13, c14, c15, c16, c17, c18, c19, c20, c21, c22, c23, c24, c25, c26, c27, c28, c29, c30, c31, c32, c33, c34, c35, c36, c37, c38, c39, c40, c41, c42, c43, c44, c45, c46, c47, c48, c49, c50, c51, c52, c53, c54, c55, c56, c57, c58, c59, c60, c61, c62, c63, c64, c65, c66, c67, c68, c69, c70, c71, c72, c73, c74, c75, c76, c77, c78, c79, c80, c81, c82, c83, c84, c85, c86, c87, c88, c89, c90, c91, c92, c93, c94, c95, c96, c97, c98, c99, c100, c101, c102, c103, c104, c105, c106, c107, c108, c109, c110, c111, c112, c113, c114, c115, c116, c117, c118, c119, c120, c121, c122, c123, c124, c125, c126, c127, c128, c129, c130, c131, c132, c133, c134, c135, c136, c137, c138, c139, c140, c141, c142, c143, c144, c145, c146, c147, c148, c149, c150, c151, c152, c153, c154, c155, c156, c157, c158, c159, c160, c161, c162, c163, c164, c165, c166, c167, c168, c169, c170, c171, c172, c173, c174, c175, c176, c177, c178, c179, c180, c181, c182, c183, c184, c185, c186, c187, c188, c189, c190, c191, c192, c193], []⟩ w := by
  dsimp only at hexit ⊢
  have HX := Lib.hid hexit
  have HD := Lib.hid hdig
  have HE := Lib.hid hend
  clear hexit hdig hend
  conv => arg 2; arg 1; whnf
  go_loopw [5] (fun iv wr => ∃ j : Nat, j ≤ d ∧ iv = .int .i64 ((f : Int) + (j : Int)) ∧ Hid (wr = w)) (fun iv _ => S.size + 1 - (intOf iv).toNat)
  case atStart => exact ⟨0, by omega, by simp, Lib.hid rfl⟩
  case round =>
    obtain ⟨j, hj, rfl, hw⟩ := hrel
    obtain rfl := hw.out
    clear hw
    by_cases hlt : j < d
    · have hjs : f + j < S.size := by omega
      have hdg := HD.out j hjs hlt
      obtain ⟨z, hz⟩ : ∃ z : Int, ((S[f + j]'hjs).toNat : Int) = z := ⟨_, rfl⟩
      have hz0 : 48 ≤ z := by omega
      have hz1 : z ≤ 57 := by omega
      have hji : (f : Int) + (j : Int) < S.size := by omega
      clear hdg
      go_wp2_with fail
      exact ⟨⟨j + 1, by omega, by go_num, Lib.hid trivial⟩, by simp [intOf]; omega⟩
    · obtain rfl : j = d := by omega
      by_cases hjs : f + j < S.size
      · have hdg := HE.out hjs
        obtain ⟨z, hz⟩ : ∃ z : Int, ((S[f + j]'hjs).toNat : Int) = z := ⟨_, rfl⟩
        have hz2 : z < 48 ∨ 57 < z := by omega
        have hz0 : 0 ≤ z := by omega
        have hji : (f : Int) + (j : Int) < S.size := by omega
        clear hdg
        rcases hz2 with hz2 | hz2
        · go_wp2_with fail
          exact HX.out _ _ _ _ _ _ _ _ _ _ _ _ _ _ _ _ _ _ _ _ _ _ _ _ _ _ _
        · go_wp2_with fail
          exact HX.out _ _ _ _ _ _ _ _ _ _ _ _ _ _ _ _ _ _ _ _ _ _ _ _ _ _ _
      · have hji : (S.size : Int) ≤ (f : Int) + (j : Int) := by omega
        go_wp2_with fail
        exact HX.out _ _ _ _ _ _ _ _ _ _ _ _ _ _ _ _ _ _ _ _ _ _ _ _ _ _ _

set_option maxRecDepth 100000 in
set_option maxHeartbeats 4000000 in
theorem times_l2 (W w : World) (B g : Nat) (S : ByteArray) (a : Nat) (x : Pl.TS) (hst : StAt w B g S a x) (hW : BX B g W w) (hBw : B ≤ w.heap.size) (c : UInt8) (n : Nat) (hn : n ≤ 2147483647) (ho : x.out.length + 65536 ≤ 140737488355328)
    {c1 c2 c4 c5 c6 c7 c9 c11 c12 c13 c14 c15 c16 c17 c18 c19 c20 c21 c22 c23 c24 c25 c26 c27 c28 c29 c30 c31 c32 c33 c34 c35 c36 c37 c38 c39 c40 c41 c42 c43 c44 c45 c46 c47 c48 c49 c50 c51 c52 c53 c54 c55 c56 c57 c58 c59 c60 c61 c62 c63 c64 c65 c66 c67 c68 c69 c70 c71 c72 c73 c74 c75 c76 c77 c78 c79 c80 c81 c82 c83 c84 c85 c86 c87 c88 c89 c90 c91 c92 c93 c94 c95 c96 c97 c98 c99 c100 c101 c102 c103 c104 c105 c106 c107 c108 c109 c110 c111 c112 c113 c114 c115 c116 c117 c118 c119 c120 c121 c122 c123 c124 c125 c126 c127 c128 c129 c130 c131 c132 c133 c134 c135 c136 c137 c138 c139 c140 c141 c142 c143 c144 c145 c146 c147 c148 c149 c150 c151 c152 c153 c154 c155 c156 c157 c158 c159 c160 c161 c162 c163 c164 c165 c166 c167 c168 c169 c170 c171 c172 c173 c174 c175 c176 c177 c178 c179 c180 c181 c182 c183 c184 c185 c186 c187 c188 c189 c190 c191 c192 c193 : Value} {Q0 : Exit → Act → World → Prop}
    (hexit : ∀ (u175 u176 u177 u178 u179 u180 u181 u182 u183 u184 u185 u186 u187 u188 u189 u190 u191 u192 u193 : Value) (w1 : World), StAt w1 B g S a { x with out := x.out ++ List.replicate (min n 65536) c } → BX B g W w1 → Q0 (.exit 2) ⟨#[.pointer (some ⟨g, 0, none⟩), c1, c2, .int .u8 (c.toNat : Int), c4, c5, c6, c7, .int .i64 n, c9, .int .i64 ((min n 65536 : Nat) : Int), c11, c12, c13, c14, c15, c16, c17, c18, c19, c20, c21, c22, c23, c24, c25, c26, c27, c28, c29, c30, c31, c32, c33, c34, c35, c36, c37, c38, c39, c40, c41, c42, c43, c44, c45, c46, c47, c48, c49, c50, c51, c52, c53, c54, c55, c56, c57, c58, c59, c60, c61, c62, c63, c64, c65, c66, c67, c68, c69, c70, c71, c72, c73, c74, c75, c76, c77, c78, c79, c80, c81, c82, c83, c84, c85, c86, c87, c88, c89, c90, c91, c92, c93, c94, c95, c96, c97, c98, c99, c100, c101, c102, c103, c104, c105, c106, c107, c108, c109, c110, c111, c112, c113, c114, c115, c116, c117, c118, c119, c120, c121, c122, c123, c124, c125, c126, c127, c128, c129, c130, c131, c132, c133, c134, c135, c136, c137, c138, c139, c140, c141, c142, c143, c144, c145, c146, c147, c148, c149, c150, c151, c152, c153, c154, c155, c156, c157, c158, c159, c160, c161, c162, c163, c164, c165, c166, c167, c168, c169, c170, c171, c172, c173, c174, u175, u176, u177, u178, u179, u180, u181, u182, u183, u184, u185, u186, u187, u188, u189, u190, u191, u192, u193], []⟩ w1) :
    Code.wp Tryz.prog (Code.loop (timesLoop 1)) Q0 ⟨#[.pointer (some ⟨g, 0, none⟩), c1, c2, .int .u8 (c.toNat : Int), c4, c5, c6, c7, .int .i64 n, c9, .int .i64 0, c11, c12, c13, c14, c15, c16, c17, c18, c19, c20, c21, c22, c23, c24, c25, c26, c27, c28, c29, c30, c31, c32, c33, c34, c35, c36, c37, c38, c39, c40, c41, c42, c43, c44, c45, c46, c47, c48, c49, c50, c51, c52, c53, c54, c55, c56, c57, c58, c59, c60, c61, c62, c63, c64, c65, c66, c67, c68, c69, c70, c71, c72, c73, c74, c75, c76, c77, c78, c79, c80, c81, c82, c83, c84, c85, c86, c87, c88, c89, c90, c91, c92, c93, c94, c95, c96, c97, c98, c99, c100, c101, c102, c103, c104, c105, c106, c107, c108, c109, c110, c111, c112, c113, c114, c115, c116, c117, c118, c119, c120, c121, c122, c123, c124, c125, c126, c127, c128, c129, c130, c131, c132, c133, c134, c135, c136, c137, c138, c139, c140, c141, c142, c143, c144, c145, c146, c147, c148, c149, c150, c151, c152, c153, c154, c155, c156, c157, c158, c159, c160, c161, c162, c163, c164, c165, c166, c167, c168, c169, c170, c171, c172, c173, c174, c175, c176, c177, c178, c179, c180, c181, c182, c183, c184, c185, c186, c187, c188, c189, c190, c191, c192, c193], []⟩ w := by
  dsimp only at hexit ⊢
  obtain ⟨M, hM⟩ : ∃ M, min n 65536 = M := ⟨_, rfl⟩
  rw [hM] at hexit
  have hM1 : M ≤ n := by omega
  have hM2 : M ≤ 65536 := by omega
  have hM3 : M = n ∨ M = 65536 := by omega
  have HX := Lib.hid hexit
  have HS0 := Lib.hid hst
  have HW := Lib.hid hW
  clear hexit hst hW hM
  conv => arg 2; arg 1; whnf
  go_loopw [10] (fun iv wr => ∃ i : Nat, i ≤ M ∧ iv = .int .i64 i ∧ Hid (StAt wr B g S a { x with out := x.out ++ List.replicate i c }) ∧ Hid (BX B g W wr) ∧ B ≤ wr.heap.size) (fun iv _ => 65536 - (intOf iv).toNat)
  case atStart => exact ⟨0, by omega, rfl, Lib.hid (by simpa using HS0.out), HW, hBw⟩
  case round =>
    obtain ⟨i, hi, rfl, hst, hbx, hBr⟩ := hrel
    by_cases hlt : i < M
    · obtain ⟨hBg, v, hblk, hown⟩ := hst.out
      obtain ⟨A, cp, rfl, _⟩ := own_slice hown
      have r2 : wr.cell? ⟨g, 2, none⟩ = some (.slice A (x.out ++ List.replicate i c).length cp) := hblk.cell 2
      have hm0 : (x.out ++ List.replicate i c).length = x.out.length + i := by simp
      obtain ⟨m, hm⟩ : ∃ m, (x.out ++ List.replicate i c).length = m := ⟨_, rfl⟩
      have hml : m + 1 ≤ 140737488355328 := by omega
      simp only at hblk hown
      rw [hm] at hown r2 hblk
      have rl := hblk.lt
      have HM := Lib.hid hm
      have HBLK := Lib.hid hblk
      have HOWN := Lib.hid hown
      have hin : (i : Int) < n := by omega
      have hi6 : (i : Int) < 65536 := by omega
      have HR : Hid ((x.out ++ List.replicate i c) ++ [c] = x.out ++ List.replicate (i + 1) c) := Lib.hid (by rw [List.replicate_succ', List.append_assoc])
      clear hblk hown hm hm0 hst
      go_wp2_with (first
        | (at_builtin; refine wpList_push rfl _ _ rfl wr B (.slice A m cp) m (x.out ++ List.replicate i c) c rfl HOWN.out HM.out.symm rfl hBr hml ?_; intro A2 c2 w2 hown2 hg2 hat2
           have b2 := Blk.grown (HBLK.out.alloc _) hg2 (own_blk_ne HOWN.out HBLK.out (by decide)).symm
           have r22 := b2.cell 2
           have f2 := b2.frozen 2
           have l2 := b2.lt))
      refine ⟨⟨i + 1, by omega, by go_num, ?_, ?_, ?_⟩, by simp [intOf]; omega⟩
      · refine Lib.hid ⟨hBg, _, b2.set_ 2 _, ?_⟩
        simp only
        rw [← HR.out]
        have hl : (x.out ++ List.replicate i c ++ [c]).length = m + 1 := by rw [List.length_append, HM.out]; rfl
        rw [hl]
        exact ownsRow_setCell_other hown2 (own_blk_ne hown2 b2 (by decide)) _
      · exact Lib.hid ((hbx.out.then (((Below.refl B wr).alloc hBr _).grown hg2 (Nat.le_trans hBr (by simp)) (fun j hj => (HOWN.out.lt j hj).1))).setG 2 _)
      · have := (((Below.refl B wr).alloc hBr (.cells #[.int .u8 (c.toNat : Int)] 5)).grown hg2 (Nat.le_trans hBr (by simp)) (fun j hj => (HOWN.out.lt j hj).1)).size
        exact Nat.le_trans hBr (by simpa [World.setCell] using this)
    · obtain rfl : i = M := by omega
      rcases hM3 with h | h
      · subst h
        go_wp2_with fail
        exact HX.out _ _ _ _ _ _ _ _ _ _ _ _ _ _ _ _ _ _ _ wr hst.out hbx.out
      · subst h
        have hn6 : (65536 : Int) ≤ n := by omega
        go_wp2_with fail
        all_goals exact HX.out _ _ _ _ _ _ _ _ _ _ _ _ _ _ _ _ _ _ _ wr hst.out hbx.out

end Go.Proofs.YtlhiadnolckoeaaGreatDoor
end

section
namespace Go.Proofs.YtlhiadnolckoeaaGreatDoor
open Go.RowKit Go.Maps

/-- what a call of times comes to where it hits -/
def TimesHit (w : World) (B g : Nat) (S : ByteArray) (b : Nat) (y : Pl.TS) (e : Ending) (w' : World) : Prop := BX B g w w' ∧ e = .returned (.bool true) ∧ StAt w' B g S b y
section
variable {w1 : World} {B g a b : Nat} {S : ByteArray} {x : Pl.TS} {v A0 : Value}
theorem stMoved (hg0 : g < B) (h2 : Blk w1 g 55 #[.string S, A0, v, .int .i64 x.rest, .bool x.bad]) (hown : w1.ownsRow B 5 1 v x.out.length (bytesC x.out)) :
    StAt (w1.setCell ⟨g, 1, none⟩ (.int .i64 b)) B g S b x := ⟨hg0, v, h2.set_ 1 _, ownsRow_setCell_other hown (own_blk_ne hown h2 (by decide)) _⟩
theorem StAt.bad (h : StAt w1 B g S b x) : StAt (w1.setCell ⟨g, 4, none⟩ (.bool true)) B g S b { x with bad := true } := by
  obtain ⟨hg0, v, h2, hown⟩ := h
  exact ⟨hg0, v, h2.set_ 4 _, ownsRow_setCell_other hown (own_blk_ne hown h2 (by decide)) _⟩
theorem StAt.resting (h : StAt w1 B g S b x) (n : Nat) (hn : x.out.length = n) : StAt (w1.setCell ⟨g, 3, none⟩ (.int .i64 n)) B g S b { x with rest := (x.out.length : Int) } := by
  obtain ⟨hg0, v, h2, hown⟩ := h
  subst hn
  exact ⟨hg0, v, h2.set_ 3 _, ownsRow_setCell_other hown (own_blk_ne hown h2 (by decide)) _⟩
end

set_option maxRecDepth 100000 in
set_option maxHeartbeats 4000000 in
theorem refTimes_miss (w : World) (B g : Nat) (S : ByteArray) (a : Nat) (x : Pl.TS) (h : StAt w B g S a x) (ha : a < S.size) (hs : S.size ≤ 1048576) (hm : ¬ (Lib.hasPrefix (S.data.toList.drop a) [91] = true ∧ (S.data.toList.drop a).drop 1 ≠ [])) :
    Calls Tryz.prog 20 #[.pointer (some ⟨g, 0, none⟩)] w (StPost B g S a x none w) := by
  have hl : S.data.toList.length = S.size := Array.length_toList
  have HH := Lib.hid h
  obtain ⟨_, v, hblk, _⟩ := h
  have q0 : w.cell? ⟨g, 0, none⟩ = some (.string S) := hblk.cell 0
  have q1 : w.cell? ⟨g, 1, none⟩ = some (.int .i64 a) := hblk.cell 1
  have ql := hblk.lt
  have wa1 : IntKind.i64.wrap ((a : Int) + 1) = (a : Int) + 1 := IntWalk.i64_in _ (by omega)
  clear hblk
  by_cases h1 : a + 1 < S.size
  · rw [str_pre1 ha] at hm
    obtain ⟨z0, hz0⟩ : ∃ z : Int, ((S[a]'ha).toNat : Int) = z := ⟨_, rfl⟩
    have n0 := u8_ne hz0 (p := 91) (n := 91) rfl
    have h2 : (S.data.toList.drop a).drop 1 ≠ [] := fun e => by
      have := congrArg List.length e
      rw [List.length_drop, List.length_drop, List.length_nil] at this
      omega
    have hi : (a : Int) + 1 < S.size := by omega
    have hd : decide ((S.size : Int) ≤ (a : Int) + 1) = false := decide_eq_false (by omega)
    cases e0 : S[a]'ha == 91 with
    | false =>
      rw [e0] at n0
      simp only [Bool.not_false] at n0
      clear hm h2 e0
      go_enter Tryz.func20, Tryz.ntmps20
      go_wp2_with fail
      go_quiet (fail)
      go_wp2_with fail
      go_returns
      exact ⟨bx (below_drew w _), rfl, HH.out.drewN _⟩
    | true => exact absurd ⟨e0, h2⟩ hm
  · have hi : (S.size : Int) ≤ (a : Int) + 1 := by omega
    have hd : decide ((S.size : Int) ≤ (a : Int) + 1) = true := decide_eq_true hi
    clear hm h1
    go_enter Tryz.func20, Tryz.ntmps20
    go_wp2_with fail
    go_quiet (fail)
    go_wp2_with fail
    go_returns
    exact ⟨bx (below_drew w _), rfl, HH.out.drewN _⟩

set_option maxRecDepth 100000 in
set_option maxHeartbeats 4000000 in
theorem refTimes_nostar (w : World) (B g : Nat) (S : ByteArray) (a : Nat) (x : Pl.TS) (h : StAt w B g S a x) (hBw : B ≤ w.heap.size) (ha : a < S.size) (hs : S.size ≤ 1048576) (h1 : a + 1 < S.size) (h91 : (S[a]'ha == 91) = true) (c : UInt8) (n k : Nat) (hk : a + 1 + n = k) (hks : k ≤ S.size) (hsg : ∀ W, Calls Tryz.prog 21 #[.string S, .int .i64 ((a : Int) + 1)] W fun e w' => e = .returned (.tuple #[.int .u8 c.toNat, .int .i64 n]) ∧ Below W.heap.size W w') (hm : ∀ h : k < S.size, (S[k]'h == 42) = false) :
    Calls Tryz.prog 20 #[.pointer (some ⟨g, 0, none⟩)] w (StPost B g S a x none w) := by
  have HH := Lib.hid h
  obtain ⟨hBg, v, hblk, hown⟩ := h
  obtain ⟨A, cp, rfl, _⟩ := own_slice hown
  have q0 : w.cell? ⟨g, 0, none⟩ = some (.string S) := hblk.cell 0
  have q1 : w.cell? ⟨g, 1, none⟩ = some (.int .i64 a) := hblk.cell 1
  have ql := hblk.lt
  have HSG := Lib.hid hsg
  have HBLK := Lib.hid hblk
  have HOWN := Lib.hid hown
  have hn0 : 0 ≤ (n : Int) := by omega
  have hni : (n : Int) ≤ 1048576 := by omega
  have hi : (a : Int) + 1 < S.size := by omega
  have hd : decide ((S.size : Int) ≤ (a : Int) + 1) = false := decide_eq_false (by omega)
  have wa1 : IntKind.i64.wrap ((a : Int) + 1) = (a : Int) + 1 := IntWalk.i64_in _ (by omega)
  obtain ⟨z0, hz0⟩ : ∃ z : Int, ((S[a]'ha).toNat : Int) = z := ⟨_, rfl⟩
  have n0 : (z0 != 91) = false := by rw [u8_ne hz0 (p := 91) (n := 91) rfl, h91]; rfl
  have hkI : (a : Int) + 1 + n = k := by omega
  clear h91 hsg hblk hown
  by_cases hkl : k < S.size
  · obtain ⟨z1, hz1⟩ : ∃ z : Int, ((S[k]'hkl).toNat : Int) = z := ⟨_, rfl⟩
    have n1 : (z1 != 42) = true := by rw [u8_ne hz1 (p := 42) (n := 42) rfl, hm hkl]; rfl
    have hkl2 : (k : Int) < S.size := by omega
    clear hm
    go_enter Tryz.func20, Tryz.ntmps20
    go_wp2_with fail
    go_quiet (fail)
    go_wp2_with fail
    go_region_held3 (fun W => W.cell? ⟨g, 0, none⟩ = some (.string S) ∧ W.cell? ⟨g, 1, none⟩ = some (.int .i64 a))
      (first | exact ⟨q0, q1⟩ | exact ⟨p0, p1⟩ | exact ⟨HBLK.out.cell 0, HBLK.out.cell 1⟩)
      (first
      | (go_at_call 21; (refine (HSG.out _).mono ?_); rintro e w1 ⟨rfl, hb1⟩
         have hbw : Below w.heap.size w w1 := (below_drew w _).trans hb1
         have B1 := Blk.on HBLK.out hbw
         have p0 : w1.cell? ⟨g, 0, none⟩ = some (.string S) := B1.cell 0
         have p1 : w1.cell? ⟨g, 1, none⟩ = some (.int .i64 a) := B1.cell 1
         have fp1 := B1.frozen 1
         have pl := B1.lt
         have O1 := Lib.hid (ownsRow_same HOWN.out fun k hk => hbw.block k (HOWN.out.lt k hk).2)
         have hBw1 : B ≤ w1.heap.size := Nat.le_trans hBw hbw.size))
    go_wp2_with fail
    go_returns
    exact ⟨bx (hbw.mono hBw), rfl, HH.out.below hbw⟩
  · have hkl2 : (S.size : Int) ≤ (k : Int) := by omega
    clear hm
    go_enter Tryz.func20, Tryz.ntmps20
    go_wp2_with fail
    go_quiet (fail)
    go_wp2_with fail
    go_region_held3 (fun W => W.cell? ⟨g, 0, none⟩ = some (.string S) ∧ W.cell? ⟨g, 1, none⟩ = some (.int .i64 a))
      (first | exact ⟨q0, q1⟩ | exact ⟨p0, p1⟩ | exact ⟨HBLK.out.cell 0, HBLK.out.cell 1⟩)
      (first
      | (go_at_call 21; (refine (HSG.out _).mono ?_); rintro e w1 ⟨rfl, hb1⟩
         have hbw : Below w.heap.size w w1 := (below_drew w _).trans hb1
         have B1 := Blk.on HBLK.out hbw
         have p0 : w1.cell? ⟨g, 0, none⟩ = some (.string S) := B1.cell 0
         have p1 : w1.cell? ⟨g, 1, none⟩ = some (.int .i64 a) := B1.cell 1
         have fp1 := B1.frozen 1
         have pl := B1.lt
         have O1 := Lib.hid (ownsRow_same HOWN.out fun k hk => hbw.block k (HOWN.out.lt k hk).2)
         have hBw1 : B ≤ w1.heap.size := Nat.le_trans hBw hbw.size))
    go_wp2_with fail
    go_returns
    exact ⟨bx (hbw.mono hBw), rfl, HH.out.below hbw⟩

set_option maxRecDepth 100000 in
set_option maxHeartbeats 4000000 in
theorem refTimes_noend (w : World) (B g : Nat) (S : ByteArray) (a : Nat) (x : Pl.TS) (h : StAt w B g S a x) (hBw : B ≤ w.heap.size) (ha : a < S.size) (hs : S.size ≤ 1048576) (h1 : a + 1 < S.size) (h91 : (S[a]'ha == 91) = true) (c : UInt8) (n k : Nat) (hk : a + 1 + n = k) (hsg : ∀ W, Calls Tryz.prog 21 #[.string S, .int .i64 ((a : Int) + 1)] W fun e w' => e = .returned (.tuple #[.int .u8 c.toNat, .int .i64 n]) ∧ Below W.heap.size W w') (hkl : k < S.size) (h42 : (S[k]'hkl == 42) = true) (f d t : Nat) (hf : k + 1 = f) (ht : f + d = t) (hts : t ≤ S.size) (hdig : ∀ (j : Nat) (h : f + j < S.size), j < d → 48 ≤ (S[f + j]'h).toNat ∧ (S[f + j]'h).toNat ≤ 57) (hend : ∀ (h : f + d < S.size), ¬ (48 ≤ (S[f + d]'h).toNat ∧ (S[f + d]'h).toNat ≤ 57)) (hm : ∀ h : t < S.size, (S[t]'h == 93) = false) :
    Calls Tryz.prog 20 #[.pointer (some ⟨g, 0, none⟩)] w (StPost B g S a x none w) := by
  have HH := Lib.hid h
  obtain ⟨hBg, v, hblk, hown⟩ := h
  obtain ⟨A, cp, rfl, _⟩ := own_slice hown
  have q0 : w.cell? ⟨g, 0, none⟩ = some (.string S) := hblk.cell 0
  have q1 : w.cell? ⟨g, 1, none⟩ = some (.int .i64 a) := hblk.cell 1
  have ql := hblk.lt
  have HSG := Lib.hid hsg
  have HBLK := Lib.hid hblk
  have HOWN := Lib.hid hown
  have hn0 : 0 ≤ (n : Int) := by omega
  have hni : (n : Int) ≤ 1048576 := by omega
  have hi : (a : Int) + 1 < S.size := by omega
  have hd : decide ((S.size : Int) ≤ (a : Int) + 1) = false := decide_eq_false (by omega)
  have wa1 : IntKind.i64.wrap ((a : Int) + 1) = (a : Int) + 1 := IntWalk.i64_in _ (by omega)
  obtain ⟨z0, hz0⟩ : ∃ z : Int, ((S[a]'ha).toNat : Int) = z := ⟨_, rfl⟩
  have n0 : (z0 != 91) = false := by rw [u8_ne hz0 (p := 91) (n := 91) rfl, h91]; rfl
  have hkI : (a : Int) + 1 + n = k := by omega
  clear h91 hsg hblk hown
  obtain ⟨z1, hz1⟩ : ∃ z : Int, ((S[k]'hkl).toNat : Int) = z := ⟨_, rfl⟩
  have n1 : (z1 != 42) = false := by rw [u8_ne hz1 (p := 42) (n := 42) rfl, h42]; rfl
  have hkl2 : (k : Int) < S.size := by omega
  have hfI : (k : Int) + 1 = f := by omega
  have htI : (f : Int) + d = t := by omega
  have HDIG := Lib.hid hdig
  have HEND := Lib.hid hend
  clear h42 hdig hend
  by_cases htl : t < S.size
  · obtain ⟨z2, hz2⟩ : ∃ z : Int, ((S[t]'htl).toNat : Int) = z := ⟨_, rfl⟩
    have n2 : (z2 != 93) = true := by rw [u8_ne hz2 (p := 93) (n := 93) rfl, hm htl]; rfl
    have htl2 : (t : Int) < S.size := by omega
    clear hm
    go_enter Tryz.func20, Tryz.ntmps20
    go_wp2_with fail
    go_quiet (fail)
    go_wp2_with fail
    go_region_held3 (fun W => W.cell? ⟨g, 0, none⟩ = some (.string S) ∧ W.cell? ⟨g, 1, none⟩ = some (.int .i64 a))
      (first | exact ⟨q0, q1⟩ | exact ⟨p0, p1⟩ | exact ⟨HBLK.out.cell 0, HBLK.out.cell 1⟩)
      (first
      | (go_at_call 21; (refine (HSG.out _).mono ?_); rintro e w1 ⟨rfl, hb1⟩
         have hbw : Below w.heap.size w w1 := (below_drew w _).trans hb1
         have B1 := Blk.on HBLK.out hbw
         have p0 : w1.cell? ⟨g, 0, none⟩ = some (.string S) := B1.cell 0
         have p1 : w1.cell? ⟨g, 1, none⟩ = some (.int .i64 a) := B1.cell 1
         have fp1 := B1.frozen 1
         have pl := B1.lt
         have O1 := Lib.hid (ownsRow_same HOWN.out fun k hk => hbw.block k (HOWN.out.lt k hk).2)
         have hBw1 : B ≤ w1.heap.size := Nat.le_trans hBw hbw.size))
    go_wp2_with fail
    refine times_l1 w1 g S hs p0 pl f d (by omega) HDIG.out HEND.out ?_
    intro u73 u74 u75 u76 u77 u78 u79 u80 u81 u82 u83 u84 u85 u86 u87 u88 u89 u90 u91 u92 u93 u94 u95 u96 u97 u98 u99
    go_wp2_with fail
    go_returns
    exact ⟨bx (hbw.mono hBw), rfl, HH.out.below hbw⟩
  · have htl2 : (S.size : Int) ≤ (t : Int) := by omega
    clear hm
    go_enter Tryz.func20, Tryz.ntmps20
    go_wp2_with fail
    go_quiet (fail)
    go_wp2_with fail
    go_region_held3 (fun W => W.cell? ⟨g, 0, none⟩ = some (.string S) ∧ W.cell? ⟨g, 1, none⟩ = some (.int .i64 a))
      (first | exact ⟨q0, q1⟩ | exact ⟨p0, p1⟩ | exact ⟨HBLK.out.cell 0, HBLK.out.cell 1⟩)
      (first
      | (go_at_call 21; (refine (HSG.out _).mono ?_); rintro e w1 ⟨rfl, hb1⟩
         have hbw : Below w.heap.size w w1 := (below_drew w _).trans hb1
         have B1 := Blk.on HBLK.out hbw
         have p0 : w1.cell? ⟨g, 0, none⟩ = some (.string S) := B1.cell 0
         have p1 : w1.cell? ⟨g, 1, none⟩ = some (.int .i64 a) := B1.cell 1
         have fp1 := B1.frozen 1
         have pl := B1.lt
         have O1 := Lib.hid (ownsRow_same HOWN.out fun k hk => hbw.block k (HOWN.out.lt k hk).2)
         have hBw1 : B ≤ w1.heap.size := Nat.le_trans hBw hbw.size))
    go_wp2_with fail
    refine times_l1 w1 g S hs p0 pl f d (by omega) HDIG.out HEND.out ?_
    intro u73 u74 u75 u76 u77 u78 u79 u80 u81 u82 u83 u84 u85 u86 u87 u88 u89 u90 u91 u92 u93 u94 u95 u96 u97 u98 u99
    go_wp2_with fail
    go_returns
    exact ⟨bx (hbw.mono hBw), rfl, HH.out.below hbw⟩

end Go.Proofs.YtlhiadnolckoeaaGreatDoor
end
