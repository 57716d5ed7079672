/-
  Parts that the claims share: A walk over call of a process that runs to its end at once; A walk over Write of a process that runs to its end at once; A walk over stepio.Write where no fault is left; A job that runs to its end at once, no fault left: how it stands in memory; what Write does to it; Walks over text.Word and Diag: what is said of errors; A walk over slices.Clone at []string; Small laws on worlds behind worlds. Of no program; Walks over stepio.Write and Say of a job that runs to its end at once, and over Args; DERIVED: THE SHELF's CONTRACTS AT THIS DUMP, IN PLAIN WORDS (tools/lay-plain.mjs out of 'TryzIter.lea.
-/
import Derived.Test.YtlhiadnolckoeaaGreatDoorR02
import Derived.LoopN
import Derived.Test.YtlhiadnolckoeaaGreatDoorR01
import Derived.Lib.ConvBytes
import Derived.Laws.IdiomStrings
import Derived.WalkKit
import Derived.WalkSpells
import Derived.WalkLawsBesides
import Derived.Lib.Hide
import Derived.Handy
import Derived.Laws.Tables
import Derived.Lib.SliceRun
import Derived.Shelf.SlGeneric
import Derived.Shelf.SlIter.Nil
import Derived.Shelf.SortM.Plain
import Derived.Shelf.SortM.SortNone
import Derived.Ground.GgzProg
import Derived.Ground.SlgmProg
import Derived.Test.YtlhiadnolckoeaaGreatDoorProg
import Derived.Lib.OwnKind
import Derived.RangeFuncNested

section
namespace Go.Proofs.YtlhiadnolckoeaaGreatDoor
open Go.RowKit Go.Maps

set_option maxRecDepth 100000 in
set_option maxHeartbeats 2000000 in
theorem call_top (w : World) (p : Nat) (J : PS) (h : ProcOf w p J) (hm : J.may = true) (ht : J.top = true) (ha : J.at_ = 0) (hl : J.log = []) (hst : J.steps < 4611686018427387904)
    (id : FuncId) (caps : Array Value) (hen : ∀ W, (callFunc id caps).run Tryz.prog W = .ok (.enter id caps) W) (a0 a1 a2 a3 a4 a5 a6 a7 a8 a9 : Value) (er : Int) (hone : (#[a0, a1, a2, a3, a4, a5, a6, a7, a8, a9, .int .i64 er] : Array Value).all (·.oneCell') = true) (hne : (er == 10) = false) (S : List Nat) (hS : ∀ g ∈ S, g < w.heap.size) (R : World → Prop)
    (hdo : ∀ W, ProcOf W p { J with steps := J.steps + 1 } → Turns [p] w W → Calls Tryz.prog id caps W fun e w1 => e = .returned (.agg #[a0, a1, a2, a3, a4, a5, a6, a7, a8, a9, .int .i64 er]) ∧ Turns S W w1 ∧ ProcOf w1 p { J with steps := J.steps + 1 } ∧ R w1) :
    Calls Tryz.prog 189 #[.pointer (some ⟨p, 0, none⟩), .func (.func id) #[] caps] w fun e w' => e = .returned (.agg #[a0, a1, a2, a3, a4, a5, a6, a7, a8, a9, .int .i64 er]) ∧
      ∃ w1, R w1 ∧ Turns [w.heap.size] w1 w' ∧ Turns ([p] ++ S) w w1 ∧ w.heap.size < w1.heap.size := by
  have hb := h.blk
  obtain ⟨A, cp, hlv, _⟩ := own_slice h.log
  rw [hl, List.length_nil] at hlv
  have c8 : w.cell? ⟨p, 10, none⟩ = some (.slice A 0 cp) := by rw [hb.cell 10, ← hlv]; rfl
  have c9 : w.cell? ⟨p, 11, none⟩ = some (.int .i64 0) := by rw [hb.cell 11]; simp [procCells, ha]
  have c10 : w.cell? ⟨p, 12, none⟩ = some (.bool true) := by rw [hb.cell 12]; simp [procCells, hm]
  have c11 : w.cell? ⟨p, 13, none⟩ = some (.bool true) := by rw [hb.cell 13]; simp [procCells, ht]
  have c13 : w.cell? ⟨p, 15, none⟩ = some (.int .i64 (J.steps : Int)) := by rw [hb.cell 15]; simp [procCells]
  have f10 : w.frozen? ⟨p, 12, none⟩ = false := hb.frozen 12
  have f13 : w.frozen? ⟨p, 15, none⟩ = false := hb.frozen 15
  have lp := hb.lt
  have hw1 : wrap64 ((J.steps : Int) + 1) = ((J.steps + 1 : Nat) : Int) := w64 _ (by omega)
  go_enter Tryz.func189, Tryz.ntmps189
  go_wp2_with fail
  obtain ⟨Z, hZ⟩ : ∃ Z, (w.alloc (.cells #[.int .i64 0, .int .i64 0, .slice none 0 0, .slice none 0 0, .int .i64 0, .bool false, .int .i64 0, .int .i64 0, .int .i64 0, .int .i64 0, .int .i64 0] replyT)) = Z := ⟨_, rfl⟩
  have hzb : Blk Z w.heap.size replyT replyZ := by rw [← hZ]; exact Blk.new w _ _
  have hTZ : Turns [] w Z := by rw [← hZ]; exact (Turns.refl _ w).alloc _
  have pZ : Blk Z p 132 (procCells J) := (hTZ.block p lp (by simp)).trans hb
  have d8 : Z.cell? ⟨p, 10, none⟩ = some (.slice A 0 cp) := (hTZ.cell lp (by simp)).trans c8
  have d9 : Z.cell? ⟨p, 11, none⟩ = some (.int .i64 0) := (hTZ.cell lp (by simp)).trans c9
  have d10 : Z.cell? ⟨p, 12, none⟩ = some (.bool true) := (hTZ.cell lp (by simp)).trans c10
  have d11 : Z.cell? ⟨p, 13, none⟩ = some (.bool true) := (hTZ.cell lp (by simp)).trans c11
  have d13 : Z.cell? ⟨p, 15, none⟩ = some (.int .i64 (J.steps : Int)) := (hTZ.cell lp (by simp)).trans c13
  have e10 : Z.frozen? ⟨p, 12, none⟩ = false := pZ.frozen 12
  have e13 : Z.frozen? ⟨p, 15, none⟩ = false := pZ.frozen 15
  have lZ := pZ.lt
  rw [hZ]
  clear c8 c9 c10 c11 c13 f10 f13
  obtain ⟨g, hg⟩ : ∃ g, w.heap.size = g := ⟨_, rfl⟩
  rw [hg] at hzb ⊢
  have hPW : ∀ nq, ProcOf (((Z.drewN nq).setCell ⟨p, 12, none⟩ (.bool true)).setCell ⟨p, 15, none⟩ (.int .i64 ((J.steps : Int) + 1))) p { J with steps := J.steps + 1 } := by
    intro nq
    have hT : Turns [p] w (((Z.drewN nq).setCell ⟨p, 12, none⟩ (.bool true)).setCell ⟨p, 15, none⟩ (.int .i64 ((J.steps : Int) + 1))) := ((((Turns.more (S' := [p]) hTZ (by simp)).trans (w' := Z) (w'' := Z.drewN nq) ⟨rfl, rfl, rfl, Nat.le_refl _, fun _ _ _ => rfl⟩).setCell ⟨p, 12, none⟩ _ (fun _ => List.mem_singleton.2 rfl)).setCell ⟨p, 15, none⟩ _ (fun _ => List.mem_singleton.2 rfl))
    refine ⟨?_, ownsRow_same h.args fun g hg => hT.block g (h.args.lt g hg).2 ?_, ownsRow_same h.env fun g hg => hT.block g (h.env.lt g hg).2 ?_, ownsRow_same h.log fun g hg => hT.block g (h.log.lt g hg).2 ?_⟩
    · have b1 : Blk (((Z.drewN nq).setCell ⟨p, 12, none⟩ (.bool true)).setCell ⟨p, 15, none⟩ (.int .i64 ((J.steps : Int) + 1))) p 132 _ := ((pZ.drewN nq).set_ 12 (.bool true)).set_ 15 (.int .i64 ((J.steps : Int) + 1))
      rw [show procCells { J with steps := J.steps + 1 } = ((procCells J).setIfInBounds 12 (.bool true)).setIfInBounds 15 (.int .i64 ((J.steps : Int) + 1)) by simp [procCells, hm]]
      exact b1
    all_goals
      rw [List.mem_singleton]
      rintro rfl
    · exact own_blk_ne h.args hb (by decide) hg
    · exact own_blk_ne h.env hb (by decide) hg
    · exact own_blk_ne h.log hb (by decide) hg
  have hTW : ∀ nq, Turns [p] w (((Z.drewN nq).setCell ⟨p, 12, none⟩ (.bool true)).setCell ⟨p, 15, none⟩ (.int .i64 ((J.steps : Int) + 1))) := fun nq =>
    ((((Turns.more (S' := [p]) hTZ (by simp)).trans (w' := Z) (w'' := Z.drewN nq) ⟨rfl, rfl, rfl, Nat.le_refl _, fun _ _ _ => rfl⟩).setCell ⟨p, 12, none⟩ _ (fun _ => List.mem_singleton.2 rfl)).setCell ⟨p, 15, none⟩ _ (fun _ => List.mem_singleton.2 rfl))
  have hgW : ∀ nq, Blk (((Z.drewN nq).setCell ⟨p, 12, none⟩ (.bool true)).setCell ⟨p, 15, none⟩ (.int .i64 ((J.steps : Int) + 1))) g replyT replyZ := fun nq => ((hzb.drewN nq).far (by show g ≠ p; omega) _).far (by show g ≠ p; omega) _
  go_quiet (fail)
  go_wp2_with fail
  refine wp_loop_rounds 1 ?_
  rw [rounds_succ]
  go_wp2_with (first
    | (refine (hdo _ (hPW _) (hTW _)).mono ?_; rintro e w1 ⟨rfl, hT1, hP1, hR1⟩; have g1 : Blk w1 g replyT replyZ := (hT1.block g (Blk.lt (hgW _)) (fun hm => by have := hS g hm; omega)).trans (hgW _); have lg1 := g1.lt; have lp1 := hP1.blk.lt)
    | (refine wpList_store_blk rfl replyT (.tmp 5) (.tmp 39) rfl w1.heap.size replyT replyZ #[a0, a1, a2, a3, a4, a5, a6, a7, a8, a9, .int .i64 er] rfl rfl (Blk.new w1 _ _) rfl (by kernel_rfl) hone ?_; intro w9 b9 g9; obtain ⟨x0, x1, x2, x3, x4, x5, x6, x7, x8, x9, x10, l9⟩ := blk11 b9; have p9 : Blk w9 p 132 _ := Blk.grown (hP1.blk.alloc _) g9 (by simp; omega); have q13 : w9.cell? ⟨p, 13, none⟩ = some (.bool true) := (by rw [p9.cell 13]; simp [procCells, ht]); have gg9 : Blk w9 g replyT replyZ := Blk.grown (g1.alloc _) g9 (by simp; omega))
    | (refine wpList_load_row rfl replyT (.tmp 5) rfl w1.heap.size rfl replyT #[a0, a1, a2, a3, a4, a5, a6, a7, a8, a9, .int .i64 er] (0, 0) _ b9 Tryz.underlying302 rfl (by kernel_rfl) ?_)
    | (refine wpList_store_blk rfl replyT (.tmp 4) (.tmp 47) rfl g replyT replyZ #[a0, a1, a2, a3, a4, a5, a6, a7, a8, a9, .int .i64 er] rfl rfl gg9 rfl (by kernel_rfl) hone ?_; intro w10 b10 g10))
  obtain ⟨z0, z1, z2, z3, z4, z5, z6, z7, z8, z9, z10, _⟩ := blk11 b10
  refine bodyPost_ret (v := .agg #[a0, a1, a2, a3, a4, a5, a6, a7, a8, a9, .int .i64 er]) (by simp [results, Tryz.results189, go_sem, z0, z1, z2, z3, z4, z5, z6, z7, z8, z9, z10]) rfl ?_
  refine ⟨rfl, w1, hR1, ?_, ?_, by rw [hg]; exact lg1⟩
  · rw [hg]
    exact (((Turns.refl [g] w1).alloc _).grown g9 (fun k e hk => by cases e; omega)).grown g10 (fun k e _ => by cases e; simp)
  · exact ((hTW _).more (by simp)).trans (hT1.more (by intro k hk; simp [hk]))

end Go.Proofs.YtlhiadnolckoeaaGreatDoor
end

section
namespace Go.Proofs.YtlhiadnolckoeaaGreatDoor
open Go.RowKit Go.Maps

theorem replyC_arr (q : Int × Int) : (replyC q).toArray = #[.int .i64 q.1, .int .i64 0, .slice none 0 0, .slice none 0 0, .int .i64 0, .bool false, .int .i64 0, .int .i64 0, .int .i64 0, .int .i64 0, .int .i64 q.2] := rfl

set_option maxRecDepth 100000 in
set_option maxHeartbeats 2000000 in
theorem procWrite_top (w : World) (p : Nat) (J : PS) (h : ProcOf w p J) (hm : J.may = true) (ht : J.top = true) (ha : J.at_ = 0) (hl : J.log = []) (hst : J.steps < 4611686018427387904)
    (fd bv : Value) (hfd : fd.oneCell' = true) (hbv : bv.oneCell' = true) (n er : Int) (hne : (er == 10) = false) (S : List Nat) (hS : ∀ g ∈ S, g < w.heap.size) (hSp : ∀ g ∈ J.foot p, g ∉ S) (R : World → World → Prop)
    (hw : ∀ W, ProcOf W p { J with steps := J.steps + 1 } → Turns [p] w W → Calls Tryz.prog 191 #[.pointer (some ⟨J.tb, 0, none⟩), fd, bv] W fun e w4 => e = .returned (.tuple #[.int .i64 n, .int .i64 er]) ∧ Turns S W w4 ∧ R W w4) :
    Calls Tryz.prog 151 #[.pointer (some ⟨p, 0, none⟩), fd, bv] w fun e w' => e = .returned (.tuple #[.int .i64 n, .int .i64 er]) ∧ ProcOf w' p { J with steps := J.steps + 1 } ∧
      ∃ W w4 N, R W w4 ∧ (∀ g ∈ N, w.heap.size ≤ g ∧ g < W.heap.size) ∧ Turns N w4 w' ∧ Turns ([p] ++ S) w w4 := by
  have hmf : ∀ (fn : Fn) (first cap : Array Value) (w : World), (Instr.makeFunc fn first cap).run Tryz.prog w = .ok (.func fn first cap) w := fun _ _ _ _ => rfl
  go_enter Tryz.func151, Tryz.ntmps151
  go_wp2_with fail
  obtain ⟨hh, hhh⟩ : ∃ hh, w.heap.size = hh := ⟨_, rfl⟩
  obtain ⟨W3, hW3⟩ : ∃ W3, ((w.alloc (.cells #[.pointer (some ⟨p, 0, none⟩)] 124)).alloc (.cells #[fd] 3)).alloc (.cells #[bv] 23) = W3 := ⟨_, rfl⟩
  have lp : p < hh := by rw [← hhh]; exact h.blk.lt
  have k0 : Blk W3 hh 124 #[.pointer (some ⟨p, 0, none⟩)] := by rw [← hW3, ← hhh]; exact ((Blk.new w _ _).alloc _).alloc _
  have k1 : Blk W3 (hh + 1) 3 #[fd] := by
    have := (Blk.new (w.alloc (.cells #[.pointer (some ⟨p, 0, none⟩)] 124)) 3 #[fd]).alloc (.cells #[bv] 23)
    rwa [hW3, show (w.alloc (.cells #[.pointer (some ⟨p, 0, none⟩)] 124)).heap.size = hh + 1 by simp [hhh]] at this
  have k2 : Blk W3 (hh + 1 + 1) 23 #[bv] := by
    have := Blk.new ((w.alloc (.cells #[.pointer (some ⟨p, 0, none⟩)] 124)).alloc (.cells #[fd] 3)) 23 #[bv]
    rwa [hW3, show ((w.alloc (.cells #[.pointer (some ⟨p, 0, none⟩)] 124)).alloc (.cells #[fd] 3)).heap.size = hh + 1 + 1 by simp [hhh]] at this
  have T3 : Turns [] w W3 := by rw [← hW3]; exact (((Turns.refl _ w).alloc _).alloc _).alloc _
  have P3 : ProcOf W3 p J := h.turns T3 (by simp)
  have s3 : hh + 1 + 1 < W3.heap.size := k2.lt
  rw [hW3, hhh]
  rw [hhh] at hS
  have hcall := call_top W3 p J P3 hm ht ha hl hst 190 #[.pointer (some ⟨hh, 0, none⟩), .pointer (some ⟨hh + 1, 0, none⟩), .pointer (some ⟨hh + 1 + 1, 0, none⟩)] (fun _ => rfl)
    (.int .i64 n) (.int .i64 0) (.slice none 0 0) (.slice none 0 0) (.int .i64 0) (.bool false) (.int .i64 0) (.int .i64 0) (.int .i64 0) (.int .i64 0) er (by simp [Value.oneCell']) hne S (fun g hg => by have := hS g hg; omega)
    (fun w1 => ∃ W0 W w4, R W w4 ∧ W0.heap.size < W.heap.size ∧ W3.heap.size ≤ W0.heap.size ∧ Turns [W0.heap.size] w4 w1 ∧ Turns S W0 w4 ∧ Turns [p] W3 W0 ∧ ProcOf w1 p { J with steps := J.steps + 1 })
    (fun W0 hP0 hT0 => by
      have b0 := (hT0.block _ k0.lt (by rw [List.mem_singleton]; omega)).trans k0
      have b1 := (hT0.block _ k1.lt (by rw [List.mem_singleton]; omega)).trans k1
      have b2 := (hT0.block _ k2.lt (by rw [List.mem_singleton]; omega)).trans k2
      have hs0 := hT0.size
      refine (write1_any W0 hh (hh + 1) (hh + 1 + 1) p J.tb fd bv _ b0 b1 b2 hP0.blk rfl n er S (fun g hg => by have := hS g hg; omega) (fun w4 => ∃ W, R W w4 ∧ W0.heap.size < W.heap.size)
        (fun W hT hlt => (hw W (hP0.turns hT (by simp)) (((T3.more (by simp)).trans hT0).trans (hT.more (by simp)))).mono fun e w4 ⟨h1, h2, h3⟩ => ⟨h1, h2, W, h3, hlt⟩)).mono ?_
      rintro e w1 ⟨rfl, w4, ⟨W, hR, hlt⟩, rfl, hT4⟩
      have hTc : Turns [W0.heap.size] w4 ((w4.setCell ⟨W0.heap.size, 0, none⟩ (.int .i64 n)).setCell ⟨W0.heap.size, 10, none⟩ (.int .i64 er)) := ((Turns.refl _ w4).setCell ⟨W0.heap.size, 0, none⟩ _ (fun _ => List.mem_singleton.2 rfl)).setCell ⟨W0.heap.size, 10, none⟩ _ (fun _ => List.mem_singleton.2 rfl)
      have hT1 : Turns S W0 ((w4.setCell ⟨W0.heap.size, 0, none⟩ (.int .i64 n)).setCell ⟨W0.heap.size, 10, none⟩ (.int .i64 er)) := (hT4.setCell ⟨W0.heap.size, 0, none⟩ _ (fun hlt => absurd hlt (Nat.lt_irrefl _))).setCell ⟨W0.heap.size, 10, none⟩ _ (fun hlt => absurd hlt (Nat.lt_irrefl _))
      have hP1 := hP0.turns hT1 hSp
      exact ⟨rfl, hT1, hP1, W0, W, w4, hR, hlt, hs0, hTc, hT4, hT0, hP1⟩)
  go_wp2_with (first
    | (refine hcall.mono ?_; rintro e w5 ⟨rfl, w1, ⟨W0, W, w4, hR, hlt, hs0, hTc, hT4, hT0, hP1⟩, hT5, hT15, hl1⟩; have m3 := T3.size; have P5 : ProcOf w5 p { J with steps := J.steps + 1 } := hP1.turns hT5 (fun g hg hm => by rw [List.mem_singleton] at hm; have h1 := h.foot_lt g hg; omega); have q14 : w5.cell? ⟨p, 14, none⟩ = some (.bool false) := P5.blk.cell 14; have j0 : w5.cell? ⟨hh, 0, none⟩ = some (.pointer (some ⟨p, 0, none⟩)) := Blk.cell ((hT5.block _ (by omega) (by rw [List.mem_singleton]; omega)).trans ((hT15.block _ (by omega) (by intro hm; rcases List.mem_append.1 hm with hm | hm; (rw [List.mem_singleton] at hm; omega); (have := hS _ hm; omega))).trans k0)) 0; have j1 : hh < w5.heap.size := (by have := hT5.size; omega); have j2 : p < w5.heap.size := P5.blk.lt)
    | fail)
  have z0 : (w5.alloc (.cells #[.int .i64 n, .int .i64 0, .slice none 0 0, .slice none 0 0, .int .i64 0, .bool false, .int .i64 0, .int .i64 0, .int .i64 0, .int .i64 0, .int .i64 er] replyT)).cell? ⟨w5.heap.size, 0, none⟩ = some (.int .i64 n) := Blk.cell (Blk.new w5 _ _) 0
  have z10 : (w5.alloc (.cells #[.int .i64 n, .int .i64 0, .slice none 0 0, .slice none 0 0, .int .i64 0, .bool false, .int .i64 0, .int .i64 0, .int .i64 0, .int .i64 0, .int .i64 er] replyT)).cell? ⟨w5.heap.size, 10, none⟩ = some (.int .i64 er) := Blk.cell (Blk.new w5 _ _) 10
  go_quiet (fail)
  go_wp2_with fail
  go_returns
  refine ⟨rfl, (P5.below ((Below.refl _ w5).alloc (Nat.le_refl _) _)).same fun _ _ => rfl, W, w4, [W0.heap.size, W3.heap.size], hR, ?_, ?_, ?_⟩
  · intro g hg
    simp only [List.mem_cons, List.not_mem_nil, or_false] at hg
    rcases hg with rfl | rfl <;> omega
  · exact (((hTc.more (by simp)).trans (hT5.more (by simp))).alloc _).trans ⟨rfl, rfl, rfl, Nat.le_refl _, fun _ _ _ => rfl⟩
  · exact ((T3.more (by simp)).trans (hT0.more (by simp))).trans (hT4.more (by intro g hg; simp [hg]))

end Go.Proofs.YtlhiadnolckoeaaGreatDoor
end

section
namespace Go.Proofs.YtlhiadnolckoeaaGreatDoor
open Go.RowKit Go.Maps

/-- all bytes are taken at once -/
theorem sioWrite_once (w : World) (p : Nat) (fd : Value) (A : Option Addr) (n c : Nat) (hn : 0 < n) (Q : World → Prop)
    (hw : ∀ W, Turns [] w W → Calls Tryz.prog 151 #[.pointer (some ⟨p, 0, none⟩), fd, .slice A n c] W fun e w' => e = .returned (.tuple #[.int .i64 (n : Int), .int .i64 0]) ∧ Q w') :
    Calls Tryz.prog 119 #[.pointer (some ⟨p, 0, none⟩), fd, .slice A n c] w fun e w' => e = .returned (.int .i64 0) ∧ ∃ w1, Q w1 ∧ Turns [] w1 w' := by
  go_enter Tryz.func119, Tryz.ntmps119
  go_wp2_with fail
  refine wp_loop_rounds 2 ?_
  rw [rounds_succ]
  go_wp2_with (go_at_call 151; refine (hw _ (Turns.refl _ _)).mono ?_; rintro e w1 ⟨rfl, hq⟩)
  all_goals
    rw [rounds_succ]
    go_wp2_with fail
    go_returns
    exact ⟨rfl, w1, hq, Turns.refl _ _⟩

end Go.Proofs.YtlhiadnolckoeaaGreatDoor
end

section
namespace Go.Proofs.YtlhiadnolckoeaaGreatDoor
open Go.RowKit Go.Maps

/-- what of a job stays: its process, kernel, source and sinks (true: descriptor 1, false: descriptor 2) -/
structure Job where
  p : Nat
  B : PS
  K : KS
  src : Nat
  sink : Bool → Nat
/-- what of a job turns -/
structure Flow where
  steps : Nat
  held : Int
  peak : Int
  sv : Value
  inb : List UInt8
  val : Bool → Value
  said : Bool → List UInt8
def Job.J (X : Job) (F : Flow) : PS := { X.B with steps := F.steps, held := F.held, peak := F.peak }
def Job.D (X : Job) : Nat → Value := fun i => if i = 0 then sourceV X.src else if i = 1 then sinkV (X.sink true) else if i = 2 then sinkV (X.sink false) else .nilIface
def fdOf (b : Bool) : Nat := if b then 1 else 2
theorem Job.D_sink (X : Job) (b : Bool) : X.D (fdOf b) = sinkV (X.sink b) := by cases b <;> rfl
def Job.foot (X : Job) (F : Flow) : List Nat :=
  (X.B.foot X.p ++ X.K.foot X.B.k) ++ [X.B.tb, X.src, X.sink true, X.sink false] ++ (F.sv.ownBlock.toList ++ (F.val true).ownBlock.toList ++ (F.val false).ownBlock.toList)
structure JobOf (w : World) (X : Job) (F : Flow) : Prop where
  proc : ProcOf w X.p (X.J F)
  kern : KernOf w X.B.k X.K
  table : TableOf w X.B.tb X.B.k X.D
  may : X.B.may = true
  top : X.B.top = true
  at_ : X.B.at_ = 0
  log : X.B.log = []
  src : Blk w X.src 192 #[F.sv]
  inp : OffRow w 0 5 F.sv F.inb.length (bytesC F.inb)
  sink : ∀ b, SinkAt w (X.sink b) (F.val b)
  row : ∀ b, OffRow w 0 5 (F.val b) (F.said b).length (bytesC (F.said b))
  sinks : X.sink true ≠ X.sink false
  rows : ∀ g, (F.val true).ownBlock = some g → (F.val false).ownBlock ≠ some g
  inrow : ∀ b g, F.sv.ownBlock = some g → (F.val b).ownBlock ≠ some g
  free : X.K.used = X.K.fl.length
  thing : ∀ b, X.K.tf (numK (if b then 2 else 3)) = some (sinkV (X.sink b))

section
variable {w w' w'' : World} {X : Job} {F F' F'' : Flow} {S : List Nat}
theorem JobOf.foot_lt (h : JobOf w X F) : ∀ g ∈ X.foot F, g < w.heap.size := by
  intro g hg
  simp only [Job.foot, List.mem_append, List.mem_cons, List.not_mem_nil, or_false, Option.mem_toList] at hg
  rcases hg with ((hg | hg) | rfl | rfl | rfl | rfl) | (hg | hg) | hg
  · exact h.proc.foot_lt g hg
  · exact h.kern.foot_lt g hg
  · exact Blk.lt h.table
  · exact h.src.lt
  · exact (h.sink true).lt
  · exact (h.sink false).lt
  · exact (h.inp.lt hg).2
  · exact ((h.row true).lt hg).2
  · exact ((h.row false).lt hg).2
theorem JobOf.same (h : JobOf w X F) (hb : ∀ g ∈ X.foot F, w'.heap[g]? = w.heap[g]?) : JobOf w' X F := by
  have m : ∀ g, (g ∈ X.B.foot X.p ∨ g ∈ X.K.foot X.B.k ∨ g = X.B.tb ∨ g = X.src ∨ (∃ b, g = X.sink b) ∨ F.sv.ownBlock = some g ∨ (∃ b, (F.val b).ownBlock = some g)) → w'.heap[g]? = w.heap[g]? := by
    intro g hg
    refine hb g ?_
    simp only [Job.foot, List.mem_append, List.mem_cons, List.not_mem_nil, or_false, Option.mem_toList]
    rcases hg with hg | hg | rfl | rfl | ⟨b, rfl⟩ | hg | ⟨b, hg⟩
    · simp [hg]
    · simp [hg]
    · simp
    · simp
    · cases b <;> simp
    · simp [hg]
    · cases b <;> simp [hg]
  exact { h with
    proc := h.proc.same fun g hg => m g (.inl hg)
    kern := h.kern.same fun g hg => m g (.inr (.inl hg))
    table := (m _ (.inr (.inr (.inl rfl)))).trans h.table
    src := (m _ (.inr (.inr (.inr (.inl rfl))))).trans h.src
    inp := h.inp.same fun g hg => m g (.inr (.inr (.inr (.inr (.inr (.inl hg))))))
    sink := fun b => (m _ (.inr (.inr (.inr (.inr (.inl ⟨b, rfl⟩)))))).trans (h.sink b)
    row := fun b => (h.row b).same fun g hg => m g (.inr (.inr (.inr (.inr (.inr (.inr ⟨b, hg⟩)))))) }
theorem JobOf.turns (h : JobOf w X F) (ht : Turns S w w') (hS : ∀ g ∈ X.foot F, g ∉ S) : JobOf w' X F := h.same fun g hg => ht.block g (h.foot_lt g hg) (hS g hg)
theorem JobOf.below (h : JobOf w X F) (hb : Below w.heap.size w w') : JobOf w' X F := h.turns (Turns.of_below hb) (by simp)
/-- what a job turns lies in its own blocks; the blocks that it has more are new -/
structure Went (X : Job) (F F' : Flow) (w w' : World) : Prop where
  turns : Turns (X.foot F) w w'
  news : ∀ g ∈ X.foot F', g ∈ X.foot F ∨ w.heap.size ≤ g
theorem Went.refl (X : Job) (F : Flow) (w : World) : Went X F F w w := ⟨Turns.refl _ w, fun _ h => .inl h⟩
theorem Went.trans (h : Went X F F' w w') (h' : Went X F' F'' w' w'') : Went X F F'' w w'' := by
  refine ⟨h.turns.then h'.turns fun g hg hlt => ?_, fun g hg => ?_⟩
  · rcases h.news g hg with h1 | h1
    · exact h1
    · omega
  · rcases h'.news g hg with h1 | h1
    · exact h.news g h1
    · exact .inr (Nat.le_trans h.turns.size h1)
theorem Went.of_turns (X : Job) (F : Flow) (h : Turns [] w w') : Went X F F w w' := ⟨h.more (by simp), fun _ h => .inl h⟩
theorem Went.of_below (X : Job) (F : Flow) (h : Below w.heap.size w w') : Went X F F w w' := .of_turns X F (.of_below h)
/-- a block of none of a job's stays so -/
theorem Went.away {g : Nat} (h : Went X F F' w w') (hg : g < w.heap.size) (ha : g ∉ X.foot F) : w'.heap[g]? = w.heap[g]? ∧ g ∉ X.foot F' :=
  ⟨h.turns.block g hg ha, fun hm => by rcases h.news g hm with h1 | h1; exact ha h1; omega⟩
theorem JobOf.off {g : Nat} {t : TypeId} {cs : Array Value} (h : JobOf w X F) (hg : Blk w g t cs) (h1 : t ≠ 132) (h2 : t ≠ 9) (h3 : t ≠ 302) (h4 : t ≠ 174) (h5 : t ≠ 166)
    (h6 : t ≠ 182) (h7 : t ≠ 192) (h8 : t ≠ 194) (h9 : t ≠ 5) : g ∉ X.foot F := by
  intro hm
  simp only [Job.foot, List.mem_append, List.mem_cons, List.not_mem_nil, or_false, Option.mem_toList] at hm
  rcases hm with ((hm | hm) | rfl | rfl | rfl | rfl) | (hm | hm) | hm
  · exact h.proc.off hg h1 h2 h3 hm
  · exact h.kern.off hg h4 h5 hm
  · exact Blk.ne_ hg h.table h6 rfl
  · exact Blk.ne_ hg h.src h7 rfl
  · exact Blk.ne_ hg (h.sink true) h8 rfl
  · exact Blk.ne_ hg (h.sink false) h8 rfl
  · exact h.inp.blk_ne hg h9.symm hm
  · exact (h.row true).blk_ne hg h9.symm hm
  · exact (h.row false).blk_ne hg h9.symm hm
end

/-- a flow that has written -/
def Flow.wrote (F : Flow) (b : Bool) (bs : List UInt8) (v : Value) : Flow := { F with steps := F.steps + 1, val := fun b' => if b' = b then v else F.val b', said := fun b' => if b' = b then F.said b ++ bs else F.said b' }

theorem KS.took_free {K : KS} (h : K.used = K.fl.length) : K.took = K := by unfold KS.took; rw [if_pos h]
theorem KS.next_free {K : KS} (h : K.used = K.fl.length) : K.next = (0, 0) := by unfold KS.next; rw [h]; simp

set_option maxRecDepth 100000 in
set_option maxHeartbeats 2000000 in
theorem jobWrite (w : World) (X : Job) (F : Flow) (h : JobOf w X F) (hst : F.steps < 4611686018427387904) (b : Bool) (A : Option Addr) (c : Nat) (bs : List UInt8) (hb : Reads w w.heap.size 1 A bs.length (bytesC bs)) (hA : ∀ ad, A = some ad → ad.block ∉ X.foot F) (hc : bs.length ≤ c) (hpos : 0 < bs.length)
    (hl : (F.said b).length + bs.length ≤ 140737488355000) :
    Calls Tryz.prog 151 #[.pointer (some ⟨X.p, 0, none⟩), .int .i64 (fdOf b : Nat), .slice A bs.length c] w fun e w' => e = .returned (.tuple #[.int .i64 (bs.length : Int), .int .i64 0]) ∧
      ∃ v, JobOf w' X (F.wrote b bs v) ∧ Went X F (F.wrote b bs v) w w' := by
  have hS : ∀ g ∈ [X.B.k, X.sink b] ++ (F.val b).ownBlock.toList, g < w.heap.size := by
    intro g hg
    simp only [List.mem_append, List.mem_cons, List.not_mem_nil, or_false, Option.mem_toList] at hg
    rcases hg with (rfl | rfl) | hg
    · exact h.kern.blk.lt
    · exact (h.sink b).lt
    · exact ((h.row b).lt hg).2
  have hoff : ∀ g ∈ X.B.foot X.p, g ∉ [X.B.k, X.sink b] ++ (F.val b).ownBlock.toList := by
    intro g hg hm
    have hp : g ∈ (X.J F).foot X.p := hg
    simp only [List.mem_append, List.mem_cons, List.not_mem_nil, or_false, Option.mem_toList] at hm
    rcases hm with (rfl | rfl) | hm
    · exact h.proc.off h.kern.blk (by decide) (by decide) (by decide) hp
    · exact h.proc.off (h.sink b) (by decide) (by decide) (by decide) hp
    · rcases (h.row b).2 with ⟨e, _⟩ | ⟨g', off, cap, cur, e, _, hgb, _⟩
      · rw [e] at hm; simp [Value.ownBlock] at hm
      · obtain rfl : g' = g := by rw [e] at hm; simpa [Value.ownBlock] using hm
        exact h.proc.off (show Blk w g' _ cur from hgb) (by decide) (by decide) (by decide) hp
  refine (procWrite_top w X.p (X.J F) h.proc h.may h.top h.at_ h.log hst (.int .i64 (fdOf b : Nat)) (.slice A bs.length c) rfl rfl (bs.length : Int) 0 rfl ([X.B.k, X.sink b] ++ (F.val b).ownBlock.toList) hS hoff
    (fun W w4 => w.heap.size ≤ W.heap.size ∧ KernOf w4 X.B.k X.K ∧ ∃ v', SinkAt w4 (X.sink b) v' ∧ OffRow w4 0 5 v' ((F.said b).length + bs.length) (bytesC (F.said b ++ bs)) ∧ (v'.ownBlock = (F.val b).ownBlock ∨ ∃ g, v'.ownBlock = some g ∧ W.heap.size ≤ g)) ?_).mono ?_
  · intro W hPW hTW
    have hpf : ∀ g ∈ X.K.foot X.B.k, g ∉ [X.p] := fun g hg hm => h.kern.off h.proc.blk (by decide) (by decide) ((List.mem_singleton.1 hm) ▸ hg)
    have hKW := h.kern.turns hTW hpf
    have hTb : TableOf W X.B.tb X.B.k X.D := (hTW.block _ (Blk.lt h.table) (by rw [List.mem_singleton]; exact Blk.ne_ h.table h.proc.blk (by decide))).trans h.table
    have hsW : SinkAt W (X.sink b) (F.val b) := (hTW.block _ (h.sink b).lt (by rw [List.mem_singleton]; exact Blk.ne_ (h.sink b) h.proc.blk (by decide))).trans (h.sink b)
    have hrW : OffRow W 0 5 (F.val b) (F.said b).length (bytesC (F.said b)) := (h.row b).same fun g hg => hTW.block g ((h.row b).lt hg).2 (by rw [List.mem_singleton]; rintro rfl; exact (h.row b).blk_ne h.proc.blk (by decide) hg)
    have hbW : Reads W W.heap.size 1 A bs.length (bytesC bs) := (hb.turns hTW (Nat.le_refl _) (by intro ad hA' hm; rw [List.mem_singleton] at hm; exact hA ad hA' (by rw [hm]; simp [Job.foot, PS.foot]))).more hTW.size
    have hAk : ∀ ad, A = some ad → ad.block ≠ X.B.k := fun ad hA' hm => hA ad hA' (by rw [hm]; simp [Job.foot, KS.foot])
    have hn := KS.next_free h.free
    refine (sinkOk W X.B.tb X.B.k X.K X.D hKW hTb (fdOf b) (by cases b <;> decide) (X.sink b) (X.D_sink b) (F.said b) (F.val b) hsW 0 hrW (Nat.zero_le _) A c bs hbW hAk hc hpos hl (by rw [hn]; rfl) bs.length (by rw [hn]; rfl)).mono ?_
    rintro e w4 ⟨rfl, hK4, ⟨v', hs4, hr4, hv4⟩, hT4⟩
    rw [KS.took_free h.free] at hK4
    rw [List.take_length] at hr4
    exact ⟨rfl, hT4, hTW.size, hK4, v', hs4, hr4, hv4⟩
  · rintro e w' ⟨rfl, hP', W, w4, N, ⟨hsW, hK4, v', hs4, hr4, hv4⟩, hN, hT4', hTw4⟩
    have hsz : w.heap.size ≤ w4.heap.size := hTw4.size
    have hTall : Turns ([X.p] ++ ([X.B.k, X.sink b] ++ (F.val b).ownBlock.toList)) w w' := hTw4.then hT4' fun g hg hlt => by have := (hN g hg).1; omega
    have hsub : ∀ g ∈ [X.p] ++ ([X.B.k, X.sink b] ++ (F.val b).ownBlock.toList), g ∈ X.foot F := by
      intro g hg
      simp only [List.mem_append, List.mem_cons, List.not_mem_nil, or_false, Option.mem_toList] at hg
      simp only [Job.foot, PS.foot, KS.foot, List.mem_append, List.mem_cons, List.not_mem_nil, or_false, Option.mem_toList]
      rcases hg with rfl | (rfl | rfl) | hg
      · simp
      · simp
      · cases b <;> simp
      · cases b <;> simp [hg]
    have hkeep : ∀ g, g < w.heap.size → g ≠ X.p → g ≠ X.B.k → g ≠ X.sink b → (F.val b).ownBlock ≠ some g → w'.heap[g]? = w.heap[g]? := by
      intro g hg h1 h2 h3 h4
      refine hTall.block g hg ?_
      simp only [List.mem_append, List.mem_cons, List.not_mem_nil, or_false, Option.mem_toList, not_or]
      exact ⟨h1, ⟨h2, h3⟩, h4⟩
    -- what w4 holds of blocks that were there, or are new but not of N, stands
    have hv4' : v'.ownBlock = (F.val b).ownBlock ∨ ∃ g, v'.ownBlock = some g ∧ W.heap.size ≤ g := hv4
    have hold : ∀ g, g ∉ N → g < w4.heap.size → w'.heap[g]? = w4.heap[g]? := fun g h1 h2 => hT4'.block g h2 h1
    have hNold : ∀ g, g < w.heap.size → g ∉ N := fun g hg hm => by have := (hN g hm).1; omega
    have hK' : KernOf w' X.B.k X.K := hK4.same fun g hg => hold g (hNold g (h.kern.foot_lt g hg)) (hK4.foot_lt g hg)
    have hs' : SinkAt w' (X.sink b) v' := (hold _ (hNold _ (h.sink b).lt) hs4.lt).trans hs4
    have hr' : OffRow w' 0 5 v' ((F.said b).length + bs.length) (bytesC (F.said b ++ bs)) := hr4.same fun g hg => by
      refine hold g ?_ (hr4.lt hg).2
      rcases hv4 with e | ⟨g', e, hg'⟩
      · exact hNold g ((h.row b).lt (e ▸ hg)).2
      · intro hm
        have := (hN g hm).2
        rw [hg] at e
        cases e
        omega
    have hnew : ∀ g, v'.ownBlock = some g → (F.val b).ownBlock = some g ∨ w.heap.size ≤ g := by
      intro g hg
      rcases hv4 with e | ⟨g', e, hg'⟩
      · exact .inl (e ▸ hg)
      · rw [hg] at e; cases e
        exact .inr (Nat.le_trans hsW hg')
    have hbk : ∀ {t : TypeId} {cs : Array Value} {g : Nat}, Blk w g t cs → t ≠ 132 → t ≠ 174 → t ≠ 194 → t ≠ 5 → w'.heap[g]? = w.heap[g]? := fun hg h1 h2 h3 h4 =>
      hkeep _ hg.lt (Blk.ne_ hg h.proc.blk h1) (Blk.ne_ hg h.kern.blk h2) (Blk.ne_ hg (h.sink b) h3) ((h.row b).blk_ne hg h4.symm)
    have hrow : ∀ {n : Nat} {v : Value} {xs : List Value}, OffRow w 0 5 v n xs → (∀ g, v.ownBlock = some g → (F.val b).ownBlock ≠ some g) → OffRow w' 0 5 v n xs := fun hv hne => hv.same fun g hg =>
      hkeep g (hv.lt hg).2 (fun e => hv.blk_ne h.proc.blk (by decide) (e ▸ hg)) (fun e => hv.blk_ne h.kern.blk (by decide) (e ▸ hg)) (fun e => hv.blk_ne (h.sink b) (by decide) (e ▸ hg)) (hne g hg)
    refine ⟨rfl, v', ?_, hTall.more hsub, ?_⟩
    · exact {
        proc := hP', kern := hK', may := h.may, top := h.top, at_ := h.at_, log := h.log, sinks := h.sinks, free := h.free, thing := h.thing
        table := (hbk h.table (by decide) (by decide) (by decide) (by decide)).trans h.table
        src := (hbk h.src (by decide) (by decide) (by decide) (by decide)).trans h.src
        inp := hrow h.inp (h.inrow b)
        sink := by
          intro b'
          by_cases e : b' = b
          · subst e
            rw [show (F.wrote b' bs v').val b' = v' from if_pos rfl]
            exact hs'
          · have hne : X.sink b' ≠ X.sink b := by cases b <;> cases b' <;> simp_all <;> first | exact h.sinks | exact fun e' => h.sinks e'.symm
            have hx := (hkeep (X.sink b') (h.sink b').lt (Blk.ne_ (h.sink b') h.proc.blk (by decide)) (Blk.ne_ (h.sink b') h.kern.blk (by decide)) hne ((h.row b).blk_ne (h.sink b') (by decide))).trans (h.sink b')
            rw [show (F.wrote b bs v').val b' = F.val b' from if_neg e]
            exact hx
        row := by
          intro b'
          by_cases e : b' = b
          · subst e
            rw [show (F.wrote b' bs v').val b' = v' from if_pos rfl, show (F.wrote b' bs v').said b' = F.said b' ++ bs from if_pos rfl, List.length_append]
            exact hr'
          · have hx := hrow (h.row b') (fun g hg hg' => by cases b <;> cases b' <;> simp_all <;> first | exact h.rows g hg hg' | exact h.rows g hg' hg)
            rw [show (F.wrote b bs v').val b' = F.val b' from if_neg e, show (F.wrote b bs v').said b' = F.said b' from if_neg e]
            exact hx
        rows := by
          intro g hg hg'
          cases b
          · simp only [Flow.wrote, reduceCtorEq, if_false, if_true] at hg hg'
            rcases hnew g hg' with h1 | h1
            · exact h.rows g hg h1
            · have := ((h.row true).lt hg).2; omega
          · simp only [Flow.wrote, reduceCtorEq, if_false, if_true] at hg hg'
            rcases hnew g hg with h1 | h1
            · exact h.rows g h1 hg'
            · have := ((h.row false).lt hg').2; omega
        inrow := by
          intro b' g hg hg'
          by_cases e : b' = b
          · subst e
            simp only [Flow.wrote, if_true] at hg'
            rcases hnew g hg' with h1 | h1
            · exact h.inrow b' g hg h1
            · have := (h.inp.lt hg).2; omega
          · simp only [Flow.wrote, if_neg e] at hg'
            exact h.inrow b' g hg hg' }
    · intro g hg
      have hval : ∀ b', ((F.wrote b bs v').val b').ownBlock = some g → g ∈ X.foot F ∨ w.heap.size ≤ g := by
        intro b' hg'
        by_cases e : b' = b
        · simp only [Flow.wrote, if_pos e] at hg'
          rcases hnew g hg' with h1 | h1
          · refine .inl ?_
            cases b <;> simp [Job.foot, h1]
          · exact .inr h1
        · simp only [Flow.wrote, if_neg e] at hg'
          refine .inl ?_
          cases b' <;> simp [Job.foot, hg']
      simp only [Job.foot, List.mem_append, Option.mem_toList] at hg
      rcases hg with hg | (hg | hg) | hg
      · exact .inl (by simp only [Job.foot, List.mem_append]; exact .inl hg)
      · exact .inl (by simp only [Job.foot, List.mem_append, Option.mem_toList]; exact .inr (.inl (.inl hg)))
      · exact hval true hg
      · exact hval false hg

end Go.Proofs.YtlhiadnolckoeaaGreatDoor
end

section
namespace Go.Proofs.YtlhiadnolckoeaaGreatDoor
open Go.RowKit

/-- the words of errors -/
def wordsL : List (List UInt8) := [[101, 114, 114, 111, 114], [110, 111, 32, 115, 117, 99, 104, 32, 102, 105, 108, 101], [102, 105, 108, 101, 32, 101, 120, 105, 115, 116, 115], [110, 111, 116, 32, 97, 32, 100, 105, 114, 101, 99, 116, 111, 114, 121], [105, 115, 32, 97, 32, 100, 105, 114, 101, 99, 116, 111, 114, 121], [100, 105, 114, 101, 99, 116, 111, 114, 121, 32, 110, 111, 116, 32, 101, 109, 112, 116, 121], [110, 111, 32, 115, 112, 97, 99, 101, 32, 108, 101, 102, 116], [105, 110, 112, 117, 116, 47, 111, 117, 116, 112, 117, 116, 32, 101, 114, 114, 111, 114], [98, 114, 111, 107, 101, 110, 32, 112, 105, 112, 101], [105, 110, 116, 101, 114, 114, 117, 112, 116, 101, 100], [110, 111, 116, 32, 110, 111, 119], [98, 97, 100, 32, 100, 101, 115, 99, 114, 105, 112, 116, 111, 114], [116, 111, 111, 32, 109, 97, 110, 121], [98, 97, 100, 32, 110, 97, 109, 101], [116, 111, 111, 32, 100, 101, 101, 112], [98, 117, 115, 121], [105, 110, 118, 97, 108, 105, 100], [98, 97, 100, 32, 97, 114, 103, 117, 109, 101, 110, 116], [108, 105, 110, 101, 32, 116, 111, 111, 32, 108, 111, 110, 103], [117, 115, 97, 103, 101], [98, 97, 100, 32, 114, 101, 103, 117, 108, 97, 114, 32, 101, 120, 112, 114, 101, 115, 115, 105, 111, 110], [98, 97, 100, 32, 115, 99, 114, 105, 112, 116], [110, 111, 116, 32, 102, 111, 117, 110, 100], [115, 97, 109, 101, 32, 102, 105, 108, 101], [98, 97, 100, 32, 115, 121, 110, 116, 97, 120], [110, 111, 116, 32, 97, 32, 110, 117, 109, 98, 101, 114], [110, 111, 116, 32, 105, 110, 32, 111, 114, 100, 101, 114]]
def wordCells : Array Value := (wordsL.map fun l => Value.string ⟨l.toArray⟩).toArray
/-- the word of an error -/
def wordOf (e : Int) : ByteArray := ⟨(wordsL.getD (if 1 ≤ e ∧ e ≤ 26 then e.toNat else 0) []).toArray⟩

theorem wpList_build_eq {P : Program} {ops : Array Oper} {rest : List Oper} {o : Oper} {a : Act} {w : World} {Q : Exit → Act → World → Prop} (hg : o.guard = none) (t : TypeId) (parts : Array (Nat × Operand)) (ho : o.op = .build t parts) (cells : Array Value)
    (hf : P.built t (parts.map fun (i, x) => (i, a.eval x)).toList = some cells)
    (h : wpList P ops Q rest (a.put o.dst (.agg cells)) w) : wpList P ops Q (o :: rest) a w :=
  wpList_build hg t parts ho (by rw [hf]; rfl) (by rw [hf]; exact h)
theorem setRow_alloc_new (w : World) (old cs : Array Value) (t : TypeId) : (w.alloc (.cells old t)).setRow w.heap.size cs = w.alloc (.cells cs t) := by
  have h : (w.heap.push (Obj.cells old t (0, 0))).modify w.heap.size (fun | .cells _ elem frozen => .cells cs elem frozen | o => o) = w.heap.push (Obj.cells cs t (0, 0)) := by
    apply Array.ext_getElem?
    intro i
    rw [Array.getElem?_modify]
    by_cases hi : w.heap.size = i
    · subst hi; simp
    · rw [if_neg hi, Array.getElem?_push, Array.getElem?_push]
      simp [show ¬ i = w.heap.size from fun e => hi e.symm]
  show World.mk .. = World.mk ..
  congr 1

theorem wordCell (k : Nat) (hk : k < 27) : wordCells[k]? = some (.string (wordOf k)) := by
  have h : (List.range 27).all (fun k => decide (wordsL[k]? = some (wordsL.getD (if 1 ≤ (k : Int) ∧ (k : Int) ≤ 26 then (k : Int).toNat else 0) []))) = true := by decide
  have h1 := of_decide_eq_true (List.all_eq_true.1 h k (List.mem_range.2 hk))
  simp only [wordCells, wordOf, List.getElem?_toArray, List.getElem?_map, h1, Option.map_some]

set_option maxHeartbeats 1000000 in
theorem word_in (k : Nat) (hk : k < 27) (w : World) : Calls Tryz.prog 184 #[.int .i64 k] w fun e w' => e = .returned (.string (wordOf k)) ∧ Below w.heap.size w w' := by
  have hcell : (w.alloc (.cells wordCells 324)).cell? ⟨w.heap.size, k, none⟩ = some (.string (wordOf k)) := by
    rw [(Blk.new w _ _).cell k]
    exact wordCell k hk
  go_enter Tryz.func184, Tryz.ntmps184
  go_wp2_with (first | (refine wpList_build_eq rfl 324 _ rfl wordCells (by kernel_rfl) ?_) | (refine wpList_store_row rfl 324 _ _ rfl w.heap.size wordCells rfl rfl 324 _ (heap_alloc_new _ _) (by kernel_rfl) (by kernel_rfl) (by kernel_rfl) ?_; rw [setRow_alloc_new]))
  go_ret
  exact ⟨rfl, (Below.refl _ _).alloc (Nat.le_refl _) _⟩

set_option maxHeartbeats 1000000 in
theorem word_out (e : Int) (he : e < 0 ∨ 27 ≤ e) (w : World) : Calls Tryz.prog 184 #[.int .i64 e] w fun e' w' => e' = .returned (.string (wordOf e)) ∧ Below w.heap.size w w' := by
  have hcell : (w.alloc (.cells wordCells 324)).cell? ⟨w.heap.size, 0, none⟩ = some (.string (wordOf e)) := by
    rw [(Blk.new w _ _).cell 0]
    have h0 : wordOf e = wordOf (0 : Nat) := by unfold wordOf; rw [if_neg (by omega), if_neg (by omega)]
    rw [h0]
    exact wordCell 0 (by omega)
  rcases he with he | he
  · go_enter Tryz.func184, Tryz.ntmps184
    go_wp2_with (first | (refine wpList_build_eq rfl 324 _ rfl wordCells (by kernel_rfl) ?_) | (refine wpList_store_row rfl 324 _ _ rfl w.heap.size wordCells rfl rfl 324 _ (heap_alloc_new _ _) (by kernel_rfl) (by kernel_rfl) (by kernel_rfl) ?_; rw [setRow_alloc_new]))
    go_ret
    exact ⟨rfl, (Below.refl _ _).alloc (Nat.le_refl _) _⟩
  · have he0 : ¬ e < 0 := by omega
    go_enter Tryz.func184, Tryz.ntmps184
    go_wp2_with (first | (refine wpList_build_eq rfl 324 _ rfl wordCells (by kernel_rfl) ?_) | (refine wpList_store_row rfl 324 _ _ rfl w.heap.size wordCells rfl rfl 324 _ (heap_alloc_new _ _) (by kernel_rfl) (by kernel_rfl) (by kernel_rfl) ?_; rw [setRow_alloc_new]))
    go_ret
    exact ⟨rfl, (Below.refl _ _).alloc (Nat.le_refl _) _⟩

theorem word_any (e : Int) (w : World) : Calls Tryz.prog 184 #[.int .i64 e] w fun e' w' => e' = .returned (.string (wordOf e)) ∧ Below w.heap.size w w' := by
  by_cases h : 0 ≤ e ∧ e < 27
  · obtain ⟨k, rfl⟩ := Int.eq_ofNat_of_zero_le h.1
    exact word_in k (by omega) w
  · exact word_out e (by omega) w

def colonB : ByteArray := ⟨#[58, 32]⟩
def lineB : ByteArray := ⟨#[10]⟩
/-- the line that says it -/
def diagOf (tag op : ByteArray) (e : Int) : ByteArray := tag ++ colonB ++ (if op.size = 0 then ⟨#[]⟩ else op ++ colonB) ++ wordOf e ++ lineB

/-- a string as bytes in a new row -/
theorem reads_bytesWorld (w : World) (t : TypeId) (s : ByteArray) : Reads (Lib.bytesWorld w t s) (Lib.bytesWorld w t s).heap.size 1 (some ⟨w.heap.size, 0, none⟩) s.data.toList.length (bytesC s.data.toList) := by
  refine ⟨by simp [bytesC], fun _ => ⟨_, rfl, by rw [Lib.bytesWorld_size]; simp, fun j u hu => ?_⟩⟩
  have hj : j < s.data.toList.length := by
    have := (List.getElem?_eq_some_iff.1 hu).1
    rwa [bytesC_length] at this
  have e : (⟨w.heap.size, 0, none⟩ : Addr).add j = ⟨w.heap.size, j, none⟩ := by unfold Addr.add; split <;> simp_all
  rw [e, Lib.bytesWorld_cell w t s j (by simpa using hj), ← hu]
  simp only [bytesC, List.getElem?_map, List.getD_eq_getElem?_getD, List.getElem?_eq_getElem hj, Option.map_some, Option.getD_some]
theorem below_bytesWorld (w : World) (t : TypeId) (s : ByteArray) : Below w.heap.size w (Lib.bytesWorld w t s) :=
  ⟨rfl, rfl, rfl, by rw [Lib.bytesWorld_size]; omega, fun j hj => Lib.bytesWorld_at_old w t s j hj⟩

/-- a string's length and the capacity of its bytes, behind names that no walk opens -/
def strLen (s : ByteArray) : Nat := s.data.toList.length
def strCap (W : World) (e : TypeId) (s : ByteArray) : Nat := grownCap W s.size 0 e
theorem convert_bytes {P : Program} {src dst e : TypeId} (hs : P.underlying src = some .string) (hd : P.underlying dst = some (.slice e)) (he : P.underlying e = some (.int .u8)) (W : World) (s : ByteArray) :
    (convert src dst (.string s)).run P W = .ok (.slice (some ⟨W.heap.size, 0, none⟩) (strLen s) (strCap W e s)) (Lib.bytesWorld W e s) := by
  rw [Lib.run_convert_string_bytes W src dst e s hs hd he]
  simp [strLen, strCap]

/-- the bytes that a slice reads as, as a string -/
theorem convert_string {P : Program} {src dst e : TypeId} (hs : P.underlying src = some (.slice e)) (he : P.underlying e = some (.int .u8)) (hd : P.underlying dst = some .string) {W : World} {B cap : Nat} {A : Option Addr} {l : List UInt8} (hr : Reads W B 1 A l.length (bytesC l)) :
    (convert src dst (.slice A l.length cap)).run P W = .ok (.string ⟨l.toArray⟩) W := by
  rcases A with _ | ad
  · have h0 : l = [] := by
      rcases l with _ | ⟨c, l⟩
      · rfl
      · obtain ⟨ad, h, _⟩ := hr.2 (by simp); cases h
    subst h0
    exact run_convert_bytes_nil W src e hs he 0 cap dst hd
  · refine run_convert_bytes_back W src dst e ad cap l hs he hd fun j hj => ?_
    obtain ⟨ad', h, _, hc⟩ := hr.2 (by omega)
    cases h
    exact hc j _ (by simp [bytesC, List.getElem?_eq_getElem hj])

/-- new bytes -/
def MadeBytes (w : World) (l : List UInt8) (v : Value) (W : World) : Prop := ∃ g cap, v = .slice (some ⟨g, 0, none⟩) l.length cap ∧ w.heap.size ≤ g ∧ l.length ≤ cap ∧ Reads W W.heap.size 1 (some ⟨g, 0, none⟩) l.length (bytesC l) ∧ Below w.heap.size w W
theorem MadeBytes.of {w W : World} (hb : Below w.heap.size w W) (t : TypeId) (s : ByteArray) : MadeBytes w s.data.toList (.slice (some ⟨W.heap.size, 0, none⟩) (strLen s) (strCap W t s)) (Lib.bytesWorld W t s) :=
  ⟨_, _, rfl, hb.size, by unfold strCap; have := grownCap_ge W s.size 0 t; simpa using this, reads_bytesWorld W t s, hb.trans ((below_bytesWorld W t s).mono hb.size)⟩

theorem wordOf_size (e : Int) : (wordOf e).size ≤ 32 := by
  have h : wordsL.all (fun l => decide (l.length ≤ 32)) = true := by decide
  unfold wordOf
  show (wordsL.getD _ []).length ≤ 32
  generalize (if 1 ≤ e ∧ e ≤ 26 then e.toNat else 0) = k
  rw [List.getD_eq_getElem?_getD]
  cases hk : wordsL[k]? with
  | none => simp
  | some l => exact of_decide_eq_true (List.all_eq_true.1 h l (List.mem_of_getElem? hk))

set_option maxHeartbeats 1000000 in
theorem diag_any (tag op : ByteArray) (e : Int) (w : World) (htag : tag.size ≤ 140737488351232) (hop : op.size ≤ 140737488351232) : Calls Tryz.prog 148 #[.string tag, .string op, .int .i64 e] w fun e' w' => ∃ v, e' = .returned v ∧ MadeBytes w (diagOf tag op e).data.toList v w' := by
  have hconv := convert_bytes (P := Tryz.prog) (src := 9) (dst := 23) (e := 5) Tryz.underlying9 Tryz.underlying23 Tryz.underlying5
  have hws := wordOf_size e
  by_cases h : op.size = 0
  · have h0 : op = ⟨#[]⟩ := by cases op with | mk d => congr 1; exact Array.eq_empty_of_size_eq_zero h
    subst h0
    have hd := Lib.hid (show tag ++ colonB ++ ⟨#[]⟩ ++ wordOf e ++ lineB = diagOf tag ⟨#[]⟩ e from rfl)
    clear h hop
    go_enter Tryz.func148, Tryz.ntmps148
    go_wp2_with (go_at_call 184; refine (word_any _ _).mono ?_; rintro e' w2 ⟨rfl, hb⟩)
    all_goals go_ret
    all_goals exact ⟨_, rfl, hd.out ▸ MadeBytes.of hb _ _⟩
  · have hd := Lib.hid (show tag ++ colonB ++ (op ++ colonB) ++ wordOf e ++ lineB = diagOf tag op e by
      unfold diagOf; rw [if_neg h])
    have hne : op.toList.isEmpty = false := by
      rw [ByteArray.toList_eq, List.isEmpty_eq_false_iff]
      intro e; exact h (by simpa using congrArg List.length e)
    clear h
    go_enter Tryz.func148, Tryz.ntmps148
    go_wp2_with (go_at_call 184; refine (word_any _ _).mono ?_; rintro e' w2 ⟨rfl, hb⟩)
    all_goals go_ret
    all_goals exact ⟨_, rfl, hd.out ▸ MadeBytes.of hb _ _⟩

end Go.Proofs.YtlhiadnolckoeaaGreatDoor
end

section
namespace Go.Proofs.YtlhiadnolckoeaaGreatDoor
open Go.RowKit

theorem Tryz.infoStrC : (Tryz.prog.info? 9).map (fun i => (i.zero, i.size, i.bytes)) = some (some (.string ⟨#[]⟩), 1, 16) := by kernel_rfl
theorem strsC_length (l : List ByteArray) : (strsC l).length = l.length := by simp [strsC]
theorem strsC_oneCell (l : List ByteArray) : ∀ u ∈ strsC l, u.oneCell' = true := by
  intro u hu
  obtain ⟨s, _, rfl⟩ := List.mem_map.1 hu
  rfl

set_option maxHeartbeats 400000 in
theorem cloneS_any (A : Option Addr) (n cap : Nat) (l : List ByteArray) (w : World) (B : Nat) (hn : n = l.length) (hr : Reads w B 1 A n (strsC l)) (hB : B ≤ w.heap.size) (hl : n ≤ 2097152) :
    Calls Tryz.prog 105 #[.slice A n cap] w fun e w' => ∃ v, e = .returned v ∧ w'.ownsRow w.heap.size 9 1 v n (strsC l) ∧ Below w.heap.size w w' := by
  have heq := fun (W : World) => Lib.run_eql_slice_nil (P := Tryz.prog) W 31 9 A n cap 0 0 Tryz.underlying31
  have hR := Lib.hid hr
  have hN := Lib.hid hn
  clear hr hn
  cases A with
  | none =>
    go_enter Tryz.func105, Tryz.ntmps105
    go_wp2
    go_returns
    have h0 : n = 0 := by
      rcases Nat.eq_zero_or_pos n with h | h
      · exact h
      · obtain ⟨ad, h, _⟩ := hR.out.2 h
        cases h
    have hnil : l = [] := List.eq_nil_of_length_eq_zero (hN.out.symm.trans h0)
    subst hnil h0
    exact ⟨_, rfl, World.ownsRow_nil _ _ _ _, Below.refl _ _⟩
  | some ad =>
    obtain ⟨iS, hiS, hS0, hS1, hS2⟩ := info_parts Tryz.infoStrC
    have HI := Lib.hid hiS
    have H0 := Lib.hid hS0
    have H1 := Lib.hid hS1
    have H2 := Lib.hid hS2
    clear hiS hS0 hS1 hS2
    go_enter Tryz.func105, Tryz.ntmps105
    go_wp2_with (at_builtin; refine wpList_append_any _ rfl _ _ 31 rfl w.heap.size 9 iS (.string ⟨#[]⟩) 1 16 Tryz.underlying31 HI.out H0.out H1.out H2.out rfl (by decide) (.slice (some ⟨w.heap.size, 0, none⟩) 0 0) 0 [] rfl (World.ownsRow_made w #[] 0 (Nat.le_refl _) (by decide) rfl) w.heap.size (some ad) n cap (strsC l) rfl ((hR.out.more hB).alloc (Nat.le_refl _) _) (strsC_oneCell l) (by simp only [maxLen]; omega) (by omega) (by simp) ?_; intro v1 w1 hown1 hg1 hat1)
    go_returns
    refine ⟨v1, rfl, by simpa using hown1, ((Below.refl _ _).alloc (Nat.le_refl _) _).grown hg1 (by simp) (fun k hk => ?_)⟩
    simp [Value.ownBlock] at hk
    omega
end Go.Proofs.YtlhiadnolckoeaaGreatDoor
end

section
namespace Go.Proofs.YtlhiadnolckoeaaGreatDoor
open Go.RowKit

theorem below_step {B : Nat} {a b c : World} (h : Below B a b) (h' : Below b.heap.size b c) (hB : B ≤ a.heap.size) : Below B a c := h.trans (h'.mono (Nat.le_trans hB h.size))
theorem below_box {B : Nat} {a b : World} (h : Below B a b) (hB : B ≤ a.heap.size) (o : Obj) : Below B a (b.alloc o) := h.alloc (Nat.le_trans hB h.size) o
theorem Blk.on {w w' : World} {g : Nat} {t : TypeId} {cs : Array Value} (h : Blk w g t cs) (hb : Below w.heap.size w w') : Blk w' g t cs := h.below hb h.lt
theorem own_on {w w' : World} {base n size : Nat} {e : TypeId} {v : Value} {xs : List Value} (h : w.ownsRow base e size v n xs) (hb : Below w.heap.size w w') : w'.ownsRow base e size v n xs := ownsRow_same h fun g hg => hb.block g (h.lt g hg).2
theorem Blk.newNext (w : World) (o : Obj) (t : TypeId) (cs : Array Value) : Blk ((w.alloc o).alloc (.cells cs t)) (w.heap.size + 1) t cs := by have := Blk.new (w.alloc o) t cs; rwa [World.size_alloc] at this
theorem below_one (w : World) (o : Obj) : Below w.heap.size w (w.alloc o) := (Below.refl _ w).alloc (Nat.le_refl _) o

end Go.Proofs.YtlhiadnolckoeaaGreatDoor
end

section
namespace Go.Proofs.YtlhiadnolckoeaaGreatDoor
open Go.RowKit Go.Maps

/-- a flow that has written these bytes, in one step at most -/
structure Wrote (F F' : Flow) (b : Bool) (bs : List UInt8) : Prop where
  said : ∀ b', F'.said b' = if b' = b then F.said b ++ bs else F.said b'
  inb : F'.inb = F.inb
  held : F'.held = F.held
  peak : F'.peak = F.peak
  steps : F'.steps ≤ F.steps + 1

set_option maxRecDepth 100000 in
set_option maxHeartbeats 2000000 in
theorem sio_none (w : World) (p : Nat) (fd : Value) (A : Option Addr) (c : Nat) :
    Calls Tryz.prog 119 #[.pointer (some ⟨p, 0, none⟩), fd, .slice A 0 c] w fun e w' => e = .returned (.int .i64 0) ∧ w' = w := by
  go_enter Tryz.func119, Tryz.ntmps119
  go_wp2_with fail
  refine wp_loop_rounds 1 ?_
  rw [rounds_succ]
  go_wp2_with fail
  go_returns
  exact ⟨rfl, rfl⟩

theorem jobSio (w : World) (X : Job) (F : Flow) (h : JobOf w X F) (hst : F.steps < 4611686018427387904) (b : Bool) (A : Option Addr) (c : Nat) (bs : List UInt8) (hb : Reads w w.heap.size 1 A bs.length (bytesC bs)) (hA : ∀ ad, A = some ad → ad.block ∉ X.foot F) (hc : bs.length ≤ c)
    (hl : (F.said b).length + bs.length ≤ 140737488355000) :
    Calls Tryz.prog 119 #[.pointer (some ⟨X.p, 0, none⟩), .int .i64 (fdOf b : Nat), .slice A bs.length c] w fun e w' => e = .returned (.int .i64 0) ∧ ∃ F', JobOf w' X F' ∧ Went X F F' w w' ∧ Wrote F F' b bs := by
  by_cases h0 : bs.length = 0
  · have hbs : bs = [] := List.eq_nil_of_length_eq_zero h0
    subst hbs
    refine (sio_none w X.p _ A c).mono ?_
    rintro e w' ⟨rfl, rfl⟩
    refine ⟨rfl, F, h, Went.refl _ _ _, ⟨fun b' => ?_, rfl, rfl, rfl, by omega⟩⟩
    by_cases e : b' = b
    · subst e; simp
    · simp [e]
  · refine (sioWrite_once w X.p _ A bs.length c (by omega) (fun w' => ∃ v, JobOf w' X (F.wrote b bs v) ∧ Went X F (F.wrote b bs v) w w') (fun W hW => ?_)).mono ?_
    · refine (jobWrite W X F (h.turns hW (by simp)) hst b A c bs ((hb.turns hW (Nat.le_refl _) (by simp)).more hW.size) hA hc (by omega) hl).mono ?_
      rintro e w' ⟨rfl, v, hJ, hG⟩
      exact ⟨rfl, v, hJ, (Went.of_turns X F hW).trans hG⟩
    · rintro e w' ⟨rfl, w1, ⟨v, hJ, hG⟩, hT⟩
      exact ⟨rfl, _, hJ.turns hT (by simp), hG.trans (Went.of_turns X _ hT), ⟨fun _ => rfl, rfl, rfl, rfl, Nat.le_refl _⟩⟩

set_option maxHeartbeats 1000000 in
theorem procArgs (w : World) (p : Nat) (J : PS) (h : ProcOf w p J) (hl : J.args.length ≤ 2097152) :
    Calls Tryz.prog 89 #[.pointer (some ⟨p, 0, none⟩)] w fun e w' => ∃ v, e = .returned v ∧ w'.ownsRow w.heap.size 9 1 v J.args.length (strsC J.args) ∧ Below w.heap.size w w' := by
  obtain ⟨A, cp, hav, hc, _, hr⟩ := own_slice h.args
  have c2 : w.cell? ⟨p, 2, none⟩ = some (.slice A J.args.length cp) := by rw [h.blk.cell 2, ← hav]; rfl
  have hcl := cloneS_any A J.args.length cp J.args w w.heap.size rfl hr (Nat.le_refl _) hl
  go_enter Tryz.func89, Tryz.ntmps89
  go_wp2_with (go_at_call 105; refine hcl.mono ?_; rintro e w1 ⟨v, rfl, hown, hbel⟩)
  go_returns
  exact ⟨_, rfl, hown, hbel⟩

set_option maxRecDepth 100000 in
set_option maxHeartbeats 2000000 in
theorem jobSay (w : World) (X : Job) (F : Flow) (h : JobOf w X F) (hst : F.steps < 4611686018427387904) (tag : ByteArray) (rest : List ByteArray) (ha : X.B.args = tag :: rest) (hn : X.B.args.length ≤ 2097152) (op : ByteArray) (er : Int)
    (htag : tag.size ≤ 140737488351232) (hop : op.size ≤ 140737488351232) (hl : (F.said false).length + (diagOf tag op er).data.toList.length ≤ 140737488355000) :
    Calls Tryz.prog 116 #[.pointer (some ⟨X.p, 0, none⟩), .string op, .int .i64 er] w fun e w' => e = .returned (.tuple #[]) ∧ ∃ F', JobOf w' X F' ∧ Went X F F' w w' ∧ Wrote F F' false (diagOf tag op er).data.toList := by
  have hpa := procArgs w X.p (X.J F) h.proc hn
  have hj : (X.J F).args = tag :: rest := ha
  rw [hj] at hpa
  have hn' : (tag :: rest).length ≤ 2097152 := by rw [← ha]; exact hn
  obtain ⟨n, hnn⟩ : ∃ n, (tag :: rest).length = n := ⟨_, rfl⟩
  have hn1 : 1 ≤ n := by rw [← hnn]; simp
  rw [hnn] at hpa hn'
  have hat : (strsC (tag :: rest))[0]? = some (.string tag) := rfl
  have HL := Lib.hid hl
  clear ha hl hn hj hnn
  go_enter Tryz.func116, Tryz.ntmps116
  go_wp2_with (first
    | (go_at_call 89; refine hpa.mono ?_; rintro e w1 ⟨v, rfl, hown, hbel⟩; obtain ⟨A, cp, rfl, hc1, hc2, hr⟩ := own_slice hown
       obtain ⟨ad, u, rfl, hlt, hu, hcell⟩ := hr.at_ (k := 0) (by omega)
       have hu' : u = .string tag := Option.some.inj (hu.symm.trans hat)
       subst hu'
       have hcell' : w1.cell? ad = some (.string tag) := (by have := hcell; rwa [show ad.add 0 = ad by simp [Addr.add]] at this)
       have h1 := h.below hbel)
    | (go_at_call 148; refine (diag_any tag op er _ htag hop).mono ?_; rintro e w2 ⟨v, rfl, g, cap, rfl, hg, hcap, hrd, hbel2⟩
       have h2 := h1.below hbel2)
    | (go_at_call 119; refine (jobSio w2 X F h2 hst false (some ⟨g, 0, none⟩) cap _ hrd (by intro ad' e hm; cases e; have := h1.foot_lt g hm; omega) hcap HL.out).mono ?_; rintro e w3 ⟨rfl, F', hJ3, hG3, hW3⟩))
  go_returns
  exact ⟨rfl, F', hJ3, ((Went.of_below X F hbel).trans (Went.of_below X F hbel2)).trans hG3, hW3⟩

end Go.Proofs.YtlhiadnolckoeaaGreatDoor
end

section
namespace Go.Proofs
open Go.Shelf
def Tryz.keys170_ren : Go.Shelf.Ren := ⟨fun | 7 => 170 | 10 => 206 | n => n, fun | 23 => 209 | 26 => 9 | 3 => 199 | 28 => 282 | 0 => 0 | 27 => 281 | 33 => 26 | 4 => 4 | n => n, fun | n => n⟩
theorem Tryz.keys170 : Go.Proofs.SlLaysZ.n7 Tryz.prog Tryz.keys170_ren := {
  mixed := by kernel_rfl
  f7 := ⟨Tryz.f170.name, by decide, Tryz.func170.trans (congrArg some (by kernel_rfl))⟩
  f10 := ⟨Tryz.f206.name, by decide, Tryz.func206.trans (congrArg some (by kernel_rfl))⟩
  t0 := Tryz.underlying0
  a0 := Tryz.isAgg0
  z0 := Tryz.sizeOf0
  v0 := Tryz.zeroValue0
  t4 := Tryz.underlying4
  a4 := Tryz.isAgg4
  z4 := Tryz.sizeOf4
  v4 := Tryz.zeroValue4
  t23 := Tryz.underlying209
  a23 := Tryz.isAgg209
  z23 := Tryz.sizeOf209
  v23 := Tryz.zeroValue209
  t26 := Tryz.underlying9
  a26 := Tryz.isAgg9
  z26 := Tryz.sizeOf9
  v26 := Tryz.zeroValue9
  t27 := Tryz.underlying281
  a27 := Tryz.isAgg281
  z27 := Tryz.sizeOf281
  v27 := Tryz.zeroValue281
  t28 := Tryz.underlying282
  a28 := Tryz.isAgg282
  z28 := Tryz.sizeOf282
  v28 := Tryz.zeroValue282
  t33 := Tryz.underlying26
  a33 := Tryz.isAgg26
  z33 := Tryz.sizeOf26
  v33 := Tryz.zeroValue26 }
def Tryz.sorted169_ren : Go.Shelf.Ren := ⟨fun | 6 => 169 | 8 => 204 | 9 => 205 | 11 => 228 | 13 => 142 | 12 => 229 | 23 => 179 | 24 => 180 | 14 => 240 | 15 => 241 | 16 => 242 | 17 => 243 | 18 => 244 | 19 => 245 | 20 => 246 | 21 => 247 | 22 => 248 | 25 => 255 | 26 => 208 | 27 => 209 | 28 => 256 | 29 => 257 | 30 => 143 | 31 => 264 | n => n, fun | 26 => 9 | 28 => 282 | 24 => 31 | 0 => 0 | 3 => 3 | 37 => 101 | 48 => 250 | 50 => 258 | 4 => 4 | 40 => 286 | 39 => 285 | 45 => 83 | 5 => 5 | 9 => 9 | 51 => 317 | 55 => 321 | 57 => 337 | 58 => 338 | 33 => 26 | n => n, fun | n => n⟩
theorem Tryz.sorted169 : Go.Proofs.SlLaysZ.n6 Tryz.prog Tryz.sorted169_ren := {
  mixed := by kernel_rfl
  f6 := ⟨Tryz.f169.name, by decide, Tryz.func169.trans (congrArg some (by kernel_rfl))⟩
  f8 := ⟨Tryz.f204.name, by decide, Tryz.func204.trans (congrArg some (by kernel_rfl))⟩
  f11 := ⟨Tryz.f228.name, by decide, Tryz.func228.trans (congrArg some (by kernel_rfl))⟩
  t0 := Tryz.underlying0
  a0 := Tryz.isAgg0
  z0 := Tryz.sizeOf0
  v0 := Tryz.zeroValue0
  t24 := Tryz.underlying31
  a24 := Tryz.isAgg31
  z24 := Tryz.sizeOf31
  v24 := Tryz.zeroValue31
  t26 := Tryz.underlying9
  a26 := Tryz.isAgg9
  z26 := Tryz.sizeOf9
  v26 := Tryz.zeroValue9
  t28 := Tryz.underlying282
  a28 := Tryz.isAgg282
  z28 := Tryz.sizeOf282
  v28 := Tryz.zeroValue282
  i26 := by kernel_rfl }
def Tryz.sort205_ren : Go.Shelf.Ren := ⟨fun | 6 => 205 | 8 => 142 | 9 => 229 | 19 => 179 | 20 => 180 | 21 => 240 | 22 => 241 | 23 => 242 | 24 => 243 | 25 => 244 | 26 => 245 | 27 => 246 | 28 => 247 | 29 => 248 | 36 => 255 | 31 => 208 | 32 => 209 | 37 => 256 | 38 => 257 | 39 => 143 | 41 => 264 | n => n, fun | 27 => 31 | 29 => 9 | 3 => 3 | 32 => 101 | 26 => 31 | 0 => 0 | 44 => 250 | 46 => 258 | 4 => 4 | 36 => 286 | 35 => 285 | 41 => 83 | 5 => 5 | 9 => 9 | 53 => 317 | 57 => 321 | 63 => 337 | 64 => 338 | n => n, fun | n => n⟩
theorem Tryz.sort205 : Go.Proofs.SlLaysM.n6 Tryz.prog Tryz.sort205_ren := {
  mixed := by kernel_rfl
  f6 := ⟨Tryz.f205.name, by decide, Tryz.func205.trans (congrArg some (by kernel_rfl))⟩
  f8 := Tryz.func142.trans (congrArg some (by kernel_rfl))
  f9 := ⟨Tryz.f229.name, by decide, Tryz.func229.trans (congrArg some (by kernel_rfl))⟩
  f19 := Tryz.func179.trans (congrArg some (by kernel_rfl))
  f20 := Tryz.func180.trans (congrArg some (by kernel_rfl))
  f21 := ⟨Tryz.f240.name, by decide, Tryz.func240.trans (congrArg some (by kernel_rfl))⟩
  f22 := ⟨Tryz.f241.name, by decide, Tryz.func241.trans (congrArg some (by kernel_rfl))⟩
  f23 := ⟨Tryz.f242.name, by decide, Tryz.func242.trans (congrArg some (by kernel_rfl))⟩
  f24 := ⟨Tryz.f243.name, by decide, Tryz.func243.trans (congrArg some (by kernel_rfl))⟩
  f25 := ⟨Tryz.f244.name, by decide, Tryz.func244.trans (congrArg some (by kernel_rfl))⟩
  f26 := ⟨Tryz.f245.name, by decide, Tryz.func245.trans (congrArg some (by kernel_rfl))⟩
  f27 := ⟨Tryz.f246.name, by decide, Tryz.func246.trans (congrArg some (by kernel_rfl))⟩
  f28 := ⟨Tryz.f247.name, by decide, Tryz.func247.trans (congrArg some (by kernel_rfl))⟩
  f29 := ⟨Tryz.f248.name, by decide, Tryz.func248.trans (congrArg some (by kernel_rfl))⟩
  f31 := Tryz.func208.trans (congrArg some (by kernel_rfl))
  f32 := Tryz.func209.trans (congrArg some (by kernel_rfl))
  f36 := ⟨Tryz.f255.name, by decide, Tryz.func255.trans (congrArg some (by kernel_rfl))⟩
  f37 := ⟨Tryz.f256.name, by decide, Tryz.func256.trans (congrArg some (by kernel_rfl))⟩
  f38 := ⟨Tryz.f257.name, by decide, Tryz.func257.trans (congrArg some (by kernel_rfl))⟩
  f39 := ⟨Tryz.f143.name, by decide, Tryz.func143.trans (congrArg some (by kernel_rfl))⟩
  f41 := ⟨Tryz.f264.name, by decide, Tryz.func264.trans (congrArg some (by kernel_rfl))⟩
  t0 := Tryz.underlying0
  a0 := Tryz.isAgg0
  z0 := Tryz.sizeOf0
  v0 := Tryz.zeroValue0
  t3 := Tryz.underlying3
  a3 := Tryz.isAgg3
  z3 := Tryz.sizeOf3
  v3 := Tryz.zeroValue3
  t4 := Tryz.underlying4
  a4 := Tryz.isAgg4
  z4 := Tryz.sizeOf4
  v4 := Tryz.zeroValue4
  t5 := Tryz.underlying5
  a5 := Tryz.isAgg5
  z5 := Tryz.sizeOf5
  v5 := Tryz.zeroValue5
  t9 := Tryz.underlying9
  a9 := Tryz.isAgg9
  z9 := Tryz.sizeOf9
  v9 := Tryz.zeroValue9
  t26 := Tryz.underlying31
  a26 := Tryz.isAgg31
  z26 := Tryz.sizeOf31
  v26 := Tryz.zeroValue31
  t27 := Tryz.underlying31
  a27 := Tryz.isAgg31
  z27 := Tryz.sizeOf31
  v27 := Tryz.zeroValue31
  t29 := Tryz.underlying9
  a29 := Tryz.isAgg9
  z29 := Tryz.sizeOf9
  v29 := Tryz.zeroValue9
  t32 := Tryz.underlying101
  a32 := Tryz.isAgg101
  z32 := Tryz.sizeOf101
  v32 := Tryz.zeroValue101
  t35 := Tryz.underlying285
  a35 := Tryz.isAgg285
  z35 := Tryz.sizeOf285
  v35 := Tryz.zeroValue285
  t36 := Tryz.underlying286
  a36 := Tryz.isAgg286
  z36 := Tryz.sizeOf286
  v36 := Tryz.zeroValue286
  t41 := Tryz.underlying83
  a41 := Tryz.isAgg83
  z41 := Tryz.sizeOf83
  v41 := Tryz.zeroValue83
  t44 := Tryz.underlying250
  a44 := Tryz.isAgg250
  z44 := Tryz.sizeOf250
  v44 := Tryz.zeroValue250
  t46 := Tryz.underlying258
  a46 := Tryz.isAgg258
  z46 := Tryz.sizeOf258
  v46 := Tryz.zeroValue258
  t53 := Tryz.underlying317
  a53 := Tryz.isAgg317
  z53 := Tryz.sizeOf317
  v53 := Tryz.zeroValue317
  t57 := Tryz.underlying321
  a57 := Tryz.isAgg321
  z57 := Tryz.sizeOf321
  v57 := Tryz.zeroValue321
  t63 := Tryz.underlying337
  a63 := Tryz.isAgg337
  z63 := Tryz.sizeOf337
  v63 := Tryz.zeroValue337
  t64 := Tryz.underlying338
  a64 := Tryz.isAgg338
  z64 := Tryz.sizeOf338
  v64 := Tryz.zeroValue338 }
end Go.Proofs
end

section
namespace Go.Proofs.YtlhiadnolckoeaaGreatDoor
open Go.RowKit Go.Maps

/-- a file or a directory, as it stands in memory -/
structure Item where
  ino : Nat
  mode : Int
  tick : Int
  dir : Bool
  /-- the data: the slice's value, and what it reads as -/
  dv : Value
  data : List UInt8
  /-- a directory's names: the map's block, a bound on its entries, and the items' blocks -/
  nb : Nat
  nn : Nat
  nf : List UInt8 → Option Nat
  /-- the directory above -/
  up : Nat
  links : Int
  held : Int
def ptrV (b : Nat) : Value := .pointer (some ⟨b, 0, none⟩)
def itemCells (x : Item) : Array Value :=
  #[.int .i64 (x.ino : Int), .int .i64 x.mode, .int .i64 x.tick, .bool x.dir, x.dv, .map (if x.dir then some x.nb else none), .pointer (if x.dir then some ⟨x.up, 0, none⟩ else none), .int .i64 x.links, .int .i64 x.held]
def namesF (nf : List UInt8 → Option Nat) : Lit → Option Value
  | .string s => (nf s).map ptrV
  | _ => none
/-- a tree, as it stands in memory -/
structure TS where
  root : Nat
  fb : Nat
  fn : Nat
  files : Nat → Option Nat
  next : Nat
  many : Int
  items : Nat → Option Item
open Classical in
noncomputable def filesF (f : Nat → Option Nat) : Lit → Option Value
  | .int .i64 n => if 0 ≤ n then (f n.toNat).map ptrV else none
  | _ => none
theorem MapOf.blk_ne' {w : World} {P : Program} {q t : TypeId} {b n g : Nat} {f : Lit → Option Value} {cs : Array Value} (h : MapOf w P q b n f) (hg : Blk w g t cs) : b ≠ g := by
  obtain ⟨D, ⟨es, clock, h0, _⟩, _⟩ := h
  rintro rfl
  rw [show w.heap[b]? = _ from hg] at h0
  cases h0
structure TreeOf (w : World) (t : Nat) (T : TS) : Prop where
  blk : Blk w t 202 #[ptrV T.root, .map (some T.fb), .int .i64 (T.next : Int), .int .i64 T.many]
  files : MapOf w Tryz.prog 3 T.fb T.fn (filesF T.files)
  item : ∀ b x, T.items b = some x → Blk w b 211 (itemCells x) ∧ OffRow w 0 5 x.dv x.data.length (bytesC x.data) ∧
    (x.dir = true → MapOf w Tryz.prog 9 x.nb x.nn (namesF x.nf) ∧ x.nb ≠ T.fb)
  /-- no two directories share their names, no two items their data -/
  apart : ∀ b b' x x', T.items b = some x → T.items b' = some x' → b ≠ b' → (x.dir = true → x'.dir = true → x.nb ≠ x'.nb) ∧ (x.dv.ownBlock ≠ none → x.dv.ownBlock ≠ x'.dv.ownBlock)

/-- the root of an empty tree; the empty tree whose blocks begin at h -/
def rootItem (h : Nat) : Item := { ino := 1, mode := 493, tick := 0, dir := true, dv := .slice none 0 0, data := [], nb := h, nn := 0, nf := fun _ => none, up := h + 1, links := 0, held := 0 }
def emptyT (h : Nat) : TS := { root := h + 1, fb := h + 1 + 1, fn := 0, files := fun _ => none, next := 2, many := 0, items := fun b => if b = h + 1 then some (rootItem h) else none }
theorem namesF_none : namesF (fun _ => none) = fun _ => none := by funext l; cases l <;> rfl
theorem filesF_none : filesF (fun _ => none) = fun _ => none := by
  funext l
  unfold filesF
  split
  · split <;> rfl
  · rfl

set_option maxRecDepth 100000 in
set_option maxHeartbeats 1000000 in
theorem treeNew (w : World) : Calls Tryz.prog 128 #[] w fun e w' => e = .returned (ptrV (w.heap.size + 1 + 1 + 1)) ∧ TreeOf w' (w.heap.size + 1 + 1 + 1) (emptyT w.heap.size) ∧ Below w.heap.size w w' := by
  have hmm := @run_makeMap Tryz.prog
  go_enter Tryz.func128, Tryz.ntmps128
  go_wp2
  go_returns
  obtain ⟨h, hh⟩ : ∃ h, w.heap.size = h := ⟨_, rfl⟩
  rw [hh]
  obtain ⟨w1, h1⟩ : ∃ w1, w.alloc (.map #[] 0) = w1 := ⟨_, rfl⟩
  have s1 : w1.heap.size = h + 1 := by rw [← h1]; simp [hh]
  have m1 : MapOf w1 Tryz.prog 9 h 0 (fun _ => none) := by rw [← h1, ← hh]; exact MapOf.made w Tryz.prog 9
  have b1 : Below h w w1 := by rw [← h1, ← hh]; exact (Below.refl _ w).alloc (Nat.le_refl _) _
  rw [h1]
  obtain ⟨o2, ho2⟩ : ∃ o : Array Value, #[.int .i64 1, .int .i64 493, .int .i64 0, .bool true, .slice none 0 0, .map (some h), .pointer (some ⟨h + 1, 0, none⟩), .int .i64 0, .int .i64 0] = o := ⟨_, rfl⟩
  have hi2 : itemCells (rootItem h) = o2 := by rw [← ho2]; rfl
  rw [ho2]
  obtain ⟨w2, h2⟩ : ∃ w2, w1.alloc (.cells o2 211) = w2 := ⟨_, rfl⟩
  have s2 : w2.heap.size = h + 1 + 1 := by rw [← h2]; simp [s1]
  have k2 : Blk w2 (h + 1) 211 o2 := by rw [← h2, ← s1]; exact Blk.new w1 _ _
  have m2 : MapOf w2 Tryz.prog 9 h 0 (fun _ => none) := by rw [← h2]; exact m1.same (Below.heap_alloc _ _ _ (by omega))
  have b2 : Below h w w2 := by rw [← h2]; exact b1.alloc (by omega) _
  rw [h2]
  obtain ⟨w3, h3⟩ : ∃ w3, w2.alloc (.map #[] 0) = w3 := ⟨_, rfl⟩
  have s3 : w3.heap.size = h + 1 + 1 + 1 := by rw [← h3]; simp [s2]
  have k3 : Blk w3 (h + 1) 211 o2 := by rw [← h3]; exact k2.alloc _
  have m3 : MapOf w3 Tryz.prog 9 h 0 (fun _ => none) := by rw [← h3]; exact m2.same (Below.heap_alloc _ _ _ (by omega))
  have f3 : MapOf w3 Tryz.prog 3 (h + 1 + 1) 0 (fun _ => none) := by rw [← h3, ← s2]; exact MapOf.made w2 Tryz.prog 3
  have b3 : Below h w w3 := by rw [← h3]; exact b2.alloc (by omega) _
  rw [h3]
  refine ⟨rfl, ⟨?_, ?_, ?_, ?_⟩, b3.alloc (by omega) _⟩
  · have := Blk.new w3 202 #[.pointer (some ⟨h + 1, 0, none⟩), .map (some (h + 1 + 1)), .int .i64 2, .int .i64 0]
    rw [s3] at this
    exact this
  · rw [show (emptyT h).files = fun _ => none from rfl, filesF_none]
    exact f3.same (Below.heap_alloc _ _ _ (by show h + 1 + 1 < _; omega))
  · intro b x hx
    have hb : b = h + 1 ∧ x = rootItem h := by
      simp only [emptyT] at hx
      split at hx
      · exact ⟨by assumption, by simpa using hx.symm⟩
      · cases hx
    obtain ⟨rfl, rfl⟩ := hb
    refine ⟨by rw [hi2]; exact k3.alloc _, OffRow.nil _ _ _, fun _ => ⟨?_, by simp [rootItem, emptyT]; omega⟩⟩
    rw [show (rootItem h).nf = fun _ => none from rfl, namesF_none]
    exact m3.same (Below.heap_alloc _ _ _ (by show h < _; omega))
  · intro b b' x x' hx hx' hne
    simp only [emptyT] at hx hx'
    split at hx
    · split at hx'
      · omega
      · cases hx'
    · cases hx

theorem TreeOf.below {w w' : World} {t : Nat} {T : TS} (h : TreeOf w t T) (hb : Below w.heap.size w w') : TreeOf w' t T := by
  have hk : ∀ g, g < w.heap.size → w'.heap[g]? = w.heap[g]? := fun g hg => hb.block g hg
  refine ⟨(hk t h.blk.lt).trans h.blk, h.files.same (hk _ h.files.lt), fun b x hx => ?_, h.apart⟩
  obtain ⟨h1, h2, h3⟩ := h.item b x hx
  exact ⟨(hk b h1.lt).trans h1, h2.same fun g hg => hk g (h2.lt hg).2, fun hd => ⟨(h3 hd).1.same (hk _ (h3 hd).1.lt), (h3 hd).2⟩⟩

/-- a block of none of a tree's types -/
def NoTree (w : World) (g : Nat) : Prop := g < w.heap.size → ∃ e cs, Blk w g e cs ∧ e ≠ 202 ∧ e ≠ 211 ∧ e ≠ 5
theorem TreeOf.turns {w w' : World} {t : Nat} {T : TS} {S : List Nat} (h : TreeOf w t T) (ht : Turns S w w') (hS : ∀ g ∈ S, NoTree w g) : TreeOf w' t T := by
  have hk : ∀ g cs e, Blk w g e cs → (e = 202 ∨ e = 211 ∨ e = 5) → w'.heap[g]? = w.heap[g]? := by
    intro g cs e hg he
    refine ht.block g hg.lt fun hm => ?_
    obtain ⟨e', cs', hb, h1, h2, h3⟩ := hS g hm hg.lt
    have hee : e = e' := by
      have h4 := (show w.heap[g]? = _ from hg).symm.trans hb
      injection h4 with h4
      injection h4
    subst hee
    rcases he with he | he | he
    · exact h1 he
    · exact h2 he
    · exact h3 he
  have hm : ∀ q b n f, MapOf w Tryz.prog q b n f → w'.heap[b]? = w.heap[b]? := by
    intro q b n f hf
    refine ht.block b hf.lt fun hm => ?_
    obtain ⟨e', cs', hb, _⟩ := hS b hm hf.lt
    exact absurd rfl (MapOf.blk_ne' hf hb)
  refine ⟨(hk t _ _ h.blk (.inl rfl)).trans h.blk, h.files.same (hm _ _ _ _ h.files), fun b x hx => ?_, h.apart⟩
  obtain ⟨h1, h2, h3⟩ := h.item b x hx
  refine ⟨(hk b _ _ h1 (.inr (.inl rfl))).trans h1, h2.same fun g hg => ?_, fun hd => ⟨(h3 hd).1.same (hm _ _ _ _ (h3 hd).1), (h3 hd).2⟩⟩
  rcases h2.2 with ⟨e, _⟩ | ⟨g', off, cap, cur, e, _, hb, _⟩
  · rw [e] at hg; simp [Value.ownBlock] at hg
  · obtain rfl : g' = g := by rw [e] at hg; simpa [Value.ownBlock] using hg
    exact hk g' cur _ hb (.inr (.inr rfl))
set_option maxRecDepth 100000 in
set_option maxHeartbeats 1000000 in
theorem treeLoadNil (w : World) : Calls Tryz.prog 101 #[.slice none 0 0] w fun e w' => e = .returned (.tuple #[ptrV (w.heap.size + 1 + 1 + 1), .int .i64 0]) ∧ TreeOf w' (w.heap.size + 1 + 1 + 1) (emptyT w.heap.size) ∧ Below w.heap.size w w' := by
  have hmm := @run_makeMap Tryz.prog
  go_enter Tryz.func101, Tryz.ntmps101
  go_wp2_with (go_at_call 128; refine (treeNew _).mono ?_; rintro e w1 ⟨rfl, hT, hb⟩; unfold ptrV)
  all_goals
    refine wp_loop_rounds 1 ?_
    rw [rounds_succ]
    go_wp2
    go_returns
    exact ⟨rfl, hT.below ((Below.refl _ w1).alloc (Nat.le_refl _) _), hb.alloc hb.size _⟩

end Go.Proofs.YtlhiadnolckoeaaGreatDoor
end

section
namespace Go.Proofs.YtlhiadnolckoeaaGreatDoor
open Go.RowKit Go.Maps Go.Sort Go.Shelf

theorem Tryz.sortsR (m : Nat) : AnyZ.SortsIn Tryz.prog Tryz.sorted169_ren Fence.wide m :=
  ⟨fun blk off cap ss W hH hblk hsz => callsIn_wide.2 (AnyM.slices_Sort_string Tryz.sort205 blk off cap ss W hH hblk hsz),
   fun p cap W => callsIn_wide.2 (AnyM.slices_Sort_string_none Tryz.sort205 p cap W)⟩
theorem keysR (mb : Option Nat) (W : World) : CallsIn Fence.wide 5 Tryz.prog 170 #[.map mb] W fun e w' => e = .returned (.func (.func 206) #[] #[.pointer (some ⟨W.heap.size, 0, none⟩)]) ∧ w' = W.alloc (.cells #[.map mb] 209) :=
  AnyZ.keys_in Tryz.keys170 Fence.wide 5 trivial rfl mb W

set_option maxHeartbeats 1000000 in
theorem sortedR {H : Type} (b nn : Nat) (D0 : DataW H) (R : Value → Option (DataW H × List MemPlace)) (w : World) (hown : w.ownsMap Tryz.prog 9 R b nn D0) (hmax : Maps.size D0 ≤ maxLen) (hbytes : Maps.size D0 * 16 ≤ 140737488355328) :
    CallsIn Fence.wide 5 Tryz.prog 169 #[.func (.func 206) #[] #[.pointer (some ⟨w.heap.size, 0, none⟩)]] (w.alloc (.cells #[.map (some b)] 209)) fun e w' => ∃ (v : Value) (ss : List (List UInt8)), e = .returned v ∧ ss.Perm (strKeys D0) ∧
      w'.ownsRow (w.alloc (.cells #[.map (some b)] 209)).heap.size 9 1 v ss.length ((ss.mergeSort (fun x y => decide (x ≤ y))).map encStr) ∧ (v = .slice none 0 0 ↔ ss = []) ∧ Below (w.alloc (.cells #[.map (some b)] 209)).heap.size (w.alloc (.cells #[.map (some b)] 209)) w' := by
  have hbl := hown.lt
  have hseq : SeqGives Fence.wide 2 Tryz.prog 206 #[.pointer (some ⟨w.heap.size, 0, none⟩)] encStr (fun ss => ss.Perm (strKeys D0)) (Maps.size D0) (w.alloc (.cells #[.map (some b)] 209)) :=
    AnyZ.keys_gives (ρ := Tryz.keys170_ren) { Tryz.keys170 with } Fence.wide _ trivial rfl (by omega) w.heap.size b nn D0 _ (by simp) (by simp) (by
      obtain ⟨es, clock, hb, Ft, hs, hD⟩ := hown
      exact ⟨es, clock, (Below.heap_alloc _ _ b hbl).trans hb, Ft, hs, hD⟩)
  exact AnyZ.sorted_in Tryz.sorted169 Fence.wide 5 trivial trivial trivial trivial rfl (by omega) (Tryz.sortsR _) (enters_of Tryz.func205 (by kernel_rfl) rfl) 206 #[.pointer (some ⟨w.heap.size, 0, none⟩)] trivial (enters_of Tryz.func206 (by kernel_rfl) rfl) _ _ hmax hbytes _ hseq

/-- a map of no entries -/
theorem MapOf.none_ {w : World} {k : TypeId} {b : Nat} {f : Lit → Option Value} (h : MapOf w Tryz.prog k b 0 f) : w.ownsMap Tryz.prog k heldE b 0 (.map []) := by
  obtain ⟨D, ⟨es, clock, hb, Ft, hs, hD⟩, _⟩ := h
  have he : es = #[] := Array.eq_empty_of_size_eq_zero (by omega)
  subst he
  exact ⟨#[], clock, hb, Ft, Nat.le_refl _, rfl⟩

set_option maxRecDepth 100000 in
set_option maxHeartbeats 2000000 in
theorem sortedNone_wide (w : World) (x b : Nat) (f : Lit → Option Value) (hc : w.cell? ⟨x, 5, none⟩ = some (.map (some b))) (hm : MapOf w Tryz.prog 9 b 0 f) :
    CallsIn Fence.wide 6 Tryz.prog 140 #[.pointer (some ⟨x, 0, none⟩)] w fun e w' => e = .returned (.slice none 0 0) ∧ Below w.heap.size w w' := by
  have hfK : Fence.wide.fn 170 := trivial
  have hfS : Fence.wide.fn 169 := trivial
  have hown := hm.none_
  refine callsIn_of_wp Tryz.func140 rfl trivial ?_ rfl
  simp only [Tryz.ntmps140, List.size_toArray, List.length_cons, List.length_nil, Nat.reduceSub, Nat.reduceAdd, Array.replicate_succ, Array.replicate_zero, List.push_toArray, List.append_toArray, List.nil_append, List.cons_append]
  gi_wp2_with (first
    | (gi_at_call 170; refine (keysR _ _).mono ?_; rintro e w' ⟨rfl, rfl⟩)
    | (gi_at_call 169; refine (sortedR b 0 (.map []) heldE w hown (by decide) (by decide)).mono ?_; rintro e w' ⟨v, ss, rfl, hS, hrow, hnil, hb⟩))
  have hs0 : ss = [] := List.Perm.eq_nil hS
  have hv := hnil.2 hs0
  subst hv
  go_ret
  exact ⟨rfl, (below_one w _).trans (hb.mono (by simp))⟩

end Go.Proofs.YtlhiadnolckoeaaGreatDoor
end
