/-
  Parts of the proof.
-/
import Derived.Test.YtffffjngodinnaaGreatDoorV09
import Derived.Test.YtffffjngodinnaaGreatDoorV08
namespace Go.Proofs.YtffffjngodinnaaGreatDoor
section
set_option maxRecDepth 100000
open Go.RowKit Go.Maps
set_option maxHeartbeats 2000000 in
theorem call_top (w : World) (p : Nat) (J : PS) (h : ProcOf w p J) (hm : J.may = true) (ht : J.top = true) (ha : J.at_ = 0) (hl : J.log = []) (hst : J.steps < 4611686018427387904)
 (id : FuncId) (caps : Array Value) (hen : ∀ W, (callFunc id caps).run Tryz.prog W = .ok (.enter id caps) W) (a0 a1 a2 a3 a4 a5 a6 a7 a8 a9 : Value) (er : Int) (hone : (#[a0, a1, a2, a3, a4, a5, a6, a7, a8, a9, .int .i64 er] : Array Value).all (·.oneCell') = true) (hne : (er == 10) = false) (S : List Nat) (hS : ∀ g ∈ S, g < w.heap.size) (R : World -> Prop)
 (hdo : ∀ W, ProcOf W p { J with steps := J.steps + 1 } -> Turns [p] w W -> Calls Tryz.prog id caps W fun e w1 => e = .returned (.agg #[a0, a1, a2, a3, a4, a5, a6, a7, a8, a9, .int .i64 er]) /\ Turns S W w1 /\ ProcOf w1 p { J with steps := J.steps + 1 } /\ R w1) :
 Calls Tryz.prog 143 #[.pointer (some ⟨p, 0, none⟩), .func (.func id) #[] caps] w fun e w' => e = .returned (.agg #[a0, a1, a2, a3, a4, a5, a6, a7, a8, a9, .int .i64 er]) /\
  ∃ w1, R w1 /\ Turns [w.heap.size] w1 w' /\ Turns ([p] ++ S) w w1 /\ w.heap.size < w1.heap.size := by
 have hb := h.blk
 obtain ⟨A, cp, hlv, _⟩ := own_slice h.log
 rw [hl, List.length_nil] at hlv
 have c8 : w.cell? ⟨p, 10, none⟩ = some (.slice A 0 cp) := by rw [hb.cell 10, <- hlv]; rfl
 have c9 : w.cell? ⟨p, 11, none⟩ = some (.int .i64 0) := by rw [hb.cell 11]; simp [procCells, ha]
 have c10 : w.cell? ⟨p, 12, none⟩ = some (.bool true) := by rw [hb.cell 12]; simp [procCells, hm]
 have c11 : w.cell? ⟨p, 13, none⟩ = some (.bool true) := by rw [hb.cell 13]; simp [procCells, ht]
 have c13 : w.cell? ⟨p, 15, none⟩ = some (.int .i64 (J.steps : Int)) := by rw [hb.cell 15]; simp [procCells]
 have f10 : w.frozen? ⟨p, 12, none⟩ = false := hb.frozen 12
 have f13 : w.frozen? ⟨p, 15, none⟩ = false := hb.frozen 15
 have lp := hb.lt
 have hw1 : wrap64 ((J.steps : Int) + 1) = ((J.steps + 1 : Nat) : Int) := w64 _ (by omega)
 go_enter Tryz.func143, Tryz.ntmps143
 go_wp2_with fail
 obtain ⟨Z, hZ⟩ : ∃ Z, (w.alloc (.cells #[.int .i64 0, .int .i64 0, .slice none 0 0, .slice none 0 0, .int .i64 0, .bool false, .int .i64 0, .int .i64 0, .int .i64 0, .int .i64 0, .int .i64 0] replyT)) = Z := ⟨_, rfl⟩
 have hzb : Blk Z w.heap.size replyT replyZ := by rw [<- hZ]; exact Blk.new w _ _
 have hTZ : Turns [] w Z := by rw [<- hZ]; exact (Turns.refl _ w).alloc _
 have pZ : Blk Z p 85 (procCells J) := (hTZ.block p lp (by simp)).trans hb
 have d8 : Z.cell? ⟨p, 10, none⟩ = some (.slice A 0 cp) := (hTZ.cell lp (by simp)).trans c8
 have d9 : Z.cell? ⟨p, 11, none⟩ = some (.int .i64 0) := (hTZ.cell lp (by simp)).trans c9
 have d10 : Z.cell? ⟨p, 12, none⟩ = some (.bool true) := (hTZ.cell lp (by simp)).trans c10
 have d11 : Z.cell? ⟨p, 13, none⟩ = some (.bool true) := (hTZ.cell lp (by simp)).trans c11
 have d13 : Z.cell? ⟨p, 15, none⟩ = some (.int .i64 (J.steps : Int)) := (hTZ.cell lp (by simp)).trans c13
 have e10 : Z.frozen? ⟨p, 12, none⟩ = false := pZ.frozen 12
 have e13 : Z.frozen? ⟨p, 15, none⟩ = false := pZ.frozen 15
 have lZ := pZ.lt
 rw [hZ]
 clear c8 c9 c10 c11 c13 f10 f13
 obtain ⟨g, hg⟩ : ∃ g, w.heap.size = g := ⟨_, rfl⟩
 rw [hg] at hzb ⊢
 have hPW : ∀ nq, ProcOf (((Z.drewN nq).setCell ⟨p, 12, none⟩ (.bool true)).setCell ⟨p, 15, none⟩ (.int .i64 ((J.steps : Int) + 1))) p { J with steps := J.steps + 1 } := by
  intro nq
  have hT : Turns [p] w (((Z.drewN nq).setCell ⟨p, 12, none⟩ (.bool true)).setCell ⟨p, 15, none⟩ (.int .i64 ((J.steps : Int) + 1))) := ((((Turns.more (S' := [p]) hTZ (by simp)).trans (w' := Z) (w'' := Z.drewN nq) ⟨rfl, rfl, rfl, Nat.le_refl _, fun _ _ _ => rfl⟩).setCell ⟨p, 12, none⟩ _ (fun _ => List.mem_singleton.2 rfl)).setCell ⟨p, 15, none⟩ _ (fun _ => List.mem_singleton.2 rfl))
  refine ⟨?_, ownsRow_same h.args fun g hg => hT.block g (h.args.lt g hg).2 ?_, ownsRow_same h.env fun g hg => hT.block g (h.env.lt g hg).2 ?_, ownsRow_same h.log fun g hg => hT.block g (h.log.lt g hg).2 ?_⟩
  · have b1 : Blk (((Z.drewN nq).setCell ⟨p, 12, none⟩ (.bool true)).setCell ⟨p, 15, none⟩ (.int .i64 ((J.steps : Int) + 1))) p 85 _ := ((pZ.drewN nq).set_ 12 (.bool true)).set_ 15 (.int .i64 ((J.steps : Int) + 1))
    rw [show procCells { J with steps := J.steps + 1 } = ((procCells J).setIfInBounds 12 (.bool true)).setIfInBounds 15 (.int .i64 ((J.steps : Int) + 1)) by simp [procCells, hm]]
    exact b1
  all_goals
   rw [List.mem_singleton]
   rintro rfl
  · exact own_blk_ne h.args hb (by decide) hg
  · exact own_blk_ne h.env hb (by decide) hg
  · exact own_blk_ne h.log hb (by decide) hg
 have hTW : ∀ nq, Turns [p] w (((Z.drewN nq).setCell ⟨p, 12, none⟩ (.bool true)).setCell ⟨p, 15, none⟩ (.int .i64 ((J.steps : Int) + 1))) := fun nq =>
  ((((Turns.more (S' := [p]) hTZ (by simp)).trans (w' := Z) (w'' := Z.drewN nq) ⟨rfl, rfl, rfl, Nat.le_refl _, fun _ _ _ => rfl⟩).setCell ⟨p, 12, none⟩ _ (fun _ => List.mem_singleton.2 rfl)).setCell ⟨p, 15, none⟩ _ (fun _ => List.mem_singleton.2 rfl))
 have hgW : ∀ nq, Blk (((Z.drewN nq).setCell ⟨p, 12, none⟩ (.bool true)).setCell ⟨p, 15, none⟩ (.int .i64 ((J.steps : Int) + 1))) g replyT replyZ := fun nq => ((hzb.drewN nq).far (by show g ≠ p; omega) _).far (by show g ≠ p; omega) _
 go_quiet (fail)
 go_wp2_with fail
 refine wp_loop_rounds 1 ?_
 rw [rounds_succ]
 go_wp2_with (first
  | (refine (hdo _ (hPW _) (hTW _)).mono ?_; rintro e w1 ⟨rfl, hT1, hP1, hR1⟩; have g1 : Blk w1 g replyT replyZ := (hT1.block g (Blk.lt (hgW _)) (fun hm => by have := hS g hm; omega)).trans (hgW _); have lg1 := g1.lt; have lp1 := hP1.blk.lt)
  | (refine wpList_store_blk rfl replyT (.tmp 5) (.tmp 39) rfl w1.heap.size replyT replyZ #[a0, a1, a2, a3, a4, a5, a6, a7, a8, a9, .int .i64 er] rfl rfl (Blk.new w1 _ _) rfl (by kernel_rfl) hone ?_; intro w9 b9 g9; obtain ⟨x0, x1, x2, x3, x4, x5, x6, x7, x8, x9, x10, l9⟩ := blk11 b9; have p9 : Blk w9 p 85 _ := Blk.grown (hP1.blk.alloc _) g9 (by simp; omega); have q13 : w9.cell? ⟨p, 13, none⟩ = some (.bool true) := (by rw [p9.cell 13]; simp [procCells, ht]); have gg9 : Blk w9 g replyT replyZ := Blk.grown (g1.alloc _) g9 (by simp; omega))
  | (refine wpList_load_row rfl replyT (.tmp 5) rfl w1.heap.size rfl replyT #[a0, a1, a2, a3, a4, a5, a6, a7, a8, a9, .int .i64 er] (0, 0) _ b9 Tryz.underlying252 rfl (by kernel_rfl) ?_)
  | (refine wpList_store_blk rfl replyT (.tmp 4) (.tmp 47) rfl g replyT replyZ #[a0, a1, a2, a3, a4, a5, a6, a7, a8, a9, .int .i64 er] rfl rfl gg9 rfl (by kernel_rfl) hone ?_; intro w10 b10 g10))
 obtain ⟨z0, z1, z2, z3, z4, z5, z6, z7, z8, z9, z10, _⟩ := blk11 b10
 refine bodyPost_ret (v := .agg #[a0, a1, a2, a3, a4, a5, a6, a7, a8, a9, .int .i64 er]) (by simp [results, Tryz.results143, go_sem, z0, z1, z2, z3, z4, z5, z6, z7, z8, z9, z10]) rfl ?_
 refine ⟨rfl, w1, hR1, ?_, ?_, by rw [hg]; exact lg1⟩
 · rw [hg]
   exact (((Turns.refl [g] w1).alloc _).grown g9 (fun k e hk => by cases e; omega)).grown g10 (fun k e _ => by cases e; simp)
 · exact ((hTW _).more (by simp)).trans (hT1.more (by intro k hk; simp [hk]))
end
section
set_option maxRecDepth 100000
open Go.RowKit Go.Maps
set_option maxHeartbeats 2000000 in
theorem procWrite_top (w : World) (p : Nat) (J : PS) (h : ProcOf w p J) (hm : J.may = true) (ht : J.top = true) (ha : J.at_ = 0) (hl : J.log = []) (hst : J.steps < 4611686018427387904)
 (fd bv : Value) (hfd : fd.oneCell' = true) (hbv : bv.oneCell' = true) (n er : Int) (hne : (er == 10) = false) (S : List Nat) (hS : ∀ g ∈ S, g < w.heap.size) (hSp : ∀ g ∈ J.foot p, g ∉ S) (R : World -> World -> Prop)
 (hw : ∀ W, ProcOf W p { J with steps := J.steps + 1 } -> Turns [p] w W -> Calls Tryz.prog 147 #[.pointer (some ⟨J.tb, 0, none⟩), fd, bv] W fun e w4 => e = .returned (.tuple #[.int .i64 n, .int .i64 er]) /\ Turns S W w4 /\ R W w4) :
 Calls Tryz.prog 107 #[.pointer (some ⟨p, 0, none⟩), fd, bv] w fun e w' => e = .returned (.tuple #[.int .i64 n, .int .i64 er]) /\ ProcOf w' p { J with steps := J.steps + 1 } /\
  ∃ W w4 N, R W w4 /\ (∀ g ∈ N, w.heap.size <= g /\ g < W.heap.size) /\ Turns N w4 w' /\ Turns ([p] ++ S) w w4 := by
 have hmf : ∀ (fn : Fn) (first cap : Array Value) (w : World), (Instr.makeFunc fn first cap).run Tryz.prog w = .ok (.func fn first cap) w := fun _ _ _ _ => rfl
 go_enter Tryz.func107, Tryz.ntmps107
 go_wp2_with fail
 obtain ⟨hh, hhh⟩ : ∃ hh, w.heap.size = hh := ⟨_, rfl⟩
 obtain ⟨W3, hW3⟩ : ∃ W3, ((w.alloc (.cells #[.pointer (some ⟨p, 0, none⟩)] 46)).alloc (.cells #[fd] 3)).alloc (.cells #[bv] 23) = W3 := ⟨_, rfl⟩
 have lp : p < hh := by rw [<- hhh]; exact h.blk.lt
 have k0 : Blk W3 hh 46 #[.pointer (some ⟨p, 0, none⟩)] := by rw [<- hW3, <- hhh]; exact ((Blk.new w _ _).alloc _).alloc _
 have k1 : Blk W3 (hh + 1) 3 #[fd] := by
  have := (Blk.new (w.alloc (.cells #[.pointer (some ⟨p, 0, none⟩)] 46)) 3 #[fd]).alloc (.cells #[bv] 23)
  rwa [hW3, show (w.alloc (.cells #[.pointer (some ⟨p, 0, none⟩)] 46)).heap.size = hh + 1 by simp [hhh]] at this
 have k2 : Blk W3 (hh + 1 + 1) 23 #[bv] := by
  have := Blk.new ((w.alloc (.cells #[.pointer (some ⟨p, 0, none⟩)] 46)).alloc (.cells #[fd] 3)) 23 #[bv]
  rwa [hW3, show ((w.alloc (.cells #[.pointer (some ⟨p, 0, none⟩)] 46)).alloc (.cells #[fd] 3)).heap.size = hh + 1 + 1 by simp [hhh]] at this
 have T3 : Turns [] w W3 := by rw [<- hW3]; exact (((Turns.refl _ w).alloc _).alloc _).alloc _
 have P3 : ProcOf W3 p J := h.turns T3 (by simp)
 have s3 : hh + 1 + 1 < W3.heap.size := k2.lt
 rw [hW3, hhh]
 rw [hhh] at hS
 have hcall := call_top W3 p J P3 hm ht ha hl hst 146 #[.pointer (some ⟨hh, 0, none⟩), .pointer (some ⟨hh + 1, 0, none⟩), .pointer (some ⟨hh + 1 + 1, 0, none⟩)] (fun _ => rfl)
  (.int .i64 n) (.int .i64 0) (.slice none 0 0) (.slice none 0 0) (.int .i64 0) (.bool false) (.int .i64 0) (.int .i64 0) (.int .i64 0) (.int .i64 0) er (by simp [Value.oneCell']) hne S (fun g hg => by have := hS g hg; omega)
  (fun w1 => ∃ W0 W w4, R W w4 /\ W0.heap.size < W.heap.size /\ W3.heap.size <= W0.heap.size /\ Turns [W0.heap.size] w4 w1 /\ Turns S W0 w4 /\ Turns [p] W3 W0 /\ ProcOf w1 p { J with steps := J.steps + 1 })
  (fun W0 hP0 hT0 => by
   have b0 := (hT0.block _ k0.lt (by rw [List.mem_singleton]; omega)).trans k0
   have b1 := (hT0.block _ k1.lt (by rw [List.mem_singleton]; omega)).trans k1
   have b2 := (hT0.block _ k2.lt (by rw [List.mem_singleton]; omega)).trans k2
   have hs0 := hT0.size
   refine (write1_any W0 hh (hh + 1) (hh + 1 + 1) p J.tb fd bv _ b0 b1 b2 hP0.blk rfl n er S (fun g hg => by have := hS g hg; omega) (fun w4 => ∃ W, R W w4 /\ W0.heap.size < W.heap.size)
    (fun W hT hlt => (hw W (hP0.turns hT (by simp)) (((T3.more (by simp)).trans hT0).trans (hT.more (by simp)))).mono fun e w4 ⟨h1, h2, h3⟩ => ⟨h1, h2, W, h3, hlt⟩)).mono ?_
   rintro e w1 ⟨rfl, w4, ⟨W, hR, hlt⟩, rfl, hT4⟩
   have hTc : Turns [W0.heap.size] w4 ((w4.setCell ⟨W0.heap.size, 0, none⟩ (.int .i64 n)).setCell ⟨W0.heap.size, 10, none⟩ (.int .i64 er)) := ((Turns.refl _ w4).setCell ⟨W0.heap.size, 0, none⟩ _ (fun _ => List.mem_singleton.2 rfl)).setCell ⟨W0.heap.size, 10, none⟩ _ (fun _ => List.mem_singleton.2 rfl)
   have hT1 : Turns S W0 ((w4.setCell ⟨W0.heap.size, 0, none⟩ (.int .i64 n)).setCell ⟨W0.heap.size, 10, none⟩ (.int .i64 er)) := (hT4.setCell ⟨W0.heap.size, 0, none⟩ _ (fun hlt => absurd hlt (Nat.lt_irrefl _))).setCell ⟨W0.heap.size, 10, none⟩ _ (fun hlt => absurd hlt (Nat.lt_irrefl _))
   have hP1 := hP0.turns hT1 hSp
   exact ⟨rfl, hT1, hP1, W0, W, w4, hR, hlt, hs0, hTc, hT4, hT0, hP1⟩)
 go_wp2_with (first
  | (refine hcall.mono ?_; rintro e w5 ⟨rfl, w1, ⟨W0, W, w4, hR, hlt, hs0, hTc, hT4, hT0, hP1⟩, hT5, hT15, hl1⟩; have m3 := T3.size; have P5 : ProcOf w5 p { J with steps := J.steps + 1 } := hP1.turns hT5 (fun g hg hm => by rw [List.mem_singleton] at hm; have h1 := h.foot_lt g hg; omega); have q14 : w5.cell? ⟨p, 14, none⟩ = some (.bool false) := P5.blk.cell 14; have j0 : w5.cell? ⟨hh, 0, none⟩ = some (.pointer (some ⟨p, 0, none⟩)) := Blk.cell ((hT5.block _ (by omega) (by rw [List.mem_singleton]; omega)).trans ((hT15.block _ (by omega) (by intro hm; rcases List.mem_append.1 hm with hm | hm; (rw [List.mem_singleton] at hm; omega); (have := hS _ hm; omega))).trans k0)) 0; have j1 : hh < w5.heap.size := (by have := hT5.size; omega); have j2 : p < w5.heap.size := P5.blk.lt)
  | fail)
 have z0 : (w5.alloc (.cells #[.int .i64 n, .int .i64 0, .slice none 0 0, .slice none 0 0, .int .i64 0, .bool false, .int .i64 0, .int .i64 0, .int .i64 0, .int .i64 0, .int .i64 er] replyT)).cell? ⟨w5.heap.size, 0, none⟩ = some (.int .i64 n) := Blk.cell (Blk.new w5 _ _) 0
 have z10 : (w5.alloc (.cells #[.int .i64 n, .int .i64 0, .slice none 0 0, .slice none 0 0, .int .i64 0, .bool false, .int .i64 0, .int .i64 0, .int .i64 0, .int .i64 0, .int .i64 er] replyT)).cell? ⟨w5.heap.size, 10, none⟩ = some (.int .i64 er) := Blk.cell (Blk.new w5 _ _) 10
 go_quiet (fail)
 go_wp2_with fail
 go_returns
 refine ⟨rfl, (P5.below ((Below.refl _ w5).alloc (Nat.le_refl _) _)).same fun _ _ => rfl, W, w4, [W0.heap.size, W3.heap.size], hR, ?_, ?_, ?_⟩
 · intro g hg
   simp only [List.mem_cons, List.not_mem_nil, or_false] at hg
   rcases hg with rfl | rfl <;> omega
 · exact (((hTc.more (by simp)).trans (hT5.more (by simp))).alloc _).trans ⟨rfl, rfl, rfl, Nat.le_refl _, fun _ _ _ => rfl⟩
 · exact ((T3.more (by simp)).trans (hT0.more (by simp))).trans (hT4.more (by intro g hg; simp [hg]))
end
end Go.Proofs.YtffffjngodinnaaGreatDoor
