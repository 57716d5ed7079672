/-
  Parts of the proof: A walk over call of a process that is stepped: a call that is done, and told; Dump's drawn region, that makes a node: a theorem of its own, over the frame written out (printed by wip/tools/dumpgen.py).
-/
import Derived.Test.YtffffjngodinnaaGreatDoorV21
import Derived.Test.YtffffjngodinnaaGreatDoorV20
import Derived.Test.YtffffjngodinnaaGreatDoorV09

section
namespace Go.Proofs.YtffffjngodinnaaGreatDoor
open Go.RowKit Go.Maps

theorem ProcOf.set1 {w W : World} {p : Nat} {J J' : PS} (h : ProcOf w p J) (hT : Turns [p] w W) (hb : Blk W p 85 (procCells J')) (ha : J'.av = J.av ∧ J'.args = J.args) (he : J'.ev = J.ev ∧ J'.env = J.env) (hl : J'.lv = J.lv ∧ J'.log = J.log) : ProcOf W p J' := by
  refine ⟨hb, ?_, ?_, ?_⟩
  · rw [ha.1, ha.2]; exact ownsRow_same h.args fun g hg => hT.block g (h.args.lt g hg).2 (by rw [List.mem_singleton]; rintro rfl; exact own_blk_ne h.args h.blk (by decide) hg)
  · rw [he.1, he.2]; exact ownsRow_same h.env fun g hg => hT.block g (h.env.lt g hg).2 (by rw [List.mem_singleton]; rintro rfl; exact own_blk_ne h.env h.blk (by decide) hg)
  · rw [hl.1, hl.2]; exact ownsRow_same h.log fun g hg => hT.block g (h.log.lt g hg).2 (by rw [List.mem_singleton]; rintro rfl; exact own_blk_ne h.log h.blk (by decide) hg)

theorem own_ne_own {w : World} {B B' n n' size size' g : Nat} {e e' : TypeId} {v v' : Value} {xs xs' : List Value} (h : w.ownsRow B e size v n xs) (h' : w.ownsRow B' e' size' v' n' xs') (he : e ≠ e') (hv : v.ownBlock = some g) : v'.ownBlock ≠ some g := by
  intro hv'
  obtain ⟨c, fz, h1⟩ := Lib.ownsRow_kind h g hv
  obtain ⟨c', fz', h2⟩ := Lib.ownsRow_kind h' g hv'
  rw [h1] at h2
  injection h2 with h2
  injection h2 with _ h3
  exact he h3

set_option maxRecDepth 100000 in
set_option maxHeartbeats 4000000 in
theorem call_do (w : World) (p : Nat) (J : PS) (h : ProcOf w p J) (hm : J.may = true) (ht : J.top = false) (ha : J.at_ = J.log.length) (hll : J.log.length ≤ 1000000) (hst : J.steps < 4611686018427387904)
    (id : FuncId) (caps : Array Value) (hen : ∀ W, (callFunc id caps).run Tryz.prog W = .ok (.enter id caps) W) (q1 q2 : Int) (hne : (q2 == 10) = false) (S : List Nat) (hS : ∀ g ∈ S, g < w.heap.size) (hSp : ∀ g ∈ J.foot p, g ∉ S) (R : World → Prop)
    (hdo : ∀ W, ProcOf W p { J with steps := J.steps + 1, may := false } → Turns [p] w W → Calls Tryz.prog id caps W fun e w1 => e = .returned (.agg (replyC (q1, q2)).toArray) ∧ Turns S W w1 ∧ R w1) :
    Calls Tryz.prog 143 #[.pointer (some ⟨p, 0, none⟩), .func (.func id) #[] caps] w fun e w' => e = .returned (.agg (replyC (q1, q2)).toArray) ∧
      ∃ w1 lv, R w1 ∧ ProcOf w' p { J with steps := J.steps + 1, may := false, at_ := J.at_ + 1, lv := lv, log := J.log ++ [(q1, q2)] } ∧ Turns ([w.heap.size, p] ++ J.lv.ownBlock.toList) w1 w' ∧ Turns ([p] ++ S) w w1 ∧ w.heap.size < w1.heap.size ∧ (lv.ownBlock = J.lv.ownBlock ∨ ∃ g, lv.ownBlock = some g ∧ w1.heap.size ≤ g) := by
  have hb := h.blk
  obtain ⟨n, hn⟩ : ∃ n, J.log.length = n := ⟨_, rfl⟩
  obtain ⟨A, cp, hlv, _⟩ := own_slice h.log
  rw [hn] at hlv
  have HLV := Lib.hid hlv
  have HFL := Lib.hid h.foot_lt
  have c8 : w.cell? ⟨p, 10, none⟩ = some (.slice A n cp) := by rw [hb.cell 10, ← hlv]; rfl
  have c9 : w.cell? ⟨p, 11, none⟩ = some (.int .i64 (n : Int)) := by rw [hb.cell 11]; simp [procCells, ha, hn]
  have c10 : w.cell? ⟨p, 12, none⟩ = some (.bool true) := by rw [hb.cell 12]; simp [procCells, hm]
  have c11 : w.cell? ⟨p, 13, none⟩ = some (.bool false) := by rw [hb.cell 13]; simp [procCells, ht]
  have c13 : w.cell? ⟨p, 15, none⟩ = some (.int .i64 (J.steps : Int)) := by rw [hb.cell 15]; simp [procCells]
  have lp := hb.lt
  have hw1 : wrap64 ((J.steps : Int) + 1) = ((J.steps + 1 : Nat) : Int) := w64 _ (by omega)
  go_enter Tryz.func143, Tryz.ntmps143
  go_wp2_with fail
  obtain ⟨Z, hZ⟩ : ∃ Z, (w.alloc (.cells #[.int .i64 0, .int .i64 0, .slice none 0 0, .slice none 0 0, .int .i64 0, .bool false, .int .i64 0, .int .i64 0, .int .i64 0, .int .i64 0, .int .i64 0] replyT)) = Z := ⟨_, rfl⟩
  have hzb : Blk Z w.heap.size replyT replyZ := by rw [← hZ]; exact Blk.new w _ _
  have hTZ : Turns [] w Z := by rw [← hZ]; exact (Turns.refl _ w).alloc _
  have pZ : Blk Z p 85 (procCells J) := (hTZ.block p lp (by simp)).trans hb
  have d8 : Z.cell? ⟨p, 10, none⟩ = some (.slice A n cp) := (hTZ.cell lp (by simp)).trans c8
  have d9 : Z.cell? ⟨p, 11, none⟩ = some (.int .i64 (n : Int)) := (hTZ.cell lp (by simp)).trans c9
  have d10 : Z.cell? ⟨p, 12, none⟩ = some (.bool true) := (hTZ.cell lp (by simp)).trans c10
  have d11 : Z.cell? ⟨p, 13, none⟩ = some (.bool false) := (hTZ.cell lp (by simp)).trans c11
  have d13 : Z.cell? ⟨p, 15, none⟩ = some (.int .i64 (J.steps : Int)) := (hTZ.cell lp (by simp)).trans c13
  have e10 : Z.frozen? ⟨p, 12, none⟩ = false := pZ.frozen 12
  have e13 : Z.frozen? ⟨p, 15, none⟩ = false := pZ.frozen 15
  have lZ := pZ.lt
  rw [hZ]
  clear c8 c9 c10 c11 c13
  obtain ⟨g, hg⟩ : ∃ g, w.heap.size = g := ⟨_, rfl⟩
  rw [hg] at hzb ⊢
  have hTW : ∀ nq, Turns [p] w (((Z.drewN nq).setCell ⟨p, 12, none⟩ (.bool false)).setCell ⟨p, 15, none⟩ (.int .i64 ((J.steps : Int) + 1))) := fun nq =>
    ((((Turns.more (S' := [p]) hTZ (by simp)).trans (w' := Z) (w'' := Z.drewN nq) ⟨rfl, rfl, rfl, Nat.le_refl _, fun _ _ _ => rfl⟩).setCell ⟨p, 12, none⟩ _ (fun _ => List.mem_singleton.2 rfl)).setCell ⟨p, 15, none⟩ _ (fun _ => List.mem_singleton.2 rfl))
  have hPW : ∀ nq, ProcOf (((Z.drewN nq).setCell ⟨p, 12, none⟩ (.bool false)).setCell ⟨p, 15, none⟩ (.int .i64 ((J.steps : Int) + 1))) p { J with steps := J.steps + 1, may := false } := by
    intro nq
    refine h.set1 (hTW nq) ?_ ⟨rfl, rfl⟩ ⟨rfl, rfl⟩ ⟨rfl, rfl⟩
    have b1 : Blk (((Z.drewN nq).setCell ⟨p, 12, none⟩ (.bool false)).setCell ⟨p, 15, none⟩ (.int .i64 ((J.steps : Int) + 1))) p 85 _ := ((pZ.drewN nq).set_ 12 (.bool false)).set_ 15 (.int .i64 ((J.steps : Int) + 1))
    rw [show procCells { J with steps := J.steps + 1, may := false } = ((procCells J).setIfInBounds 12 (.bool false)).setIfInBounds 15 (.int .i64 ((J.steps : Int) + 1)) by simp [procCells]]
    exact b1
  have hgW : ∀ nq, Blk (((Z.drewN nq).setCell ⟨p, 12, none⟩ (.bool false)).setCell ⟨p, 15, none⟩ (.int .i64 ((J.steps : Int) + 1))) g replyT replyZ := fun nq => ((hzb.drewN nq).far (by show g ≠ p; omega) _).far (by show g ≠ p; omega) _
  go_quiet (fail)
  go_wp2_with fail
  refine wp_loop_rounds 1 ?_
  rw [rounds_succ]
  have HST := Lib.hid hst
  have HN := Lib.hid hn
  have HA := Lib.hid ha
  clear hst hn ha hb h pZ hTZ hZ
  go_wp2_with (first
    | (refine (hdo _ (hPW _) (hTW _)).mono ?_; rintro e w1 ⟨rfl, hT1, hR1⟩; have P1 := (hPW nq).turns hT1 hSp; have g1 : Blk w1 g replyT replyZ := (hT1.block g (Blk.lt (hgW _)) (fun hm => by have := hS g hm; omega)).trans (hgW _); have lg1 := g1.lt; have lp1 := P1.blk.lt)
    | (refine wpList_store_blk rfl replyT (.tmp 5) (.tmp 39) rfl w1.heap.size replyT replyZ #[.int .i64 q1, .int .i64 0, .slice none 0 0, .slice none 0 0, .int .i64 0, .bool false, .int .i64 0, .int .i64 0, .int .i64 0, .int .i64 0, .int .i64 q2] rfl rfl (Blk.new w1 _ _) rfl (by kernel_rfl) (by simp [Value.oneCell']) ?_; intro w9 b9 g9; obtain ⟨x0, x1, x2, x3, x4, x5, x6, x7, x8, x9, x10, l9⟩ := blk11 b9; have p9 : Blk w9 p 85 _ := Blk.grown (P1.blk.alloc _) g9 (by simp; omega); have q13 : w9.cell? ⟨p, 13, none⟩ = some (.bool false) := (by rw [p9.cell 13]; simp [procCells, ht]); have gg9 : Blk w9 g replyT replyZ := Blk.grown (g1.alloc _) g9 (by simp; omega)))
  have P9 : ProcOf w9 p { J with steps := J.steps + 1, may := false } := P1.same fun k hk => (g9.block k (by have := P1.foot_lt k hk; simp; omega) (fun e => by cases e; exact absurd (P1.foot_lt _ hk) (Nat.lt_irrefl _))).trans (Below.heap_alloc w1 _ k (P1.foot_lt k hk))
  have hown9 : w9.ownsRow 0 252 11 (.slice A n cp) n (logC J.log) := by rw [← hlv, ← HN.out]; exact P9.log
  have T9 : Turns [w1.heap.size] w1 w9 := ((Turns.refl _ w1).alloc _).grown g9 (fun k e _ => by cases e; simp)
  have ls9 : w1.heap.size < w9.heap.size := l9
  obtain ⟨gb, hgb⟩ : ∃ gb, w1.heap.size = gb := ⟨_, rfl⟩
  have hT1' : Turns ([p] ++ S) w w1 := ((hTW nq).more (by simp)).trans (hT1.more (by intro k hk; simp [hk]))
  have HT1 := Lib.hid hT1'
  have HR1 := Lib.hid hR1
  have HT9 := Lib.hid T9
  have HG9 := Lib.hid gg9
  have HGB := Lib.hid hgb
  have HPR := Lib.hid P9
  rw [hgb] at b9 ⊢
  clear hdo hPW hTW hgW hT1 hR1 P1 g1 g9 x0 x1 x2 x3 x4 x5 x6 x7 x8 x9 x10 T9 gg9 q13 hT1' d8 d9 d10 d11 d13 e10 e13 hzb P9
  refine call_r10 w9 p gb n cp A q1 q2 J.log _ p9 (by simp only [procCells]; rw [hlv]; rfl) hown9 (by have := HN.out; omega) b9 ?_
  intro u48 u49 u50 u51 u52 u53 u54 u55 u56 u57 w11 lv pb11 hown11 hT11 hlvb
  dsimp only
  obtain ⟨i, hi⟩ : ∃ i, n = i := ⟨_, rfl⟩
  have P11 : ProcOf w11 p { J with steps := J.steps + 1, may := false, lv := lv, log := J.log ++ [(q1, q2)] } := by
    have hpl : (Value.slice A n cp).ownBlock ≠ some p := own_blk_ne hown9 p9 (by decide)
    refine ⟨?_, ownsRow_same HPR.out.args fun g hg => hT11.block g (HPR.out.args.lt g hg).2 ?_, ownsRow_same HPR.out.env fun g hg => hT11.block g (HPR.out.env.lt g hg).2 ?_, ?_⟩
    · rw [show procCells { J with steps := J.steps + 1, may := false, lv := lv, log := J.log ++ [(q1, q2)] } = (procCells { J with steps := J.steps + 1, may := false }).setIfInBounds 10 lv by simp [procCells]]
      exact pb11
    · simp only [List.mem_append, List.mem_cons, List.not_mem_nil, or_false, Option.mem_toList, not_or]
      exact ⟨fun e => own_blk_ne HPR.out.args p9 (by decide) (e ▸ hg), own_ne_own HPR.out.args hown9 (by decide) hg⟩
    · simp only [List.mem_append, List.mem_cons, List.not_mem_nil, or_false, Option.mem_toList, not_or]
      exact ⟨fun e => own_blk_ne HPR.out.env p9 (by decide) (e ▸ hg), own_ne_own HPR.out.env hown9 (by decide) hg⟩
    · show w11.ownsRow 0 _ 11 lv (J.log ++ [(q1, q2)]).length _
      rw [List.length_append, HN.out]
      exact hown11
  have hlast : (J.log ++ [(q1, q2)])[i]? = some (q1, q2) := by
    rw [List.getElem?_append_right (by have := HN.out; omega)]
    have : i - J.log.length = 0 := by have := HN.out; omega
    rw [this]
    rfl
  obtain ⟨r, cr, hlv2, hrow⟩ : ∃ r cp, lv = .slice (some ⟨r, 0, none⟩) (n + 1) cp ∧ replyAt w11 r (i * 11) q1 q2 := by
    rcases hown11.2 with ⟨_, h0⟩ | ⟨r, cp, cur, e, _, hgb, _, _, _, hcur⟩
    · omega
    · refine ⟨r, cp, e, replyAt.of fun j v hv => ?_⟩
      have hj : j < 11 := (List.getElem?_eq_some_iff.1 hv).1
      have h1 := (logC_at hlast j hj).trans hv
      rw [← hcur, List.getElem?_take] at h1
      split at h1
      · rw [Array.getElem?_toList] at h1
        exact (cell_of_row w11 r (i * 11 + j) cur 252 (0, 0) hgb).trans h1
      · cases h1
  have c8 : w11.cell? ⟨p, 10, none⟩ = some (.slice (some ⟨r, 0, none⟩) (n + 1) cr) := by rw [P11.blk.cell 10, ← hlv2]; rfl
  have c9 : w11.cell? ⟨p, 11, none⟩ = some (.int .i64 (i : Int)) := by rw [P11.blk.cell 11]; simp [procCells, HA.out, HN.out, hi]
  have HP11 := Lib.hid P11
  have HT11 := Lib.hid hT11
  have HI := Lib.hid hi
  have HLB := Lib.hid hlvb
  have HO9 := Lib.hid hown9
  have HO11 := Lib.hid hown11
  have HB9 := Lib.hid b9
  have HP9 := Lib.hid p9
  have hin : i < n + 1 := by omega
  have hw : wrap64 ((i : Int) + 1) = ((i + 1 : Nat) : Int) := by rw [w64 _ (by have := HN.out; omega)]; omega
  clear hi hlvb hown9 hown11 P11 hT11 pb11 hll hlv hlast b9 p9
  go_wp2_with fail
  refine call_r11 w11 p r i (n + 1) cr q1 q2 c8 c9 hrow hin ?_
  intro u58 u59 u60 u61 u62 u63 u64 u65 u66 u67 w2 g2 b2 hg2 gb2
  dsimp only
  have hJa : J.at_ = i := by rw [HA.out, HN.out, HI.out]
  have hgl : g < w9.heap.size := HG9.out.lt
  have glt : g < w2.heap.size := Nat.lt_of_lt_of_le (Nat.lt_of_lt_of_le hgl HT11.out.size) b2.size
  have hgp : g ≠ p := by have := HFL.out p (by simp [PS.foot]); omega
  have R2 : Blk w2 g 252 replyZ := Blk.on ((HT11.out.block g hgl (by
    simp only [List.mem_append, List.mem_cons, List.not_mem_nil, or_false, Option.mem_toList, not_or]
    refine ⟨hgp, fun e => ?_⟩
    have := HFL.out g (by rw [← HLV.out] at e; simp [PS.foot, e])
    omega)).trans HG9.out) b2
  have P2 := HP11.out.below b2
  have e9 : w2.cell? ⟨p, 11, none⟩ = some (.int .i64 (i : Int)) := (b2.cell (p := ⟨p, 11, none⟩) HP11.out.blk.lt).trans c9
  have f9 : w2.frozen? ⟨p, 11, none⟩ = false := P2.blk.frozen 11
  have lp2 := P2.blk.lt
  have hgs : w9.heap.size ≤ g2 := Nat.le_trans HT11.out.size hg2
  have hg2p : g2 ≠ p := by have := HP9.out.lt; omega
  have hg2g : g2 ≠ g := by omega
  obtain ⟨W, hW⟩ : ∃ W, w2.setCell ⟨p, 11, none⟩ (.int .i64 ((i : Int) + 1)) = W := ⟨_, rfl⟩
  have gW : Blk W g2 252 #[.int .i64 q1, .int .i64 0, .slice none 0 0, .slice none 0 0, .int .i64 0, .bool false, .int .i64 0, .int .i64 0, .int .i64 0, .int .i64 0, .int .i64 q2] := by rw [← hW]; exact gb2.far hg2p _
  have RW : Blk W g 252 replyZ := by rw [← hW]; exact R2.far hgp _
  have hT2 : Turns [p] w2 W := by rw [← hW]; exact (Turns.refl _ w2).setCell ⟨p, 11, none⟩ _ (fun _ => List.mem_singleton.2 rfl)
  have PW : ProcOf W p { J with steps := J.steps + 1, may := false, at_ := J.at_ + 1, lv := lv, log := J.log ++ [(q1, q2)] } := by
    refine P2.set1 hT2 ?_ ⟨rfl, rfl⟩ ⟨rfl, rfl⟩ ⟨rfl, rfl⟩
    rw [← hW, hJa]
    have b3 := P2.blk.set_ 11 (.int .i64 ((i : Int) + 1))
    rw [show procCells { J with steps := J.steps + 1, may := false, at_ := i + 1, lv := lv, log := J.log ++ [(q1, q2)] } = (procCells { J with steps := J.steps + 1, may := false, lv := lv, log := J.log ++ [(q1, q2)] }).setIfInBounds 11 (.int .i64 ((i : Int) + 1)) by simp [procCells]]
    exact b3
  have T12 : Turns ([p] ++ (Value.slice A n cp).ownBlock.toList) w9 W := (HT11.out.trans ((Turns.of_below b2).more (by simp))).trans (hT2.more (by simp))
  obtain ⟨V, hV⟩ : ∃ V, (W.setCell ⟨g2, 2, none⟩ (.slice none 0 0)).setCell ⟨g2, 3, none⟩ (.slice none 0 0) = V := ⟨_, rfl⟩
  have gV : Blk V g2 252 #[.int .i64 q1, .int .i64 0, .slice none 0 0, .slice none 0 0, .int .i64 0, .bool false, .int .i64 0, .int .i64 0, .int .i64 0, .int .i64 0, .int .i64 q2] := by rw [← hV]; exact (gW.set_ 2 (.slice none 0 0)).set_ 3 (.slice none 0 0)
  have RV : Blk V g 252 replyZ := by rw [← hV]; exact (RW.far (Ne.symm hg2g) _).far (Ne.symm hg2g) _
  have TV : Turns ([p] ++ (Value.slice A n cp).ownBlock.toList) w9 V := by rw [← hV]; exact (T12.setCell ⟨g2, 2, none⟩ _ (fun hlt => by simp at hlt; omega)).setCell ⟨g2, 3, none⟩ _ (fun hlt => by simp at hlt; omega)
  have hfoot : ∀ k ∈ ({ J with steps := J.steps + 1, may := false, at_ := J.at_ + 1, lv := lv, log := J.log ++ [(q1, q2)] } : PS).foot p, k ≠ g2 ∧ k ≠ g := by
    intro k hk
    have h1 := HP11.out.foot_lt k hk
    refine ⟨by omega, fun e => ?_⟩
    subst e
    simp only [PS.foot, List.mem_append, List.mem_cons, List.not_mem_nil, or_false, Option.mem_toList] at hk
    rcases hk with ((hk | hk) | hk) | hk
    · exact hgp hk
    · exact absurd (HFL.out k (by simp [PS.foot, hk])) (by omega)
    · exact absurd (HFL.out k (by simp [PS.foot, hk])) (by omega)
    · rcases HLB.out with e | ⟨g', e, hle⟩
      · rw [hk, ← HLV.out] at e
        exact absurd (HFL.out k (by simp [PS.foot, ← e])) (by omega)
      · rw [hk] at e
        cases e
        omega
  have PV : ProcOf V p { J with steps := J.steps + 1, may := false, at_ := J.at_ + 1, lv := lv, log := J.log ++ [(q1, q2)] } := by
    rw [← hV]
    exact PW.same fun k hk => by
      have hkg := (hfoot k hk).1
      rw [Below.heap_setCell _ _ _ _ hkg, Below.heap_setCell _ _ _ _ hkg]
  obtain ⟨x0, x1, x2, x3, x4, x5, x6, x7, x8, x9, x10, xl⟩ := blk11 gW
  have x2f := gW.frozen 2
  have x3f := gW.frozen 3
  have hone : (#[.int .i64 q1, .int .i64 0, .slice none 0 0, .slice none 0 0, .int .i64 0, .bool false, .int .i64 0, .int .i64 0, .int .i64 0, .int .i64 0, .int .i64 q2] : Array Value).all (·.oneCell') = true := by simp [Value.oneCell']
  have HTV := Lib.hid TV
  have HPV := Lib.hid PV
  have HFO := Lib.hid hfoot
  have HJA := Lib.hid hJa
  clear PW gW RW R2 gb2 P2 b2 T12 hT2 TV PV hfoot hJa c8 c9 hrow
  go_wp2_with (first
    | (go_at_call 37; refine (cloneU_nil _).mono ?_; rintro e w3 ⟨rfl, rfl⟩)
    | (go_at_call 59; refine (cloneS_nil _).mono ?_; rintro e w3 ⟨rfl, rfl⟩)
    | (refine wpList_load_row rfl replyT (.tmp 6) rfl g2 rfl replyT #[.int .i64 q1, .int .i64 0, .slice none 0 0, .slice none 0 0, .int .i64 0, .bool false, .int .i64 0, .int .i64 0, .int .i64 0, .int .i64 0, .int .i64 q2] (0, 0) _ gV Tryz.underlying252 rfl (by kernel_rfl) ?_)
    | (refine wpList_store_blk rfl replyT (.tmp 4) (.tmp 83) rfl g replyT replyZ #[.int .i64 q1, .int .i64 0, .slice none 0 0, .slice none 0 0, .int .i64 0, .bool false, .int .i64 0, .int .i64 0, .int .i64 0, .int .i64 0, .int .i64 q2] rfl rfl RV rfl (by kernel_rfl) hone ?_; intro w20 b20 g20))
  obtain ⟨z0, z1, z2, z3, z4, z5, z6, z7, z8, z9, z10, _⟩ := blk11 b20
  refine bodyPost_ret (v := .agg #[.int .i64 q1, .int .i64 0, .slice none 0 0, .slice none 0 0, .int .i64 0, .bool false, .int .i64 0, .int .i64 0, .int .i64 0, .int .i64 0, .int .i64 q2]) (by simp [results, Tryz.results143, go_sem, z0, z1, z2, z3, z4, z5, z6, z7, z8, z9, z10]) rfl ?_
  have hlvo : J.lv.ownBlock = (Value.slice A n cp).ownBlock := by rw [HLV.out]
  have hgb1 : w1.heap.size = gb := HGB.out
  refine ⟨rfl, w1, lv, HR1.out, HPV.out.same fun k hk => g20.block k (HPV.out.foot_lt k hk) (fun e => by cases e; exact (HFO.out _ hk).2 rfl), ?_, HT1.out, by omega, ?_⟩
  · rw [hlvo]
    refine (((HT9.out.more (S' := [gb, g, p] ++ (Value.slice A n cp).ownBlock.toList) (by intro k hk; rw [List.mem_singleton] at hk; simp [hk, hgb1])).trans (HTV.out.more (by intro k hk; simp only [List.mem_append, List.mem_cons, List.not_mem_nil, or_false] at hk ⊢; rcases hk with rfl | hk; simp; exact .inr hk))).grown g20 (fun k e _ => by cases e; simp)).then (Turns.refl [] _) (by simp) |> fun h => ?_
    exact ⟨h.os, h.tape, h.output, h.size, fun k hk hn => h.block k hk (by
      intro hm
      rcases List.mem_append.1 hm with hm | hm
      · simp only [List.mem_cons, List.not_mem_nil, or_false] at hm
        rcases hm with rfl | rfl | rfl
        · omega
        · exact hn (by rw [hg]; simp)
        · exact hn (by simp)
      · exact hn (List.mem_cons_of_mem _ (List.mem_cons_of_mem _ hm)))⟩
  · rcases HLB.out with e | ⟨g', e, hle⟩
    · exact .inl (by rw [hlvo]; exact e)
    · exact .inr ⟨g', e, by omega⟩

end Go.Proofs.YtffffjngodinnaaGreatDoor
end

section
namespace Go.Proofs.YtffffjngodinnaaGreatDoor
open Go.RowKit Go.Maps

noncomputable def dumpReg (k : Nat) : Code := (Tryz.f34.body.bind (fun c => (regsOf c).find? (isReg k))).getD .skip
def nodeZ : Array Value := #[.string ⟨#[]⟩, .bool false, .int .i64 0, .int .i64 0, .int .i64 0, .slice none 0 0]

/-- the node's box was laid ahead of the clone -/
theorem dump_stored {q R n : Nat} {w V w3 : World} {bs : List UInt8} {s : ByteArray} {dir : Bool} {mode tick : Int} {u : Value} (hb : Below q w V) (hqV : q ≤ V.heap.size) (hz : Blk V R 111 nodeZ) (hR : q ≤ R) (ho : w3.ownsRow V.heap.size 5 1 u n (bytesC bs)) (hb3 : Below V.heap.size V w3) :
    ∃ A cap w5, u = .slice A n cap ∧ (storeHere 111 (.pointer (some ⟨R, 0, none⟩)) (.agg #[.string s, .bool dir, .int .i64 mode, .int .i64 tick, .int .i64 0, .slice A n cap])).run Tryz.prog w3 = .ok () w5 ∧ Below q w w3 ∧ Below q w w5 ∧ Blk w5 R 111 #[.string s, .bool dir, .int .i64 mode, .int .i64 tick, .int .i64 0, .slice A n cap] ∧ w5.ownsRow q 5 1 (.slice A n cap) n (bytesC bs) := by
  have b3 : Below q w w3 := hb.trans (hb3.mono hqV)
  obtain ⟨A, cap, rfl, _⟩ := own_slice ho
  have z3 := Blk.on hz hb3
  obtain ⟨w5, h1, h2, h3⟩ := run_storeHere (P := Tryz.prog) 111 #[.string s, .bool dir, .int .i64 mode, .int .i64 tick, .int .i64 0, .slice A n cap] z3 (by rfl) (by kernel_rfl) (by kernel_rfl)
  have hRV := hz.lt
  have ho5 := ownsRow_same ho fun j hj => h3.block j (ho.lt j hj).2 (by intro e; cases e; have := (ho.lt _ hj).1; omega)
  exact ⟨A, cap, w5, rfl, h1, b3, b3.grown h3 (Nat.le_trans hqV hb3.size) (fun j hj => by cases hj; exact hR), h2, Joins.ownsRow_le ho5 hqV⟩
/-- it is laid behind the clone -/
theorem dump_stored_last {q n : Nat} {w V w3 : World} {bs : List UInt8} {s : ByteArray} {dir : Bool} {mode tick : Int} {u : Value} (hb : Below q w V) (hqV : q ≤ V.heap.size) (ho : w3.ownsRow V.heap.size 5 1 u n (bytesC bs)) (hb3 : Below V.heap.size V w3) :
    ∃ A cap w5, u = .slice A n cap ∧ (storeHere 111 (.pointer (some ⟨w3.heap.size, 0, none⟩)) (.agg #[.string s, .bool dir, .int .i64 mode, .int .i64 tick, .int .i64 0, .slice A n cap])).run Tryz.prog (w3.alloc (.cells #[.string ⟨#[]⟩, .bool false, .int .i64 0, .int .i64 0, .int .i64 0, .slice none 0 0] 111)) = .ok () w5 ∧ Below q w w3 ∧ Below q w (w3.alloc (.cells #[.string ⟨#[]⟩, .bool false, .int .i64 0, .int .i64 0, .int .i64 0, .slice none 0 0] 111)) ∧ Below q w w5 ∧ q ≤ w3.heap.size ∧ Blk w5 w3.heap.size 111 #[.string s, .bool dir, .int .i64 mode, .int .i64 tick, .int .i64 0, .slice A n cap] ∧ w5.ownsRow q 5 1 (.slice A n cap) n (bytesC bs) := by
  have b3 : Below q w w3 := hb.trans (hb3.mono hqV)
  have hq3 := Nat.le_trans hqV hb3.size
  obtain ⟨A, cap, rfl, _⟩ := own_slice ho
  have b4 : Below q w (w3.alloc (.cells #[.string ⟨#[]⟩, .bool false, .int .i64 0, .int .i64 0, .int .i64 0, .slice none 0 0] 111)) := b3.alloc hq3 _
  obtain ⟨w5, h1, h2, h3⟩ := run_storeHere (P := Tryz.prog) (w := w3.alloc (.cells #[.string ⟨#[]⟩, .bool false, .int .i64 0, .int .i64 0, .int .i64 0, .slice none 0 0] 111)) (g := w3.heap.size) 111 #[.string s, .bool dir, .int .i64 mode, .int .i64 tick, .int .i64 0, .slice A n cap] (Blk.new w3 111 #[.string ⟨#[]⟩, .bool false, .int .i64 0, .int .i64 0, .int .i64 0, .slice none 0 0]) (by rfl) (by kernel_rfl) (by kernel_rfl)
  have h5 : Below w3.heap.size w3 w5 := (below_one w3 _).grown h3 (by simp) (fun j hj => by cases hj; exact Nat.le_refl _)
  exact ⟨A, cap, w5, rfl, h1, b3, b4, b4.grown h3 (Nat.le_trans hq3 (by simp)) (fun j hj => by cases hj; exact hq3), hq3, h2, Joins.ownsRow_le (own_on ho h5) hqV⟩

section
attribute [local go_sem ↓ high] storeHere_eq
set_option maxRecDepth 100000 in
set_option maxHeartbeats 4000000 in
theorem dump_r13 (w : World) (g9 b : Nat) (s : ByteArray) (dir : Bool) (mode tick : Int) (dv : Value) (bs : List UInt8) (n : Nat) (hn : bs.length = n) (x0 x5 x6 x7 x8 y1 : Value) (h9 : Blk w g9 172 #[.string s, y1]) (hb : Blk w b 179 #[x0, .int .i64 mode, .int .i64 tick, .bool dir, dv, x5, x6, x7, x8]) (hd : Bytes w w.heap.size dv bs) (hl : bs.length ≤ 1073741824)
    {e0 e1 e2 e3 e4 e5 e6 e7 e8 e11 e12 e13 e14 e15 e16 e17 e18 e19 e20 e21 e22 e23 e24 e25 e26 e27 e28 e29 e30 e31 e32 e33 e34 e35 e36 e37 e38 e39 e40 e41 e42 e43 e44 e45 e46 e47 e48 e49 e50 e51 e52 e53 e54 e55 e56 e57 e58 e59 e60 e61 e62 e63 e64 e65 e66 e67 e68 e69 e70 e71 e72 e73 e74 e75 e76 e77 e78 e79 : Value} {ds : List Deferred} {Q0 : Exit → Act → World → Prop}
    (hexit : ∀ (u37 u38 u39 u40 u41 u42 u43 u44 u45 u46 u47 u48 u49 u50 u51 u52 u53 u54 u55 u56 : Value) (w1 : World) (R : Nat) (A : Option Addr) (cap : Nat), Below w.heap.size w w1 → w.heap.size ≤ R → Blk w1 R 111 #[.string s, .bool dir, .int .i64 mode, .int .i64 tick, .int .i64 0, .slice A n cap] → w1.ownsRow w.heap.size 5 1 (.slice A n cap) n (bytesC bs) → Q0 .normal ⟨#[e0, e1, e2, e3, e4, e5, e6, e7, e8, .pointer (some ⟨g9, 0, none⟩), .pointer (some ⟨b, 0, none⟩), .pointer (some ⟨R, 0, none⟩), e12, e13, e14, e15, e16, e17, e18, e19, e20, e21, e22, e23, e24, e25, e26, e27, e28, e29, e30, e31, e32, e33, e34, e35, e36, u37, u38, u39, u40, u41, u42, u43, u44, u45, u46, u47, u48, u49, u50, u51, u52, u53, u54, u55, u56, e57, e58, e59, e60, e61, e62, e63, e64, e65, e66, e67, e68, e69, e70, e71, e72, e73, e74, e75, e76, e77, e78, e79], ds⟩ w1) :
    Code.wp Tryz.prog (dumpReg 13) Q0 ⟨#[e0, e1, e2, e3, e4, e5, e6, e7, e8, .pointer (some ⟨g9, 0, none⟩), .pointer (some ⟨b, 0, none⟩), e11, e12, e13, e14, e15, e16, e17, e18, e19, e20, e21, e22, e23, e24, e25, e26, e27, e28, e29, e30, e31, e32, e33, e34, e35, e36, e37, e38, e39, e40, e41, e42, e43, e44, e45, e46, e47, e48, e49, e50, e51, e52, e53, e54, e55, e56, e57, e58, e59, e60, e61, e62, e63, e64, e65, e66, e67, e68, e69, e70, e71, e72, e73, e74, e75, e76, e77, e78, e79], ds⟩ w := by
  dsimp only at hexit ⊢
  have hcl : ∀ V, Below w.heap.size w V → Calls Tryz.prog 62 #[dv] V fun e w' => ∃ u, e = .returned u ∧ w'.ownsRow V.heap.size 5 1 u n (bytesC bs) ∧ Below V.heap.size V w' := fun V hV => by
    have h := cloneB V dv bs ((hd.below hV).more hV.size) (by omega)
    rwa [hn] at h
  obtain ⟨DA, dc, rfl, _⟩ := hd
  rw [hn] at hb hcl
  have hS : ∀ W, Below w.heap.size w W → W.cell? ⟨g9, 0, none⟩ = some (.string s) ∧ W.cell? ⟨b, 3, none⟩ = some (.bool dir) ∧ W.cell? ⟨b, 1, none⟩ = some (.int .i64 mode) ∧ W.cell? ⟨b, 2, none⟩ = some (.int .i64 tick) ∧ W.cell? ⟨b, 4, none⟩ = some (.slice DA n dc) := fun W hW =>
    ⟨(Blk.on h9 hW).cell 0, (Blk.on hb hW).cell 3, (Blk.on hb hW).cell 1, (Blk.on hb hW).cell 2, (Blk.on hb hW).cell 4⟩
  have HX := Lib.hid hexit
  have HC := Lib.hid hcl
  have HS := Lib.hid hS
  have b0 : Below w.heap.size w w.drew := below_drew w 1
  have b0a : Below w.heap.size w (w.alloc (.cells #[.string ⟨#[]⟩, .bool false, .int .i64 0, .int .i64 0, .int .i64 0, .slice none 0 0] 111)).drew := (below_one w _).trans (below_drew _ 1)
  have hw0 : Below w.heap.size w w := Below.refl _ _
  have HZ := Lib.hid (show Blk (w.alloc (.cells #[.string ⟨#[]⟩, .bool false, .int .i64 0, .int .i64 0, .int .i64 0, .slice none 0 0] 111)).drew w.heap.size 111 nodeZ from (Blk.new w _ _).drewN 1)
  obtain ⟨k0, k3, k1, k2, k4⟩ := hS w hw0
  have lb := hb.lt
  have l9 := h9.lt
  clear hexit hcl hS h9 hb hn hl
  conv => arg 2; whnf
  go_region_held3 (fun W => W.cell? ⟨g9, 0, none⟩ = some (.string s) ∧ W.cell? ⟨b, 3, none⟩ = some (.bool dir) ∧ W.cell? ⟨b, 1, none⟩ = some (.int .i64 mode) ∧ W.cell? ⟨b, 2, none⟩ = some (.int .i64 tick) ∧ W.cell? ⟨b, 4, none⟩ = some (.slice DA n dc))
    (exact HS.out _ (by assumption))
    (first
    | (go_at_call 62; have hq := HC.out w.drew b0; (with_reducible refine hq.mono ?_); clear hq; rintro e w3 ⟨u, rfl, ho, hb3⟩
       obtain ⟨A, cap, w5, rfl, hst5, b3, b4, b5, hR, k5, o5⟩ := dump_stored_last (s := s) (dir := dir) (mode := mode) (tick := tick) b0 (Nat.le_refl _) ho hb3)
    | (go_at_call 62; have hq := HC.out (w.alloc (.cells #[.string ⟨#[]⟩, .bool false, .int .i64 0, .int .i64 0, .int .i64 0, .slice none 0 0] 111)).drew b0a; (with_reducible refine hq.mono ?_); clear hq; rintro e w3 ⟨u, rfl, ho, hb3⟩
       obtain ⟨A, cap, w5, rfl, hst5, b3, b5, k5, o5⟩ := dump_stored (s := s) (dir := dir) (mode := mode) (tick := tick) b0a b0a.size HZ.out (Nat.le_refl _) ho hb3
       have hR := Nat.le_refl w.heap.size))
  all_goals exact HX.out _ _ _ _ _ _ _ _ _ _ _ _ _ _ _ _ _ _ _ _ w5 _ A cap b5 hR k5 o5
end

end Go.Proofs.YtffffjngodinnaaGreatDoor
end
