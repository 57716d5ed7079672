/-
  Parts of the proof: A walk over call of a process that is stepped: a call that is done, and told; Walks over Write of a process that is stepped: told anew, and done.
-/
import Derived.Test.YtlncmknikjloeaaGreatDoorV13
import Derived.Test.YtlncmknikjloeaaGreatDoorV09

section
namespace Go.Proofs.YtlncmknikjloeaaGreatDoor
open Go.RowKit Go.Maps

theorem ProcOf.set1 {w W : World} {p : Nat} {J J' : PS} (h : ProcOf w p J) (hT : Turns [p] w W) (hb : Blk W p 89 (procCells J')) (ha : J'.av = J.av ∧ J'.args = J.args) (he : J'.ev = J.ev ∧ J'.env = J.env) (hl : J'.lv = J.lv ∧ J'.log = J.log) : ProcOf W p J' := by
  refine ⟨hb, ?_, ?_, ?_⟩
  · rw [ha.1, ha.2]; exact ownsRow_same h.args fun g hg => hT.block g (h.args.lt g hg).2 (by rw [List.mem_singleton]; rintro rfl; exact own_blk_ne h.args h.blk (by decide) hg)
  · rw [he.1, he.2]; exact ownsRow_same h.env fun g hg => hT.block g (h.env.lt g hg).2 (by rw [List.mem_singleton]; rintro rfl; exact own_blk_ne h.env h.blk (by decide) hg)
  · rw [hl.1, hl.2]; exact ownsRow_same h.log fun g hg => hT.block g (h.log.lt g hg).2 (by rw [List.mem_singleton]; rintro rfl; exact own_blk_ne h.log h.blk (by decide) hg)

theorem own_ne_own {w : World} {B B' n n' size size' g : Nat} {e e' : TypeId} {v v' : Value} {xs xs' : List Value} (h : w.ownsRow B e size v n xs) (h' : w.ownsRow B' e' size' v' n' xs') (he : e ≠ e') (hv : v.ownBlock = some g) : v'.ownBlock ≠ some g := by
  intro hv'
  obtain ⟨c, fz, h1⟩ := Lib.ownsRow_kind h g hv
  obtain ⟨c', fz', h2⟩ := Lib.ownsRow_kind h' g hv'
  rw [h1] at h2
  injection h2 with h2
  injection h2 with _ h3
  exact he h3

set_option maxRecDepth 100000 in
set_option maxHeartbeats 4000000 in
theorem call_do (w : World) (p : Nat) (J : PS) (h : ProcOf w p J) (hm : J.may = true) (ht : J.top = false) (ha : J.at_ = J.log.length) (hll : J.log.length ≤ 1000000) (hst : J.steps < 4611686018427387904)
    (id : FuncId) (caps : Array Value) (hen : ∀ W, (callFunc id caps).run Tryz.prog W = .ok (.enter id caps) W) (q1 q2 : Int) (hne : (q2 == 10) = false) (S : List Nat) (hS : ∀ g ∈ S, g < w.heap.size) (hSp : ∀ g ∈ J.foot p, g ∉ S) (R : World → Prop)
    (hdo : ∀ W, ProcOf W p { J with steps := J.steps + 1, may := false } → Turns [p] w W → Calls Tryz.prog id caps W fun e w1 => e = .returned (.agg (replyC (q1, q2)).toArray) ∧ Turns S W w1 ∧ R w1) :
    Calls Tryz.prog 78 #[.pointer (some ⟨p, 0, none⟩), .func (.func id) #[] caps] w fun e w' => e = .returned (.agg (replyC (q1, q2)).toArray) ∧
      ∃ w1 lv, R w1 ∧ ProcOf w' p { J with steps := J.steps + 1, may := false, at_ := J.at_ + 1, lv := lv, log := J.log ++ [(q1, q2)] } ∧ Turns ([w.heap.size, p] ++ J.lv.ownBlock.toList) w1 w' ∧ Turns ([p] ++ S) w w1 ∧ w.heap.size < w1.heap.size ∧ (lv.ownBlock = J.lv.ownBlock ∨ ∃ g, lv.ownBlock = some g ∧ w1.heap.size ≤ g) := by
  have hb := h.blk
  obtain ⟨n, hn⟩ : ∃ n, J.log.length = n := ⟨_, rfl⟩
  obtain ⟨A, cp, hlv, _⟩ := own_slice h.log
  rw [hn] at hlv
  have HLV := Lib.hid hlv
  have HFL := Lib.hid h.foot_lt
  have c8 : w.cell? ⟨p, 10, none⟩ = some (.slice A n cp) := by rw [hb.cell 10, ← hlv]; rfl
  have c9 : w.cell? ⟨p, 11, none⟩ = some (.int .i64 (n : Int)) := by rw [hb.cell 11]; simp [procCells, ha, hn]
  have c10 : w.cell? ⟨p, 12, none⟩ = some (.bool true) := by rw [hb.cell 12]; simp [procCells, hm]
  have c11 : w.cell? ⟨p, 13, none⟩ = some (.bool false) := by rw [hb.cell 13]; simp [procCells, ht]
  have c13 : w.cell? ⟨p, 15, none⟩ = some (.int .i64 (J.steps : Int)) := by rw [hb.cell 15]; simp [procCells]
  have lp := hb.lt
  have hw1 : wrap64 ((J.steps : Int) + 1) = ((J.steps + 1 : Nat) : Int) := w64 _ (by omega)
  go_enter Tryz.func78, Tryz.ntmps78
  go_wp2_with fail
  obtain ⟨Z, hZ⟩ : ∃ Z, (w.alloc (.cells #[.int .i64 0, .int .i64 0, .slice none 0 0, .slice none 0 0, .int .i64 0, .bool false, .int .i64 0, .int .i64 0, .int .i64 0, .int .i64 0, .int .i64 0] replyT)) = Z := ⟨_, rfl⟩
  have hzb : Blk Z w.heap.size replyT replyZ := by rw [← hZ]; exact Blk.new w _ _
  have hTZ : Turns [] w Z := by rw [← hZ]; exact (Turns.refl _ w).alloc _
  have pZ : Blk Z p 89 (procCells J) := (hTZ.block p lp (by simp)).trans hb
  have d8 : Z.cell? ⟨p, 10, none⟩ = some (.slice A n cp) := (hTZ.cell lp (by simp)).trans c8
  have d9 : Z.cell? ⟨p, 11, none⟩ = some (.int .i64 (n : Int)) := (hTZ.cell lp (by simp)).trans c9
  have d10 : Z.cell? ⟨p, 12, none⟩ = some (.bool true) := (hTZ.cell lp (by simp)).trans c10
  have d11 : Z.cell? ⟨p, 13, none⟩ = some (.bool false) := (hTZ.cell lp (by simp)).trans c11
  have d13 : Z.cell? ⟨p, 15, none⟩ = some (.int .i64 (J.steps : Int)) := (hTZ.cell lp (by simp)).trans c13
  have e10 : Z.frozen? ⟨p, 12, none⟩ = false := pZ.frozen 12
  have e13 : Z.frozen? ⟨p, 15, none⟩ = false := pZ.frozen 15
  have lZ := pZ.lt
  rw [hZ]
  clear c8 c9 c10 c11 c13
  obtain ⟨g, hg⟩ : ∃ g, w.heap.size = g := ⟨_, rfl⟩
  rw [hg] at hzb ⊢
  have hTW : ∀ nq, Turns [p] w (((Z.drewN nq).setCell ⟨p, 12, none⟩ (.bool false)).setCell ⟨p, 15, none⟩ (.int .i64 ((J.steps : Int) + 1))) := fun nq =>
    ((((Turns.more (S' := [p]) hTZ (by simp)).trans (w' := Z) (w'' := Z.drewN nq) ⟨rfl, rfl, rfl, Nat.le_refl _, fun _ _ _ => rfl⟩).setCell ⟨p, 12, none⟩ _ (fun _ => List.mem_singleton.2 rfl)).setCell ⟨p, 15, none⟩ _ (fun _ => List.mem_singleton.2 rfl))
  have hPW : ∀ nq, ProcOf (((Z.drewN nq).setCell ⟨p, 12, none⟩ (.bool false)).setCell ⟨p, 15, none⟩ (.int .i64 ((J.steps : Int) + 1))) p { J with steps := J.steps + 1, may := false } := by
    intro nq
    refine h.set1 (hTW nq) ?_ ⟨rfl, rfl⟩ ⟨rfl, rfl⟩ ⟨rfl, rfl⟩
    have b1 : Blk (((Z.drewN nq).setCell ⟨p, 12, none⟩ (.bool false)).setCell ⟨p, 15, none⟩ (.int .i64 ((J.steps : Int) + 1))) p 89 _ := ((pZ.drewN nq).set_ 12 (.bool false)).set_ 15 (.int .i64 ((J.steps : Int) + 1))
    rw [show procCells { J with steps := J.steps + 1, may := false } = ((procCells J).setIfInBounds 12 (.bool false)).setIfInBounds 15 (.int .i64 ((J.steps : Int) + 1)) by simp [procCells]]
    exact b1
  have hgW : ∀ nq, Blk (((Z.drewN nq).setCell ⟨p, 12, none⟩ (.bool false)).setCell ⟨p, 15, none⟩ (.int .i64 ((J.steps : Int) + 1))) g replyT replyZ := fun nq => ((hzb.drewN nq).far (by show g ≠ p; omega) _).far (by show g ≠ p; omega) _
  go_quiet (fail)
  go_wp2_with fail
  refine wp_loop_rounds 1 ?_
  rw [rounds_succ]
  have HST := Lib.hid hst
  have HN := Lib.hid hn
  have HA := Lib.hid ha
  clear hst hn ha hb h pZ hTZ hZ
  go_wp2_with (first
    | (refine (hdo _ (hPW _) (hTW _)).mono ?_; rintro e w1 ⟨rfl, hT1, hR1⟩; have P1 := (hPW nq).turns hT1 hSp; have g1 : Blk w1 g replyT replyZ := (hT1.block g (Blk.lt (hgW _)) (fun hm => by have := hS g hm; omega)).trans (hgW _); have lg1 := g1.lt; have lp1 := P1.blk.lt)
    | (refine wpList_store_blk rfl replyT (.tmp 5) (.tmp 39) rfl w1.heap.size replyT replyZ #[.int .i64 q1, .int .i64 0, .slice none 0 0, .slice none 0 0, .int .i64 0, .bool false, .int .i64 0, .int .i64 0, .int .i64 0, .int .i64 0, .int .i64 q2] rfl rfl (Blk.new w1 _ _) rfl (by kernel_rfl) (by simp [Value.oneCell']) ?_; intro w9 b9 g9; obtain ⟨x0, x1, x2, x3, x4, x5, x6, x7, x8, x9, x10, l9⟩ := blk11 b9; have p9 : Blk w9 p 89 _ := Blk.grown (P1.blk.alloc _) g9 (by simp; omega); have q13 : w9.cell? ⟨p, 13, none⟩ = some (.bool false) := (by rw [p9.cell 13]; simp [procCells, ht]); have gg9 : Blk w9 g replyT replyZ := Blk.grown (g1.alloc _) g9 (by simp; omega)))
  have P9 : ProcOf w9 p { J with steps := J.steps + 1, may := false } := P1.same fun k hk => (g9.block k (by have := P1.foot_lt k hk; simp; omega) (fun e => by cases e; exact absurd (P1.foot_lt _ hk) (Nat.lt_irrefl _))).trans (Below.heap_alloc w1 _ k (P1.foot_lt k hk))
  have hown9 : w9.ownsRow 0 168 11 (.slice A n cp) n (logC J.log) := by rw [← hlv, ← HN.out]; exact P9.log
  have T9 : Turns [w1.heap.size] w1 w9 := ((Turns.refl _ w1).alloc _).grown g9 (fun k e _ => by cases e; simp)
  have ls9 : w1.heap.size < w9.heap.size := l9
  obtain ⟨gb, hgb⟩ : ∃ gb, w1.heap.size = gb := ⟨_, rfl⟩
  have hT1' : Turns ([p] ++ S) w w1 := ((hTW nq).more (by simp)).trans (hT1.more (by intro k hk; simp [hk]))
  have HT1 := Lib.hid hT1'
  have HR1 := Lib.hid hR1
  have HT9 := Lib.hid T9
  have HG9 := Lib.hid gg9
  have HGB := Lib.hid hgb
  have HPR := Lib.hid P9
  rw [hgb] at b9 ⊢
  clear hdo hPW hTW hgW hT1 hR1 P1 g1 g9 x0 x1 x2 x3 x4 x5 x6 x7 x8 x9 x10 T9 gg9 q13 hT1' d8 d9 d10 d11 d13 e10 e13 hzb P9
  refine call_r10 w9 p gb n cp A q1 q2 J.log _ p9 (by simp only [procCells]; rw [hlv]; rfl) hown9 (by have := HN.out; omega) b9 ?_
  intro u48 u49 u50 u51 u52 u53 u54 u55 u56 u57 w11 lv pb11 hown11 hT11 hlvb
  dsimp only
  obtain ⟨i, hi⟩ : ∃ i, n = i := ⟨_, rfl⟩
  have P11 : ProcOf w11 p { J with steps := J.steps + 1, may := false, lv := lv, log := J.log ++ [(q1, q2)] } := by
    have hpl : (Value.slice A n cp).ownBlock ≠ some p := own_blk_ne hown9 p9 (by decide)
    refine ⟨?_, ownsRow_same HPR.out.args fun g hg => hT11.block g (HPR.out.args.lt g hg).2 ?_, ownsRow_same HPR.out.env fun g hg => hT11.block g (HPR.out.env.lt g hg).2 ?_, ?_⟩
    · rw [show procCells { J with steps := J.steps + 1, may := false, lv := lv, log := J.log ++ [(q1, q2)] } = (procCells { J with steps := J.steps + 1, may := false }).setIfInBounds 10 lv by simp [procCells]]
      exact pb11
    · simp only [List.mem_append, List.mem_cons, List.not_mem_nil, or_false, Option.mem_toList, not_or]
      exact ⟨fun e => own_blk_ne HPR.out.args p9 (by decide) (e ▸ hg), own_ne_own HPR.out.args hown9 (by decide) hg⟩
    · simp only [List.mem_append, List.mem_cons, List.not_mem_nil, or_false, Option.mem_toList, not_or]
      exact ⟨fun e => own_blk_ne HPR.out.env p9 (by decide) (e ▸ hg), own_ne_own HPR.out.env hown9 (by decide) hg⟩
    · show w11.ownsRow 0 _ 11 lv (J.log ++ [(q1, q2)]).length _
      rw [List.length_append, HN.out]
      exact hown11
  have hlast : (J.log ++ [(q1, q2)])[i]? = some (q1, q2) := by
    rw [List.getElem?_append_right (by have := HN.out; omega)]
    have : i - J.log.length = 0 := by have := HN.out; omega
    rw [this]
    rfl
  obtain ⟨r, cr, hlv2, hrow⟩ : ∃ r cp, lv = .slice (some ⟨r, 0, none⟩) (n + 1) cp ∧ replyAt w11 r (i * 11) q1 q2 := by
    rcases hown11.2 with ⟨_, h0⟩ | ⟨r, cp, cur, e, _, hgb, _, _, _, hcur⟩
    · omega
    · refine ⟨r, cp, e, replyAt.of fun j v hv => ?_⟩
      have hj : j < 11 := (List.getElem?_eq_some_iff.1 hv).1
      have h1 := (logC_at hlast j hj).trans hv
      rw [← hcur, List.getElem?_take] at h1
      split at h1
      · rw [Array.getElem?_toList] at h1
        exact (cell_of_row w11 r (i * 11 + j) cur 168 (0, 0) hgb).trans h1
      · cases h1
  have c8 : w11.cell? ⟨p, 10, none⟩ = some (.slice (some ⟨r, 0, none⟩) (n + 1) cr) := by rw [P11.blk.cell 10, ← hlv2]; rfl
  have c9 : w11.cell? ⟨p, 11, none⟩ = some (.int .i64 (i : Int)) := by rw [P11.blk.cell 11]; simp [procCells, HA.out, HN.out, hi]
  have HP11 := Lib.hid P11
  have HT11 := Lib.hid hT11
  have HI := Lib.hid hi
  have HLB := Lib.hid hlvb
  have HO9 := Lib.hid hown9
  have HO11 := Lib.hid hown11
  have HB9 := Lib.hid b9
  have HP9 := Lib.hid p9
  have hin : i < n + 1 := by omega
  have hw : wrap64 ((i : Int) + 1) = ((i + 1 : Nat) : Int) := by rw [w64 _ (by have := HN.out; omega)]; omega
  clear hi hlvb hown9 hown11 P11 hT11 pb11 hll hlv hlast b9 p9
  go_wp2_with fail
  refine call_r11 w11 p r i (n + 1) cr q1 q2 c8 c9 hrow hin ?_
  intro u58 u59 u60 u61 u62 u63 u64 u65 u66 u67 w2 g2 b2 hg2 gb2
  dsimp only
  have hJa : J.at_ = i := by rw [HA.out, HN.out, HI.out]
  have hgl : g < w9.heap.size := HG9.out.lt
  have glt : g < w2.heap.size := Nat.lt_of_lt_of_le (Nat.lt_of_lt_of_le hgl HT11.out.size) b2.size
  have hgp : g ≠ p := by have := HFL.out p (by simp [PS.foot]); omega
  have R2 : Blk w2 g 168 replyZ := Blk.on ((HT11.out.block g hgl (by
    simp only [List.mem_append, List.mem_cons, List.not_mem_nil, or_false, Option.mem_toList, not_or]
    refine ⟨hgp, fun e => ?_⟩
    have := HFL.out g (by rw [← HLV.out] at e; simp [PS.foot, e])
    omega)).trans HG9.out) b2
  have P2 := HP11.out.below b2
  have e9 : w2.cell? ⟨p, 11, none⟩ = some (.int .i64 (i : Int)) := (b2.cell (p := ⟨p, 11, none⟩) HP11.out.blk.lt).trans c9
  have f9 : w2.frozen? ⟨p, 11, none⟩ = false := P2.blk.frozen 11
  have lp2 := P2.blk.lt
  have hgs : w9.heap.size ≤ g2 := Nat.le_trans HT11.out.size hg2
  have hg2p : g2 ≠ p := by have := HP9.out.lt; omega
  have hg2g : g2 ≠ g := by omega
  obtain ⟨W, hW⟩ : ∃ W, w2.setCell ⟨p, 11, none⟩ (.int .i64 ((i : Int) + 1)) = W := ⟨_, rfl⟩
  have gW : Blk W g2 168 #[.int .i64 q1, .int .i64 0, .slice none 0 0, .slice none 0 0, .int .i64 0, .bool false, .int .i64 0, .int .i64 0, .int .i64 0, .int .i64 0, .int .i64 q2] := by rw [← hW]; exact gb2.far hg2p _
  have RW : Blk W g 168 replyZ := by rw [← hW]; exact R2.far hgp _
  have hT2 : Turns [p] w2 W := by rw [← hW]; exact (Turns.refl _ w2).setCell ⟨p, 11, none⟩ _ (fun _ => List.mem_singleton.2 rfl)
  have PW : ProcOf W p { J with steps := J.steps + 1, may := false, at_ := J.at_ + 1, lv := lv, log := J.log ++ [(q1, q2)] } := by
    refine P2.set1 hT2 ?_ ⟨rfl, rfl⟩ ⟨rfl, rfl⟩ ⟨rfl, rfl⟩
    rw [← hW, hJa]
    have b3 := P2.blk.set_ 11 (.int .i64 ((i : Int) + 1))
    rw [show procCells { J with steps := J.steps + 1, may := false, at_ := i + 1, lv := lv, log := J.log ++ [(q1, q2)] } = (procCells { J with steps := J.steps + 1, may := false, lv := lv, log := J.log ++ [(q1, q2)] }).setIfInBounds 11 (.int .i64 ((i : Int) + 1)) by simp [procCells]]
    exact b3
  have T12 : Turns ([p] ++ (Value.slice A n cp).ownBlock.toList) w9 W := (HT11.out.trans ((Turns.of_below b2).more (by simp))).trans (hT2.more (by simp))
  obtain ⟨V, hV⟩ : ∃ V, (W.setCell ⟨g2, 2, none⟩ (.slice none 0 0)).setCell ⟨g2, 3, none⟩ (.slice none 0 0) = V := ⟨_, rfl⟩
  have gV : Blk V g2 168 #[.int .i64 q1, .int .i64 0, .slice none 0 0, .slice none 0 0, .int .i64 0, .bool false, .int .i64 0, .int .i64 0, .int .i64 0, .int .i64 0, .int .i64 q2] := by rw [← hV]; exact (gW.set_ 2 (.slice none 0 0)).set_ 3 (.slice none 0 0)
  have RV : Blk V g 168 replyZ := by rw [← hV]; exact (RW.far (Ne.symm hg2g) _).far (Ne.symm hg2g) _
  have TV : Turns ([p] ++ (Value.slice A n cp).ownBlock.toList) w9 V := by rw [← hV]; exact (T12.setCell ⟨g2, 2, none⟩ _ (fun hlt => by simp at hlt; omega)).setCell ⟨g2, 3, none⟩ _ (fun hlt => by simp at hlt; omega)
  have hfoot : ∀ k ∈ ({ J with steps := J.steps + 1, may := false, at_ := J.at_ + 1, lv := lv, log := J.log ++ [(q1, q2)] } : PS).foot p, k ≠ g2 ∧ k ≠ g := by
    intro k hk
    have h1 := HP11.out.foot_lt k hk
    refine ⟨by omega, fun e => ?_⟩
    subst e
    simp only [PS.foot, List.mem_append, List.mem_cons, List.not_mem_nil, or_false, Option.mem_toList] at hk
    rcases hk with ((hk | hk) | hk) | hk
    · exact hgp hk
    · exact absurd (HFL.out k (by simp [PS.foot, hk])) (by omega)
    · exact absurd (HFL.out k (by simp [PS.foot, hk])) (by omega)
    · rcases HLB.out with e | ⟨g', e, hle⟩
      · rw [hk, ← HLV.out] at e
        exact absurd (HFL.out k (by simp [PS.foot, ← e])) (by omega)
      · rw [hk] at e
        cases e
        omega
  have PV : ProcOf V p { J with steps := J.steps + 1, may := false, at_ := J.at_ + 1, lv := lv, log := J.log ++ [(q1, q2)] } := by
    rw [← hV]
    exact PW.same fun k hk => by
      have hkg := (hfoot k hk).1
      rw [Below.heap_setCell _ _ _ _ hkg, Below.heap_setCell _ _ _ _ hkg]
  obtain ⟨x0, x1, x2, x3, x4, x5, x6, x7, x8, x9, x10, xl⟩ := blk11 gW
  have x2f := gW.frozen 2
  have x3f := gW.frozen 3
  have hone : (#[.int .i64 q1, .int .i64 0, .slice none 0 0, .slice none 0 0, .int .i64 0, .bool false, .int .i64 0, .int .i64 0, .int .i64 0, .int .i64 0, .int .i64 q2] : Array Value).all (·.oneCell') = true := by simp [Value.oneCell']
  have HTV := Lib.hid TV
  have HPV := Lib.hid PV
  have HFO := Lib.hid hfoot
  have HJA := Lib.hid hJa
  clear PW gW RW R2 gb2 P2 b2 T12 hT2 TV PV hfoot hJa c8 c9 hrow
  go_wp2_with (first
    | (go_at_call 35; refine (cloneU_nil _).mono ?_; rintro e w3 ⟨rfl, rfl⟩)
    | (go_at_call 31; refine (cloneS_nil _).mono ?_; rintro e w3 ⟨rfl, rfl⟩)
    | (refine wpList_load_row rfl replyT (.tmp 6) rfl g2 rfl replyT #[.int .i64 q1, .int .i64 0, .slice none 0 0, .slice none 0 0, .int .i64 0, .bool false, .int .i64 0, .int .i64 0, .int .i64 0, .int .i64 0, .int .i64 q2] (0, 0) _ gV Tryz.underlying168 rfl (by kernel_rfl) ?_)
    | (refine wpList_store_blk rfl replyT (.tmp 4) (.tmp 83) rfl g replyT replyZ #[.int .i64 q1, .int .i64 0, .slice none 0 0, .slice none 0 0, .int .i64 0, .bool false, .int .i64 0, .int .i64 0, .int .i64 0, .int .i64 0, .int .i64 q2] rfl rfl RV rfl (by kernel_rfl) hone ?_; intro w20 b20 g20))
  obtain ⟨z0, z1, z2, z3, z4, z5, z6, z7, z8, z9, z10, _⟩ := blk11 b20
  refine bodyPost_ret (v := .agg #[.int .i64 q1, .int .i64 0, .slice none 0 0, .slice none 0 0, .int .i64 0, .bool false, .int .i64 0, .int .i64 0, .int .i64 0, .int .i64 0, .int .i64 q2]) (by simp [results, Tryz.results78, go_sem, z0, z1, z2, z3, z4, z5, z6, z7, z8, z9, z10]) rfl ?_
  have hlvo : J.lv.ownBlock = (Value.slice A n cp).ownBlock := by rw [HLV.out]
  have hgb1 : w1.heap.size = gb := HGB.out
  refine ⟨rfl, w1, lv, HR1.out, HPV.out.same fun k hk => g20.block k (HPV.out.foot_lt k hk) (fun e => by cases e; exact (HFO.out _ hk).2 rfl), ?_, HT1.out, by omega, ?_⟩
  · rw [hlvo]
    refine (((HT9.out.more (S' := [gb, g, p] ++ (Value.slice A n cp).ownBlock.toList) (by intro k hk; rw [List.mem_singleton] at hk; simp [hk, hgb1])).trans (HTV.out.more (by intro k hk; simp only [List.mem_append, List.mem_cons, List.not_mem_nil, or_false] at hk ⊢; rcases hk with rfl | hk; simp; exact .inr hk))).grown g20 (fun k e _ => by cases e; simp)).then (Turns.refl [] _) (by simp) |> fun h => ?_
    exact ⟨h.os, h.tape, h.output, h.size, fun k hk hn => h.block k hk (by
      intro hm
      rcases List.mem_append.1 hm with hm | hm
      · simp only [List.mem_cons, List.not_mem_nil, or_false] at hm
        rcases hm with rfl | rfl | rfl
        · omega
        · exact hn (by rw [hg]; simp)
        · exact hn (by simp)
      · exact hn (List.mem_cons_of_mem _ (List.mem_cons_of_mem _ hm)))⟩
  · rcases HLB.out with e | ⟨g', e, hle⟩
    · exact .inl (by rw [hlvo]; exact e)
    · exact .inr ⟨g', e, by omega⟩

end Go.Proofs.YtlncmknikjloeaaGreatDoor
end

section
namespace Go.Proofs.YtlncmknikjloeaaGreatDoor
open Go.RowKit Go.Maps

set_option maxRecDepth 100000 in
set_option maxHeartbeats 2000000 in
theorem procWrite_replay (w : World) (p : Nat) (J : PS) (h : ProcOf w p J) (n er : Int) (hq : J.log[J.at_]? = some (n, er)) (hlog : J.log.length ≤ 1000000) (fd bv : Value) (hfd : fd.oneCell' = true) (hbv : bv.oneCell' = true) :
    Calls Tryz.prog 68 #[.pointer (some ⟨p, 0, none⟩), fd, bv] w fun e w' => e = .returned (.tuple #[.int .i64 n, .int .i64 er]) ∧ ProcOf w' p { J with at_ := J.at_ + 1 } ∧ Turns [p] w w' := by
  have hmf : ∀ (fn : Fn) (first cap : Array Value) (w : World), (Instr.makeFunc fn first cap).run Tryz.prog w = .ok (.func fn first cap) w := fun _ _ _ _ => rfl
  go_enter Tryz.func68, Tryz.ntmps68
  go_wp2_with fail
  obtain ⟨hh, hhh⟩ : ∃ hh, w.heap.size = hh := ⟨_, rfl⟩
  obtain ⟨W3, hW3⟩ : ∃ W3, ((w.alloc (.cells #[.pointer (some ⟨p, 0, none⟩)] 29)).alloc (.cells #[fd] 3)).alloc (.cells #[bv] 39) = W3 := ⟨_, rfl⟩
  have lp : p < hh := by rw [← hhh]; exact h.blk.lt
  have k0 : Blk W3 hh 29 #[.pointer (some ⟨p, 0, none⟩)] := by rw [← hW3, ← hhh]; exact ((Blk.new w _ _).alloc _).alloc _
  have T3 : Turns [] w W3 := by rw [← hW3]; exact (((Turns.refl _ w).alloc _).alloc _).alloc _
  have P3 : ProcOf W3 p J := h.turns T3 (by simp)
  have s3 : hh < W3.heap.size := k0.lt
  rw [hW3, hhh]
  have hcall := fun f => call_replay W3 p J P3 (n, er) hq hlog f
  rw [replyC_arr] at hcall
  simp only at hcall
  go_wp2_with (first
    | (refine (hcall _).mono ?_; rintro e w5 ⟨rfl, P5, hT5⟩; have q14 : w5.cell? ⟨p, 14, none⟩ = some (.bool false) := P5.blk.cell 14; have j0 : w5.cell? ⟨hh, 0, none⟩ = some (.pointer (some ⟨p, 0, none⟩)) := Blk.cell ((hT5.block _ s3 (by rw [List.mem_singleton]; omega)).trans k0) 0; have j1 : hh < w5.heap.size := (by have := hT5.size; omega); have j2 : p < w5.heap.size := P5.blk.lt)
    | fail)
  have z0 : (w5.alloc (.cells #[.int .i64 n, .int .i64 0, .slice none 0 0, .slice none 0 0, .int .i64 0, .bool false, .int .i64 0, .int .i64 0, .int .i64 0, .int .i64 0, .int .i64 er] replyT)).cell? ⟨w5.heap.size, 0, none⟩ = some (.int .i64 n) := Blk.cell (Blk.new w5 _ _) 0
  have z10 : (w5.alloc (.cells #[.int .i64 n, .int .i64 0, .slice none 0 0, .slice none 0 0, .int .i64 0, .bool false, .int .i64 0, .int .i64 0, .int .i64 0, .int .i64 0, .int .i64 er] replyT)).cell? ⟨w5.heap.size, 10, none⟩ = some (.int .i64 er) := Blk.cell (Blk.new w5 _ _) 10
  go_quiet (fail)
  go_wp2_with fail
  go_returns
  refine ⟨rfl, (P5.below ((Below.refl _ w5).alloc (Nat.le_refl _) _)).same fun _ _ => rfl, ?_⟩
  exact (((T3.more (by simp)).trans hT5).alloc _).trans ⟨rfl, rfl, rfl, Nat.le_refl _, fun _ _ _ => rfl⟩

set_option maxRecDepth 100000 in
set_option maxHeartbeats 2000000 in
theorem procWrite_do (w : World) (p : Nat) (J : PS) (h : ProcOf w p J) (hm : J.may = true) (ht : J.top = false) (ha : J.at_ = J.log.length) (hll : J.log.length ≤ 1000000) (hst : J.steps < 4611686018427387904)
    (fd bv : Value) (hfd : fd.oneCell' = true) (hbv : bv.oneCell' = true) (n er : Int) (hne : (er == 10) = false) (S : List Nat) (hS : ∀ g ∈ S, g < w.heap.size) (hSp : ∀ g ∈ J.foot p, g ∉ S) (R : World → World → Prop)
    (hw : ∀ W, ProcOf W p { J with steps := J.steps + 1, may := false } → Turns [p] w W → Calls Tryz.prog 82 #[.pointer (some ⟨J.tb, 0, none⟩), fd, bv] W fun e w4 => e = .returned (.tuple #[.int .i64 n, .int .i64 er]) ∧ Turns S W w4 ∧ R W w4) :
    Calls Tryz.prog 68 #[.pointer (some ⟨p, 0, none⟩), fd, bv] w fun e w' => e = .returned (.tuple #[.int .i64 n, .int .i64 er]) ∧ ∃ lv, ProcOf w' p { J with steps := J.steps + 1, may := false, at_ := J.at_ + 1, lv := lv, log := J.log ++ [(n, er)] } ∧
      (∃ W w4 N, R W w4 ∧ (∀ g ∈ N, w.heap.size ≤ g ∧ g < W.heap.size) ∧ Turns (N ++ [p] ++ J.lv.ownBlock.toList) w4 w' ∧ Turns ([p] ++ S) w w4) ∧ (lv.ownBlock = J.lv.ownBlock ∨ ∃ g, lv.ownBlock = some g ∧ w.heap.size ≤ g) := by
  have hmf : ∀ (fn : Fn) (first cap : Array Value) (w : World), (Instr.makeFunc fn first cap).run Tryz.prog w = .ok (.func fn first cap) w := fun _ _ _ _ => rfl
  go_enter Tryz.func68, Tryz.ntmps68
  go_wp2_with fail
  obtain ⟨hh, hhh⟩ : ∃ hh, w.heap.size = hh := ⟨_, rfl⟩
  obtain ⟨W3, hW3⟩ : ∃ W3, ((w.alloc (.cells #[.pointer (some ⟨p, 0, none⟩)] 29)).alloc (.cells #[fd] 3)).alloc (.cells #[bv] 39) = W3 := ⟨_, rfl⟩
  have lp : p < hh := by rw [← hhh]; exact h.blk.lt
  have hfl : ∀ g ∈ J.foot p, g < hh := by rw [← hhh]; exact h.foot_lt
  have k0 : Blk W3 hh 29 #[.pointer (some ⟨p, 0, none⟩)] := by rw [← hW3, ← hhh]; exact ((Blk.new w _ _).alloc _).alloc _
  have k1 : Blk W3 (hh + 1) 3 #[fd] := by
    have := (Blk.new (w.alloc (.cells #[.pointer (some ⟨p, 0, none⟩)] 29)) 3 #[fd]).alloc (.cells #[bv] 39)
    rwa [hW3, show (w.alloc (.cells #[.pointer (some ⟨p, 0, none⟩)] 29)).heap.size = hh + 1 by simp [hhh]] at this
  have k2 : Blk W3 (hh + 1 + 1) 39 #[bv] := by
    have := Blk.new ((w.alloc (.cells #[.pointer (some ⟨p, 0, none⟩)] 29)).alloc (.cells #[fd] 3)) 39 #[bv]
    rwa [hW3, show ((w.alloc (.cells #[.pointer (some ⟨p, 0, none⟩)] 29)).alloc (.cells #[fd] 3)).heap.size = hh + 1 + 1 by simp [hhh]] at this
  have T3 : Turns [] w W3 := by rw [← hW3]; exact (((Turns.refl _ w).alloc _).alloc _).alloc _
  have P3 : ProcOf W3 p J := h.turns T3 (by simp)
  have s3 : hh + 1 + 1 < W3.heap.size := k2.lt
  rw [hW3, hhh]
  rw [hhh] at hS
  have hcall := call_do W3 p J P3 hm ht ha hll hst 81 #[.pointer (some ⟨hh, 0, none⟩), .pointer (some ⟨hh + 1, 0, none⟩), .pointer (some ⟨hh + 1 + 1, 0, none⟩)] (fun _ => rfl)
    n er hne S (fun g hg => by have := hS g hg; omega) hSp
    (fun w1 => ∃ W0 W w4, R W w4 ∧ W0.heap.size < W.heap.size ∧ W3.heap.size ≤ W0.heap.size ∧ Turns [W0.heap.size] w4 w1 ∧ Turns S W0 w4 ∧ Turns [p] W3 W0)
    (fun W0 hP0 hT0 => by
      have b0 := (hT0.block _ k0.lt (by rw [List.mem_singleton]; omega)).trans k0
      have b1 := (hT0.block _ k1.lt (by rw [List.mem_singleton]; omega)).trans k1
      have b2 := (hT0.block _ k2.lt (by rw [List.mem_singleton]; omega)).trans k2
      have hs0 := hT0.size
      refine (write1_any W0 hh (hh + 1) (hh + 1 + 1) p J.tb fd bv _ b0 b1 b2 hP0.blk rfl n er S (fun g hg => by have := hS g hg; omega) (fun w4 => ∃ W, R W w4 ∧ W0.heap.size < W.heap.size)
        (fun W hT hlt => (hw W (hP0.turns hT (by simp)) (((T3.more (by simp)).trans hT0).trans (hT.more (by simp)))).mono fun e w4 ⟨h1, h2, h3⟩ => ⟨h1, h2, W, h3, hlt⟩)).mono ?_
      rintro e w1 ⟨rfl, w4, ⟨W, hR, hlt⟩, rfl, hT4⟩
      have hTc : Turns [W0.heap.size] w4 ((w4.setCell ⟨W0.heap.size, 0, none⟩ (.int .i64 n)).setCell ⟨W0.heap.size, 10, none⟩ (.int .i64 er)) := ((Turns.refl _ w4).setCell ⟨W0.heap.size, 0, none⟩ _ (fun _ => List.mem_singleton.2 rfl)).setCell ⟨W0.heap.size, 10, none⟩ _ (fun _ => List.mem_singleton.2 rfl)
      have hT1 : Turns S W0 ((w4.setCell ⟨W0.heap.size, 0, none⟩ (.int .i64 n)).setCell ⟨W0.heap.size, 10, none⟩ (.int .i64 er)) := (hT4.setCell ⟨W0.heap.size, 0, none⟩ _ (fun hlt => absurd hlt (Nat.lt_irrefl _))).setCell ⟨W0.heap.size, 10, none⟩ _ (fun hlt => absurd hlt (Nat.lt_irrefl _))
      exact ⟨rfl, hT1, W0, W, w4, hR, hlt, hs0, hTc, hT4, hT0⟩)
  rw [replyC_arr] at hcall
  simp only at hcall
  have HFL := Lib.hid hfl
  clear hw hfl
  go_wp2_with (first
    | (refine hcall.mono ?_; rintro e w5 ⟨rfl, w1, lv, ⟨W0, W, w4, hR, hlt, hs0, hTc, hT4, hT0⟩, P5, hT5, hT15, hl1, hlvb⟩; have m3 := T3.size; have q14 : w5.cell? ⟨p, 14, none⟩ = some (.bool false) := P5.blk.cell 14
       have j0 : w5.cell? ⟨hh, 0, none⟩ = some (.pointer (some ⟨p, 0, none⟩)) := Blk.cell ((hT5.block _ (by omega) (by
         intro hm; rcases List.mem_append.1 hm with hm | hm
         · simp only [List.mem_cons, List.not_mem_nil, or_false] at hm; omega
         · exact absurd (HFL.out hh (by simp only [PS.foot, List.mem_append]; exact .inr hm)) (Nat.lt_irrefl _))).trans ((hT15.block _ (by omega) (by intro hm; rcases List.mem_append.1 hm with hm | hm; (rw [List.mem_singleton] at hm; omega); (have := hS _ hm; omega))).trans k0)) 0
       have j1 : hh < w5.heap.size := (by have := hT5.size; omega); have j2 : p < w5.heap.size := P5.blk.lt)
    | fail)
  have z0 : (w5.alloc (.cells #[.int .i64 n, .int .i64 0, .slice none 0 0, .slice none 0 0, .int .i64 0, .bool false, .int .i64 0, .int .i64 0, .int .i64 0, .int .i64 0, .int .i64 er] replyT)).cell? ⟨w5.heap.size, 0, none⟩ = some (.int .i64 n) := Blk.cell (Blk.new w5 _ _) 0
  have z10 : (w5.alloc (.cells #[.int .i64 n, .int .i64 0, .slice none 0 0, .slice none 0 0, .int .i64 0, .bool false, .int .i64 0, .int .i64 0, .int .i64 0, .int .i64 0, .int .i64 er] replyT)).cell? ⟨w5.heap.size, 10, none⟩ = some (.int .i64 er) := Blk.cell (Blk.new w5 _ _) 10
  go_quiet (fail)
  go_wp2_with fail
  go_returns
  refine ⟨rfl, lv, (P5.below ((Below.refl _ w5).alloc (Nat.le_refl _) _)).same fun _ _ => rfl, ⟨W, w4, [W0.heap.size, W3.heap.size], hR, ?_, ?_, ?_⟩, ?_⟩
  · intro g hg
    simp only [List.mem_cons, List.not_mem_nil, or_false] at hg
    rcases hg with rfl | rfl <;> omega
  · refine ((((hTc.more (by simp)).trans (hT5.more ?_)).alloc _).trans ⟨rfl, rfl, rfl, Nat.le_refl _, fun _ _ _ => rfl⟩)
    intro k hk
    simp only [List.mem_append, List.mem_cons, List.not_mem_nil, or_false] at hk ⊢
    rcases hk with (rfl | rfl) | hk <;> simp [*]
  · exact ((T3.more (by simp)).trans (hT0.more (by simp))).trans (hT4.more (by intro g hg; simp [hg]))
  · rcases hlvb with e | ⟨g, e, hle⟩
    · exact .inl e
    · exact .inr ⟨g, e, by omega⟩

end Go.Proofs.YtlncmknikjloeaaGreatDoor
end
