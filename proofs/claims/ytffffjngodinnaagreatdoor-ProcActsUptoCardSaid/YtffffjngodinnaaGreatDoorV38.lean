/-
  Parts of the proof.
-/
import Derived.Test.YtffffjngodinnaaGreatDoorV34
import Derived.Test.YtffffjngodinnaaGreatDoorV37
namespace Go.Proofs.YtffffjngodinnaaGreatDoor
section
set_option maxRecDepth 100000
open Go.RowKit Go.Maps Go.Shelf
attribute [local go_sem] Oper.semAt_some
attribute [local go_sem ↓ high] appendHere_eq
theorem Tryz.infoTold : (Tryz.prog.info? 172).map (fun i => (i.zero, i.size, i.bytes)) = some (some (.agg #[.string ⟨#[]⟩, .pointer none]), 2, 24) := by kernel_rfl
theorem told_round (b B0 : Nat) (W : World) (v : Value) (xs : List Value) (k : Nat) (x y : Value) (hx : x.oneCell' = true) (hy : y.oneCell' = true) (hxs : xs.length = k * 2) (hbB : b < B0) (hB0 : B0 <= W.heap.size) (hv : Boxed W b 163 v) (hown : W.ownsRow B0 172 2 v k xs) (hn : k <= 1048576) :
 ∃ v' w2, (∃ A n c, v' = .slice A n c) /\ (appendHere #[163, 163] 163 #[false, false] #[v, .slice (some ⟨W.heap.size, 0, none⟩) 1 1]).run Tryz.prog (W.alloc (.cells #[x, y] 172)) = .ok (.value v') w2 /\
  w2.cell? ⟨b, 0, none⟩ = some v /\ w2.frozen? ⟨b, 0, none⟩ = false /\ b < w2.heap.size /\
  Boxed (w2.setCell ⟨b, 0, none⟩ v') b 163 v' /\ (w2.setCell ⟨b, 0, none⟩ v').ownsRow B0 172 2 v' (k + 1) (xs ++ [x, y]) /\ (∀ B, Stay 163 172 B W (w2.setCell ⟨b, 0, none⟩ v')) /\
  ∀ n₀ w₀, n₀ <= b -> n₀ <= B0 -> Below n₀ w₀ W -> Below n₀ w₀ (w2.setCell ⟨b, 0, none⟩ v') := by
 obtain ⟨iR, hiR, hR0, hR1, hR2⟩ := info_parts Tryz.infoTold
 have hva := hv.alloc (.cells #[x, y] 172)
 obtain ⟨v', w2, hrun, hown2, hg, hat⟩ := run_append_any (P := Tryz.prog) (W.alloc (.cells #[x, y] 172)) B0 163 163 172 iR (.agg #[.string ⟨#[]⟩, .pointer none]) 2 24 Tryz.underlying163 hiR hR0 hR1 hR2 rfl (by decide)
  v k xs (hown.alloc _) (W.heap.size + 1) (some ⟨W.heap.size, 0, none⟩) 1 1 [x, y] (blk_reads (Blk.new W _ _) rfl) (by intro u hu; simp only [List.mem_cons, List.not_mem_nil, or_false] at hu; rcases hu with rfl | rfl; exact hx; exact hy) (by simp only [maxLen]; omega) (by omega) (by simp; omega)
 have hne : v.ownBlock ≠ some b := fun e => by have := (hown.lt b e).1; omega
 have hv2 : Boxed w2 b 163 v := hva.kept hg (fun e => hne e.symm)
 have hne2 : v'.ownBlock ≠ some b := fun e => by have := (hown2.lt b e).1; omega
 refine ⟨v', w2, (by obtain ⟨A, c, e, _⟩ := own_slice hown2; exact ⟨A, _, c, e⟩), run_appendHere hrun, hv2.cell, hv2.frozen, hv2.lt, hv2.set v', ownsRow_setCell_other hown2 hne2 _, fun B => ?_, fun n₀ w₀ h1 h2 hb => ?_⟩
 · refine Stay.trans (Stay.of_below (below_one W _) (Nat.le_refl _)) (Stay.trans (Stay.grown hg fun r hr o ho hL => ?_) (Stay.grown (grown_setCell w2 ⟨b, 0, none⟩ v') fun r hr o ho hL => ?_))
   · rcases (hown.alloc (.cells #[x, y] 172)).2 with ⟨rfl, _⟩ | ⟨g, cap, cur, rfl, _, hgb, _⟩
     · simp [Value.ownBlock] at hr
     · obtain rfl : g = r := by simpa [Value.ownBlock] using hr
       rw [hgb] at ho; cases ho
       exact hL.2 rfl
   · cases hr
     rw [show w2.heap[b]? = _ from hv2] at ho
     cases ho
     exact hL.1 rfl
 · exact ((hb.alloc (by omega) _).grown hg (by simp; omega) (fun k hk => by have := (hown.lt k hk).1; omega)).setCell (p := ⟨b, 0, none⟩) h1 v'
set_option maxHeartbeats 4000000 in
theorem dump_any (w : World) (t : Nat) (S : TS) (T : Abs.T) (β : Nat -> Nat) (h : TreeIs w t S T β) (hnn : ∀ b y, S.items b = some y -> y.nn <= 1048576) (Bd : Nat) (hBd : Bd <= 1073741824) (hf : T.Fine Bd) (hmany : T.many <= 1048576) :
 CallsIn Fence.wide 8 Tryz.prog 34 #[.pointer (some ⟨t, 0, none⟩)] w fun e w' => ∃ v Ns, e = .returned v /\ NodesOwn w' w.heap.size v Ns /\ Ns.map NodeIt.nd = T.dump /\ Below w.heap.size w w' := by
 have hmm := @run_makeMap Tryz.prog
 have hfW : Fence.wide.fn 65 := trivial
 have hfS : Fence.wide.fn 66 := trivial
 obtain ⟨dp, hd1, hdp⟩ := h.wf.rank
 obtain ⟨x, hx, hxd, _⟩ := h.wf.root
 have hroot : w.cell? ⟨t, 0, none⟩ = some (.pointer (some ⟨β 1, 0, none⟩)) := by rw [h.mem.blk.cell 0, <- h.rep.root]; rfl
 obtain ⟨xs, hxs⟩ : ∃ xs, T.walkN 12 1 [] = xs := ⟨_, rfl⟩
 have hxl : xs.length <= 1048576 := by
  rw [<- hxs, T.walkN_len]
  exact Nat.le_trans (h.wf.wide_le hf) hmany
 have hdet : ∀ a ∈ xs, ∀ b ∈ xs, a.1 = b.1 -> a = b := by rw [<- hxs]; exact fun a ha b hb => h.wf.walk_det hf ha hb
 have hlive : ∀ a ∈ xs, ∃ x, T.get a.2 = some x := by rw [<- hxs]; exact fun a ha => h.wf.walk_live ha
 refine callsIn_of_wp_marks Tryz.func34 rfl trivial ?_ rfl
 simp only [Tryz.ntmps34, List.size_toArray, List.length_cons, List.length_nil, Nat.reduceAdd, Nat.reduceSub, Array.replicate_succ, Array.replicate_zero, List.push_toArray, List.append_toArray, List.nil_append, List.cons_append]
 obtain ⟨Z, hZ⟩ : ∃ Z, w.alloc (.cells #[.slice none 0 0] 163) = Z := ⟨_, rfl⟩
 have hbZ : Below w.heap.size w Z := by rw [<- hZ]; exact below_one _ _
 have zl : Blk Z w.heap.size 163 #[.slice none 0 0] := by rw [<- hZ]; exact Blk.new w _ _
 have z0 : Z.cell? ⟨t, 0, none⟩ = some (.pointer (some ⟨β 1, 0, none⟩)) := (hbZ.cell (p := ⟨t, 0, none⟩) (World.block_lt_of_cell? w _ hroot)).trans hroot
 gi_wp2_with (gi_at_call 65; refine (callsIn_wide.2 (walk_any Z (β 1) ⟨#[]⟩)).mono ?_; rintro e W0 ⟨rfl, hw1⟩)
 have hb1 : Below w.heap.size w W0 := by rw [hw1]; exact below_box (below_box hbZ (Nat.le_refl _) _) (Nat.le_refl _) _
 have wl : Blk W0 w.heap.size 163 #[.slice none 0 0] := by rw [hw1]; exact (zl.alloc _).alloc _
 have k0 : Blk W0 Z.heap.size 166 #[.pointer (some ⟨β 1, 0, none⟩)] := by rw [hw1]; exact (Blk.new Z _ _).alloc _
 have k1 : Blk W0 (Z.heap.size + 1) 9 #[.string ⟨([] : List UInt8).toArray⟩] := by
  rw [hw1]
  have := Blk.new (Z.alloc (.cells #[.pointer (some ⟨β 1, 0, none⟩)] 166)) 9 #[.string ⟨#[]⟩]
  rwa [World.size_alloc] at this
 have hT1 := h.below hb1
 have hseq := walk_deep t S T β hnn Bd hf dp hdp hd1 12 1 x [] W0 Z.heap.size (Z.heap.size + 1) hT1 hx (fun _ => by omega) (by omega) (by simp) k0 k1 (8 - 1)
 rw [hxs] at hseq
 have hlw : w.heap.size < W0.heap.size := wl.lt
 rw [<- hw1]
 clear hw1 hZ
 refine wpIn_rangeFunc_deep (tb := 163) (tr := 172) rfl rfl (gf := 101) (lb := #[.pointer (some ⟨Z.heap.size, 0, none⟩), .pointer (some ⟨Z.heap.size + 1, 0, none⟩)]) rfl trivial (enters_of Tryz.func101 (by kernel_rfl) rfl)
  hseq (Below.refl _ _) (fun _ => rfl)
  (fun pre W => (∃ v, Boxed W w.heap.size 163 v /\ W.ownsRow W0.heap.size 172 2 v pre.length (pre.flatMap (toldC β))) /\ Below w.heap.size w W /\ W0.heap.size <= W.heap.size) ?own ⟨⟨_, wl, World.ownsRow_nil _ _ _ _⟩, hb1, Nat.le_refl _⟩
  (fun z => ⟨#[.pointer (some ⟨t, 0, none⟩), undef, .slice none 0 0, .pointer (some ⟨w.heap.size, 0, none⟩), .string ⟨z.1.toArray⟩, .pointer (some ⟨β z.2, 0, none⟩), undef, undef, undef, undef, undef, undef, .pointer (some ⟨t, 0, none⟩), .pointer (some ⟨t, 0, none⟩), .pointer (some ⟨t, 0, none⟩), .pointer (some ⟨β 1, 0, none⟩), .func (.func 101) #[] #[.pointer (some ⟨Z.heap.size, 0, none⟩), .pointer (some ⟨Z.heap.size + 1, 0, none⟩)], .string ⟨z.1.toArray⟩, .pointer (some ⟨β z.2, 0, none⟩), undef, undef, undef, undef, undef, undef, undef, undef, undef, undef, undef, undef, undef, undef, undef, undef, undef, undef, undef, undef, undef, undef, undef, undef, undef, undef, undef, undef, undef, undef, undef, undef, undef, undef, undef, undef, undef, undef, undef, undef, undef, undef, undef, undef, undef, undef, undef, undef, undef, undef, undef, undef, undef, undef, undef, undef, undef, undef, undef, undef, undef], []⟩) ?assign ?body ?done
 case own =>
  rintro s X Y row ⟨⟨v, h1, h2⟩, h3, h4⟩ hg hr
  exact ⟨⟨v, boxed_row h1 hg fun r e => (hr r e).2, own_byR h2 hg fun r e => (hr r e).2⟩, h3.grown hg h3.size fun r e => Nat.le_trans (Nat.le_of_lt hlw) (hr r e).1, Nat.le_trans h4 hg.size⟩
 case assign =>
  intro l2 z Wc K hK
  simp only [encW]
  gi_wp2
  exact hK
 case body =>
  rintro l2 pre z Wc _ hpre ⟨⟨v, bv, hv⟩, hBw, hsw⟩
  have hlen : pre.length < 1048576 := by
   have h1 := hpre.length_le
   rw [List.length_append, List.length_singleton] at h1
   omega
  have hxsl : (pre.flatMap (toldC β)).length = pre.length * 2 := flatMap_len (enc := toldC β) (k := 2) (fun _ => rfl) pre
  obtain ⟨VA, vc, rfl, _, _, _⟩ := own_slice hv
  obtain ⟨v', w2, ⟨A, nn, c, rfl⟩, hrun, c2, f2, l2', bF, oF, kF, hbF⟩ := told_round w.heap.size W0.heap.size Wc _ (pre.flatMap (toldC β)) pre.length (.string ⟨z.1.toArray⟩) (.pointer (some ⟨β z.2, 0, none⟩)) rfl rfl hxsl hlw hsw bv hv (by omega)
  have cv := bv.cell
  have lv := bv.lt
  gi_wp2
  have hfl : (pre ++ [z]).flatMap (toldC β) = pre.flatMap (toldC β) ++ [.string ⟨z.1.toArray⟩, .pointer (some ⟨β z.2, 0, none⟩)] := by simp [toldC]
  exact ⟨kF _, ⟨_, bF, by rw [hfl, List.length_append, List.length_singleton]; exact oF⟩, hbF _ _ (Nat.le_refl _) (Nat.le_of_lt hlw) hBw, Nat.le_trans hsw (kF 0).size⟩
 case done =>
  rintro D W hD ⟨⟨v, bv, hv⟩, hBw, hsw⟩ hK
  have cv := bv.cell
  have lv := bv.lt
  have hso := sort_told W β xs hdet W0.heap.size v hv hxl
  obtain ⟨n, hn⟩ : ∃ n, xs.length = n := ⟨_, rfl⟩
  have hwW : w.heap.size <= W.heap.size := hBw.size
  have hvb : v.ownBlock ≠ some w.heap.size := fun e => by have := (hv.lt _ e).1; omega
  obtain ⟨RA, rc, rfl, _, _, _⟩ := own_slice hv
  rw [hn] at hso cv hvb bv
  have BV := Lib.hid bv
  gi_wp2_with (gi_at_call 66; refine (callsIn_wide.2 hso).mono ?_; rintro e W5 ⟨rfl, hrow5, hg5⟩; have b5 := BV.out.kept hg5 (fun e => hvb e.symm); have c5 := b5.cell; have l5 := b5.lt)
  have hlen : (sortT xs).length = n := by rw [sortT_len, hn]
  have hnl : n <= 1048576 := by rw [<- hn]; exact hxl
  have hB5 : Below w.heap.size w W5 := hBw.grown hg5 hwW (fun k e => by have := (hv.lt k (by rw [hn]; exact e)).1; omega)
  have hs5 := hB5.size
  have hD5 : W5.heap[D]? = some (.deferred (some [])) := by
   refine (hg5.block D (Array.getElem?_eq_some_iff.1 hK).1 fun e => ?_).trans hK
   obtain ⟨_, _, hbk⟩ := own_blk hv D (by rw [hn]; exact e.symm)
   rw [show W.heap[D]? = _ from hbk] at hK
   cases hK
  have hDlt : D < W5.heap.size := (Array.getElem?_eq_some_iff.1 hD5).1
  have hD6 : (W5.alloc (.map #[] 0)).heap[D]? = some (.deferred (some [])) := (Below.heap_alloc W5 _ D hDlt).trans hD5
  have h0 : DumpSt w (W5.alloc (.map #[] 0)) w.heap.size W5.heap.size T β (.slice RA n rc) (sortT xs) 0 (.slice none 0 0) [] [] (W5.alloc (.map #[] 0)) := by
   refine ⟨hB5.alloc hs5 _, fun _ _ hk _ _ => hk, ?_, ⟨#[], 0, World.alloc_heap_new W5 _, rfl⟩, NodesOwn.nil _ _, rfl, Abs.NumsOk.nil T, rfl⟩
   rw [hlen]
   exact (Joins.ownsRow_le hrow5 (Nat.le_of_lt hlw)).alloc _
  refine wpIn_wide.2 ?_
  refine dump_loop w (W5.alloc (.map #[] 0)) w.heap.size W5.heap.size t S T β h rfl hs5 Bd hBd hf (sortT xs) n hlen hnl (fun a ha => hlive a (mem_sortT.1 ha)) RA rc h0 ?_
  intro x8 x9 x10 x11 x31 x32 x33 x34 x35 x36 x37 x38 x39 x40 x41 x42 x43 x44 x45 x46 x47 x48 x49 x50 x51 x52 x53 x54 x55 x56 x57 x58 x59 x60 x61 x62 x63 x64 x65 x66 x67 x68 x69 x70 x71 x72 x73 x74 x75 x76 x77 x78 ov Ns w1 hb1 hke1 hown1 hnd1
  dsimp only
  have hK1 : w1.heap[D]? = some (.deferred (some [])) := hke1 D _ hD6 rfl (by omega)
  have hDw : w.heap.size <= D := Nat.le_trans (Nat.le_of_lt hlw) hD
  have hdu : Ns.map NodeIt.nd = T.dump := by rw [hnd1]; unfold Abs.T.dump; rw [hxs]
  have HO := Lib.hid hown1
  have HD := Lib.hid hdu
  have HB1 := Lib.hid hb1
  clear hown1 hnd1 hdu hb1 hke1 h0 hso
  gi_wp2
  refine ⟨by simp, .inl ⟨_, _, rfl, run_takeDeferred hK1, ?_⟩⟩
  have hpo : ∀ {e : TypeId} {sz nn : Nat} {v : Value} {ys : List Value}, w1.ownsRow w.heap.size e sz v nn ys -> (w1.putObj D (.deferred none)).ownsRow w.heap.size e sz v nn ys := fun ho => own_grown ho (grownBy_putObj' w1 D _) (fun r hr e => by
   cases hr
   obtain ⟨_, _, hbk⟩ := own_blk ho D e
   rw [show w1.heap[D]? = _ from hbk] at hK1
   cases hK1)
  refine ⟨ov, ?_, ov, Ns, rfl, ⟨hpo HO.out.row, fun n hn => hpo (HO.out.data n hn)⟩, HD.out, HB1.out.trans (belowK_b (w := w) (Nat.le_refl _) _ D _ _ hDw hK1 rfl rfl)⟩
  simp [results, Tryz.f34]
end
end Go.Proofs.YtffffjngodinnaaGreatDoor
