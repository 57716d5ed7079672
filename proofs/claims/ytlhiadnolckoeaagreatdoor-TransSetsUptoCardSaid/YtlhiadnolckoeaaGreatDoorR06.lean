/-
  Parts that the claims share: A walk over goOn of a machine of a job that runs to its end at once; A walk over proc.New; A walk over Said of a sink; What stands in memory while proc.Run lays a job down.
-/
import Derived.Test.YtlhiadnolckoeaaGreatDoorR05
import Derived.Test.YtlhiadnolckoeaaGreatDoorR03
import Derived.Deep.RegionWith
import Derived.Deep.RegionHeld3
import Derived.Test.YtlhiadnolckoeaaGreatDoorR01

section
namespace Go.Proofs.YtlhiadnolckoeaaGreatDoor
open Go.RowKit Go.Maps

/-- a job whose process has ended -/
structure JobEnd (w : World) (X : Job) (F : Flow) : Prop where
  proc : ProcOf w X.p (X.J F).over
  kern : KernOf w X.B.k X.K
  sink : ∀ b, SinkAt w (X.sink b) (F.val b)
  row : ∀ b, OffRow w 0 5 (F.val b) (F.said b).length (bytesC (F.said b))
  free : X.K.used = X.K.fl.length
  thing : ∀ b, X.K.tf (numK (if b then 2 else 3)) = some (sinkV (X.sink b))
theorem Job.plain (X : Job) : Plain X.D := by
  intro i hi
  by_cases h0 : i = 0
  · subst h0; exact .inr (.inl ⟨_, rfl⟩)
  by_cases h1 : i = 1
  · subst h1; exact .inr (.inr ⟨_, rfl⟩)
  by_cases h2 : i = 2
  · subst h2; exact .inr (.inr ⟨_, rfl⟩)
  exact .inl (by simp [Job.D, h0, h1, h2])

set_option maxRecDepth 100000 in
set_option maxHeartbeats 2000000 in
theorem goOn_top (w : World) (m : Nat) (X : Job) (F : Flow) (id : FuncId) (caps : Array Value) (R : Int → Flow → Prop) (st : Int) (hm : MachAt w m X.p (.func (.func id) #[] caps) false st) (hX : JobOf w X F) (h0 : F.held = 0)
    (hen : ∀ args W, (callFunc id args).run Tryz.prog W = .ok (.enter id args) W) (hmain : MainDoes w X F id caps R) :
    Calls Tryz.prog 85 #[.pointer (some ⟨m, 0, none⟩)] w fun e w' => e = .returned (.tuple #[]) ∧ ∃ n F', JobEnd w' X F' ∧ R n F' ∧ MachAt w' m X.p (.func (.func id) #[] caps) true n ∧
      Turns ([m] ++ X.foot F) w w' ∧ (∀ g ∈ X.foot F', g ∈ X.foot F ∨ w.heap.size ≤ g) := by
  have hb := hX.proc.blk
  have am : m ∉ X.foot F := hX.off hm (by decide) (by decide) (by decide) (by decide) (by decide) (by decide) (by decide) (by decide) (by decide)
  obtain ⟨V, hV⟩ : ∃ V, w.drew = V := ⟨_, rfl⟩
  have vX : JobOf V X F := by rw [← hV]; exact hX.same fun _ _ => rfl
  have vm : MachAt V m X.p (.func (.func id) #[] caps) false st := by rw [← hV]; exact hm
  have pV := vX.proc.blk
  have v0 : V.cell? ⟨m, 0, none⟩ = some (.pointer (some ⟨X.p, 0, none⟩)) := vm.cell 0
  have v8 : V.cell? ⟨X.p, 8, none⟩ = some (.int .i64 0) := by rw [pV.cell 8]; simp [procCells, Job.J, h0]
  have v11 : V.cell? ⟨X.p, 11, none⟩ = some (.int .i64 0) := by rw [pV.cell 11]; simp [procCells, Job.J, hX.at_]
  have i8 : V.frozen? ⟨X.p, 8, none⟩ = false := pV.frozen 8
  have i11 : V.frozen? ⟨X.p, 11, none⟩ = false := pV.frozen 11
  have hmp : m ≠ X.p := Blk.ne_ hm hb (by decide)
  obtain ⟨Y, hY⟩ : ∃ Y, ((V.setCell ⟨X.p, 11, none⟩ (.int .i64 0)).setCell ⟨X.p, 8, none⟩ (.int .i64 0)) = Y := ⟨_, rfl⟩
  have TY : Turns [X.p] V Y := by rw [← hY]; exact (((Turns.refl _ V).setCell ⟨X.p, 11, none⟩ _ (fun _ => List.mem_singleton.2 rfl)).setCell ⟨X.p, 8, none⟩ _ (fun _ => List.mem_singleton.2 rfl))
  have pY : Blk Y X.p 132 (procCells (X.J F)) := by
    rw [← hY]
    have h1 := (pV.set_ 11 (.int .i64 0)).set_ 8 (.int .i64 0)
    have e : ((procCells (X.J F)).setIfInBounds 11 (.int .i64 0)).setIfInBounds 8 (.int .i64 0) = procCells (X.J F) := by simp [procCells, Job.J, h0, hX.at_]
    rwa [e] at h1
  have hsame : ∀ g ∈ X.foot F, Y.heap[g]? = V.heap[g]? := by
    intro g hg
    by_cases e : g = X.p
    · subst e; exact (show Y.heap[X.p]? = _ from pY).trans (show V.heap[X.p]? = _ from pV).symm
    · exact TY.block g (vX.foot_lt g hg) (by rw [List.mem_singleton]; exact e)
  have yX : JobOf Y X F := vX.same hsame
  have ym : MachAt Y m X.p (.func (.func id) #[] caps) false st := (TY.block m vm.lt (by rw [List.mem_singleton]; exact hmp)).trans vm
  have T0 : Turns [X.p] w Y := by
    have h1 : Turns [X.p] w V := by rw [← hV]; exact (Turns.refl _ w).drew
    exact h1.trans TY
  have hatt := attempt_top Y m X F id caps R st ym yX hen (fun W hW hJ => hmain W (T0.trans hW) hJ)
  have HA := Lib.hid hatt
  have HT := Lib.hid T0
  have AM := Lib.hid am
  clear hatt T0 am hen hmain TY pY hsame yX ym hb pV vX vm
  go_enter Tryz.func85, Tryz.ntmps85
  go_wp2_with fail
  refine still_tail 8 V hV (by kernel_rfl) (by kernel_rfl) ?_
  simp only [List.take_succ_cons, List.take_zero, List.drop_succ_cons, List.drop_zero]
  repeat still_step
  refine wpStill_nil ?_
  go_wp2_with (first
    | (go_at_call 109; refine HA.out.mono ?_; rintro e w1 ⟨rfl, n, F', hJ1, hR1, hm1, hT1, hn1⟩)
    | (go_at_call 110; refine (ended_any w1 m X.p (X.J F') X.D _ n hm1 hJ1.proc hJ1.table X.plain).mono ?_; rintro e w2 ⟨rfl, hm2, hp2, ht2, hT2⟩))
  go_returns
  have am1 : m ∉ X.foot F' := hJ1.off hm1 (by decide) (by decide) (by decide) (by decide) (by decide) (by decide) (by decide) (by decide) (by decide)
  have hkeep : ∀ {t : TypeId} {cs : Array Value} {g : Nat}, Blk w1 g t cs → t ≠ 144 → t ≠ 132 → t ≠ 182 → w2.heap[g]? = w1.heap[g]? := fun hg h1 h2 h3 =>
    hT2.block _ hg.lt (by
      simp only [List.mem_cons, List.not_mem_nil, or_false, not_or]
      exact ⟨Blk.ne_ hg hm1 h1, Blk.ne_ hg hJ1.proc.blk h2, Blk.ne_ hg hJ1.table h3⟩)
  have hT : Turns ([m] ++ X.foot F) w w2 := by
    refine ((HT.out.more ?_).trans hT1).then hT2 ?_
    · intro g hg; rw [List.mem_singleton] at hg; subst hg; simp [Job.foot, PS.foot]
    · intro g hg hlt
      simp only [List.mem_cons, List.not_mem_nil, or_false] at hg
      rcases hg with rfl | rfl | rfl
      · simp
      · simp [Job.foot, PS.foot]
      · simp only [List.mem_append]; refine .inr ?_; simp [Job.foot, Job.J]
  refine ⟨rfl, n, F', ⟨hp2, hJ1.kern.turns hT2 ?_, fun b => (hkeep (hJ1.sink b) (by decide) (by decide) (by decide)).trans (hJ1.sink b), fun b => (hJ1.row b).same fun g hg => hT2.block g ((hJ1.row b).lt hg).2 ?_, hJ1.free, hJ1.thing⟩, hR1, hm2, hT, ?_⟩
  · intro g hg hm'
    simp only [List.mem_cons, List.not_mem_nil, or_false] at hm'
    rcases hm' with rfl | rfl | rfl
    · exact hJ1.kern.off hm1 (by decide) (by decide) hg
    · exact hJ1.kern.off hJ1.proc.blk (by decide) (by decide) hg
    · exact hJ1.kern.off hJ1.table (by decide) (by decide) hg
  · simp only [List.mem_cons, List.not_mem_nil, or_false, not_or]
    exact ⟨fun e => (hJ1.row b).blk_ne hm1 (by decide) (e ▸ hg), fun e => (hJ1.row b).blk_ne hJ1.proc.blk (by decide) (e ▸ hg), fun e => (hJ1.row b).blk_ne hJ1.table (by decide) (e ▸ hg)⟩
  · intro g hg
    rcases hn1 g hg with h1 | h1
    · exact .inl h1
    · exact .inr (Nat.le_trans HT.out.size h1)

end Go.Proofs.YtlhiadnolckoeaaGreatDoor
end

section
namespace Go.Proofs.YtlhiadnolckoeaaGreatDoor
open Go.RowKit Go.Maps

theorem limS {Z W : World} {g : Nat} {t : TypeId} {b l r : Value} (zb : Blk Z g t #[b, l, r]) (h : Below (g + 1) Z W) : W.cell? ⟨g, 0, none⟩ = some b ∧ W.cell? ⟨g, 1, none⟩ = some l ∧ W.cell? ⟨g, 2, none⟩ = some r ∧ Below (g + 1) Z W :=
  have q := zb.below h (Nat.lt_succ_self g)
  ⟨q.cell 0, q.cell 1, q.cell 2, h⟩
theorem lim_le {Z W : World} {g : Nat} (hz : g + 1 ≤ Z.heap.size) (h : Below (g + 1) Z W) : g ≤ W.heap.size := by have := h.size; omega
set_option maxRecDepth 100000 in
set_option maxHeartbeats 2000000 in
theorem procNew (w : World) (k : Nat) (A1 A2 : Option Addr) (c1 c2 : Nat) (args env : List ByteArray) (cwd : ByteArray) (buf line run : Int) (h1 : Reads w w.heap.size 1 A1 args.length (strsC args)) (h2 : Reads w w.heap.size 1 A2 env.length (strsC env)) (l1 : args.length ≤ 2097152) (l2 : env.length ≤ 2097152) :
    Calls Tryz.prog 80 #[.pointer (some ⟨k, 0, none⟩), .slice A1 args.length c1, .slice A2 env.length c2, .string cwd, .agg #[.int .i64 buf, .int .i64 line, .int .i64 run]] w fun e w' => ∃ p tb av ev all, e = .returned (.pointer (some ⟨p, 0, none⟩)) ∧ w.heap.size ≤ p ∧ w.heap.size ≤ tb ∧
      ProcOf w' p { k := k, tb := tb, av := av, args := args, ev := ev, env := env, cwd := cwd, buf := buf, line := line, run := run, held := 0, peak := 0, lv := .slice none 0 0, log := [], at_ := 0, may := false, top := false, steps := 0, all := all } ∧
      Blk w' all 136 #[.slice none 0 0, .slice none 0 0, .int .i64 (-1)] ∧
      TableOf w' tb k (fun _ => .nilIface) ∧ Below w.heap.size w w' ∧ (∀ b, av.ownBlock = some b → w.heap.size ≤ b) ∧ (∀ b, ev.ownBlock = some b → w.heap.size ≤ b) ∧ w.heap.size ≤ all := by
  have hR1 := Lib.hid h1
  have hR2 := Lib.hid h2
  have L1 := Lib.hid l1
  have L2 := Lib.hid l2
  clear h1 h2 l1 l2
  go_enter Tryz.func80, Tryz.ntmps80
  go_wp2_with fail
  obtain ⟨Z, hZ⟩ : ∃ Z, w.alloc (.cells #[.int .i64 buf, .int .i64 line, .int .i64 run] 28) = Z := ⟨_, rfl⟩
  have bZ : Below w.heap.size w Z := by rw [← hZ]; exact (Below.refl _ w).alloc (Nat.le_refl _) _
  have zb : Blk Z w.heap.size 28 #[.int .i64 buf, .int .i64 line, .int .i64 run] := by rw [← hZ]; exact Blk.new w _ _
  rw [hZ]
  obtain ⟨g, hg⟩ : ∃ g, w.heap.size = g := ⟨_, rfl⟩
  have hzs : g < Z.heap.size := by rw [← hg]; exact zb.lt
  rw [hg] at zb bZ ⊢
  clear hZ
  have rd1 : ∀ W, Below (g + 1) Z W → Reads W g 1 A1 args.length (strsC args) := fun W hW => ((hg ▸ hR1.out : Reads w g 1 A1 args.length (strsC args)).below bZ).below (hW.mono (by omega))
  have rd2 : ∀ W, Below (g + 1) Z W → Reads W g 1 A2 env.length (strsC env) := fun W hW => ((hg ▸ hR2.out : Reads w g 1 A2 env.length (strsC env)).below bZ).below (hW.mono (by omega))
  have rd1 := Lib.hid rd1
  have rd2 := Lib.hid rd2
  have y0 : Z.cell? ⟨g, 0, none⟩ = some (.int .i64 buf) := zb.cell 0
  have y1 : Z.cell? ⟨g, 1, none⟩ = some (.int .i64 line) := zb.cell 1
  have y2 : Z.cell? ⟨g, 2, none⟩ = some (.int .i64 run) := zb.cell 2
  have hB : Below (g + 1) Z Z.drew := ⟨rfl, rfl, rfl, Nat.le_refl _, fun _ _ => rfl⟩
  have hgz : g + 1 ≤ Z.heap.size := hzs
  have hB0 : ∀ o, Below (g + 1) Z (Z.alloc o).drew := fun o => have h := (Below.refl (g + 1) Z).alloc hgz o; ⟨h.os, h.tape, h.output, h.size, h.block⟩
  have hB0s : ∀ o : Obj, (Z.alloc o).drew.heap.size = Z.heap.size + 1 := fun o => by show (Z.alloc o).heap.size = _; simp
  have hgw : g ≤ w.heap.size := Nat.le_of_eq hg.symm
  have HS := Lib.hid hB0s
  clear hR1 hR2 hB0s
  go_region_held3 (fun W => W.cell? ⟨g, 0, none⟩ = some (.int .i64 buf) ∧ W.cell? ⟨g, 1, none⟩ = some (.int .i64 line) ∧ W.cell? ⟨g, 2, none⟩ = some (.int .i64 run) ∧ Below (g + 1) Z W)
    (first | (go_split_ands; refine limS zb ?_; first | assumption | exact hB0 _ | (refine below_box ?_ hgz _; assumption)))
    (first
    | (go_at_call 104; refine (kTable _ _).mono ?_; rintro e w1 ⟨rfl, hT1, hb1⟩; have hB1 : Below (g + 1) Z w1 := (by go_split_ands; first | exact below_step (hB0 _) hb1 hgz | (refine below_step ?_ hb1 hgz; assumption)))
    | (go_at_call 105; have hT3 := hT2; refine (cloneS_any A2 env.length c2 env _ g rfl (rd2.out _ (by go_split_ands; assumption)) (by go_split_ands; exact lim_le hgz (by assumption)) L2.out).mono ?_; rintro e w3 ⟨ev, rfl, hown3, hb3⟩; obtain ⟨Ae, ce, rfl, _⟩ := own_slice hown3; have hB3 : Below (g + 1) Z w3 := (by go_split_ands; exact below_step (by assumption) hb3 hgz))
    | (go_at_call 105; refine (cloneS_any A1 args.length c1 args _ g rfl (rd1.out _ (by go_split_ands; assumption)) (by go_split_ands; exact lim_le hgz (by assumption)) L1.out).mono ?_; rintro e w2 ⟨av, rfl, hown2, hb2⟩; obtain ⟨Aa, ca, rfl, _⟩ := own_slice hown2; have hB2 : Below (g + 1) Z w2 := (by go_split_ands; exact below_step (by assumption) hb2 hgz); have hT2 := hT1))
  all_goals
    have h23 : Below w2.heap.size w2 w3 := by first | exact hb3 | exact below_step (below_one w2 _) hb3 (Nat.le_refl _)
    have h13 : Below w1.heap.size w1 w3 := by first | exact below_step hb2 h23 (Nat.le_refl _) | exact below_step (below_step (below_one w1 _) hb2 (Nat.le_refl _)) h23 (Nat.le_refl _)
    have hT9 := Blk.on hT1 h13
    try rw [HS.out _] at hT9
    have h9 : Below g w w3 := bZ.trans (hB3.mono (Nat.le_succ g))
    have o29 := own_on hown2 h23
    have s3 := hB3.size
    have s2 := hB2.size
    have s1 := hB1.size
    have h39 := h23.size
    have h29 := h13.size
    go_wp2_with fail
    go_returns
    rw [hg]
    refine ⟨_, _, _, _, _, rfl, ?_, ?_, ⟨(by first | exact Blk.new _ _ _ | exact Blk.newNext _ _ _ _), ?_, ?_, ⟨rfl, .inl ⟨rfl, rfl⟩⟩⟩, Blk.alloc (by first | exact Blk.new w3 _ _ | exact Blk.on (Blk.new w2 _ _) hb3 | exact Blk.on (Blk.new w1 _ _) (below_step hb2 hb3 (Nat.le_refl _)) | exact Blk.on (Blk.new Z _ _).drew (below_step (below_step hb1 hb2 (Nat.le_refl _)) hb3 (Nat.le_refl _))) _, Blk.alloc (by first | exact hT9 | exact Blk.alloc hT9 _) _, ?_, fun b hb => ?_, fun b hb => ?_, ?_⟩
    · first | omega | (simp; omega)
    · first | (show g ≤ Z.heap.size; omega) | omega | (simp; omega)
    · exact Joins.ownsRow_le ((by first | exact o29.alloc _ | exact (o29.alloc _).alloc _) : World.ownsRow _ _ _ _ _ _ _) (Nat.zero_le _)
    · exact Joins.ownsRow_le ((by first | exact hown3.alloc _ | exact (hown3.alloc _).alloc _) : World.ownsRow _ _ _ _ _ _ _) (Nat.zero_le _)
    · first | exact below_box h9 hgw _ | exact below_box (below_box h9 hgw _) hgw _
    · have := (hown2.lt b hb).1
      first | omega | (simp at this; omega)
    · have := (hown3.lt b hb).1
      first | omega | (simp at this; omega)
    · first | omega | (simp; omega)

end Go.Proofs.YtlhiadnolckoeaaGreatDoor
end

section
namespace Go.Proofs.YtlhiadnolckoeaaGreatDoor
open Go.RowKit Go.Maps

set_option maxRecDepth 100000 in
set_option maxHeartbeats 1000000 in
theorem kSaid (w : World) (k : Nat) (K : KS) (h : KernOf w k K) (n : Nat) (hn : n < 4611686018427387904) (p : Nat) (hx : K.tf (numK n) = some (sinkV p)) (base : Nat) (v : Value) (bs : List UInt8) (hp : SinkAt w p v) (hv : OffRow w base 5 v bs.length (bytesC bs)) (hl : bs.length ≤ 140737488355328) :
    Calls Tryz.prog 86 #[.pointer (some ⟨k, 0, none⟩), .int .i64 (n : Int)] w fun e w' => ∃ u, e = .returned u ∧ w'.ownsRow w.heap.size 5 1 u bs.length (bytesC bs) ∧ Below w.heap.size w w' := by
  have hcl := cloneB w v bs (Bytes.of_off hv) hl
  have c0 : w.cell? ⟨p, 0, none⟩ = some v := hp.cell 0
  have c5 : w.cell? ⟨k, 5, none⟩ = some (.map (some K.tb)) := h.blk.cell 5
  obtain ⟨A, cp, hvf, _⟩ := hv.form
  subst hvf
  go_enter Tryz.func86, Tryz.ntmps86
  go_wp2_with (first
    | (go_at_call 108; refine hcl.mono ?_; rintro e w1 ⟨u, rfl, hown, hbel⟩)
    | (at_lookup; refine wpList_look1_of _ rfl _ _ 167 rfl 3 178 intKeys Tryz.underlying167 .nilIface (by kernel_rfl) K.tb K.tn K.tf rfl h.things _ (numK n) rfl (keyOf_int_mk Tryz.underlying3 (WalkArith.wf_i64 (by omega))) ?_; rw [hx]; unfold sinkV))
  go_returns
  exact ⟨_, rfl, hown, hbel⟩

end Go.Proofs.YtlhiadnolckoeaaGreatDoor
end

section
namespace Go.Proofs.YtlhiadnolckoeaaGreatDoor
open Go.RowKit Go.Maps

/-- a kernel with one thing more, the n-th -/
structure Adds (K K' : KS) (n : Nat) (x : Value) : Prop where
  last : K'.last = n
  tn : K'.tn = n
  tf : K'.tf (numK n) = some x
  old : ∀ m, m ≠ n → K'.tf (numK m) = K.tf (numK m)
  same : K'.tb = K.tb ∧ K'.fv = K.fv
  free : K'.used = K.used ∧ K'.fl = K.fl ∧ K'.t = K.t
theorem Adds.of {K : KS} {n : Nat} (h : n = K.last + 1) (h2 : n = K.tn + 1) (x : Value) : Adds K (K.adds x) n x where
  last := h.symm
  tn := h2.symm
  tf := by subst h; exact upd_same _ _ _
  old := fun m hm => by subst h; exact upd_other _ _ (by simp; omega)
  same := ⟨rfl, rfl⟩
  free := ⟨rfl, rfl, rfl⟩
theorem kSink1 (w : World) (k : Nat) (K : KS) (n : Nat) (h : KernOf w k K) (h1 : K.last = n) (h2 : K.tn = n) (hn : n < 4611686018427387904) :
    Calls Tryz.prog 84 #[.pointer (some ⟨k, 0, none⟩)] w fun e w' => ∃ K', e = .returned (.int .i64 ((n + 1 : Nat) : Int)) ∧
      SinkAt w' w.heap.size (.slice none 0 0) ∧ KernOf w' k K' ∧ Turns [k, K.tb] w w' ∧ Adds K K' (n + 1) (sinkV w.heap.size) :=
  (kSink w k K h (by omega) (by omega)).mono fun _ _ ⟨he, hs, hk, ht⟩ => ⟨_, by rw [he, h1], hs, hk, ht, Adds.of (by rw [h1]) (by rw [h2]) _⟩

def resZ : Array Value := #[.slice none 0 0, .slice none 0 0, .int .i64 0, .slice none 0 0, .int .i64 0, .int .i64 0, .int .i64 0]
theorem NoTree.one' {w : World} {p : Nat} {e : TypeId} {cs : Array Value} (hb : Blk w p e cs) (h : e ≠ 202 ∧ e ≠ 211 ∧ e ≠ 5) : ∀ g ∈ [p], NoTree w g := by
  intro g hg _
  rw [List.mem_singleton] at hg
  subst hg
  exact ⟨e, cs, hb, h⟩
/-- what has been laid -/
structure Mid (Y : World) (L g : Nat) (jc : Array Value) (t h0 k p tb all : Nat) (J : PS) (K : KS) (D : Nat → Value) (picks : Value) : Prop where
  job : Blk Y g 36 jc
  res : Blk Y (g + 1) 38 resZ
  proc : ProcOf Y p J
  kern : KernOf Y k K
  table : TableOf Y tb k D
  tree : TreeOf Y t (emptyT h0)
  crowd : Blk Y all 136 #[.slice none 0 0, picks, .int .i64 (-1)]
  /-- the kernel's map is none of the tree's -/
  sep : K.tb ≠ h0 ∧ K.tb ≠ h0 + 1 + 1
  /-- all but the job, the result and the tree came behind them -/
  news : ∀ b ∈ [p, tb, k, K.tb, all] ++ K.fv.ownBlock.toList ++ J.av.ownBlock.toList ++ J.ev.ownBlock.toList ++ J.lv.ownBlock.toList, L ≤ b
  low : t < L ∧ h0 + 1 + 1 < L ∧ g ≤ L

section
variable {Y Y' : World} {L g t h0 k p tb all : Nat} {jc : Array Value} {J : PS} {K : KS} {D : Nat → Value} {pk : Value}
theorem Mid.same (h : Mid Y L g jc t h0 k p tb all J K D pk) (hT : Turns [] Y Y') : Mid Y' L g jc t h0 k p tb all J K D pk :=
  { job := (hT.block _ h.job.lt (by simp)).trans h.job, res := (hT.block _ h.res.lt (by simp)).trans h.res, proc := h.proc.turns hT (by simp), kern := h.kern.turns hT (by simp)
    table := (hT.block _ (Blk.lt h.table) (by simp)).trans h.table, tree := h.tree.turns hT (by simp), crowd := (hT.block _ h.crowd.lt (by simp)).trans h.crowd, sep := h.sep, news := h.news, low := h.low }
/-- a block of the process, the table, the crowd alone has turned -/
theorem Mid.one {q : Nat} {e : TypeId} {cs : Array Value} (h : Mid Y L g jc t h0 k p tb all J K D pk) (hq : Blk Y q e cs) (he : e = 132 ∨ e = 182 ∨ e = 136) (hT : Turns [q] Y Y') {J' : PS} {D' : Nat → Value} {pk' : Value}
    (hp : ProcOf Y' p J') (htb : TableOf Y' tb k D') (hal : Blk Y' all 136 #[.slice none 0 0, pk', .int .i64 (-1)]) (hJ : J'.av = J.av ∧ J'.ev = J.ev ∧ J'.lv = J.lv) : Mid Y' L g jc t h0 k p tb all J' K D' pk' := by
  have off : ∀ {ty : TypeId} {cs' : Array Value} {b : Nat}, Blk Y b ty cs' → e ≠ ty → Blk Y' b ty cs' := fun hb h => (hT.block _ hb.lt (by rw [List.mem_singleton]; exact (Blk.ne_ hq hb h).symm)).trans hb
  have ne : ∀ ty, (ty = 36 ∨ ty = 38 ∨ ty = 174 ∨ ty = 166 ∨ ty = 202 ∨ ty = 211 ∨ ty = 5) → e ≠ ty := by
    intro ty h1
    rcases he with rfl | rfl | rfl <;> rcases h1 with rfl | rfl | rfl | rfl | rfl | rfl | rfl <;> decide
  exact {
    job := off h.job (ne _ (by simp)), res := off h.res (ne _ (by simp)), proc := hp, table := htb, crowd := hal, sep := h.sep, low := h.low
    kern := h.kern.turns hT fun b hb hm => h.kern.off hq (ne _ (by simp)) (ne _ (by simp)) ((List.mem_singleton.1 hm) ▸ hb)
    tree := h.tree.turns hT (NoTree.one' hq ⟨ne _ (by simp), ne _ (by simp), ne _ (by simp)⟩)
    news := by rw [hJ.1, hJ.2.1, hJ.2.2]; exact h.news }
/-- the kernel has turned -/
theorem Mid.kernel (h : Mid Y L g jc t h0 k p tb all J K D pk) (hT : Turns [k, K.tb] Y Y') {K' : KS} (hk : KernOf Y' k K') (hK : K'.tb = K.tb ∧ K'.fv = K.fv) : Mid Y' L g jc t h0 k p tb all J K' D pk := by
  have off : ∀ {ty : TypeId} {cs' : Array Value} {b : Nat}, Blk Y b ty cs' → ty ≠ 174 → Blk Y' b ty cs' := fun hb h1 => (hT.block _ hb.lt (by
    simp only [List.mem_cons, List.not_mem_nil, or_false, not_or]
    exact ⟨Blk.ne_ hb h.kern.blk h1, (h.kern.things.blk_ne hb).symm⟩)).trans hb
  have hpk : ∀ b ∈ J.foot p, b ∉ [k, K.tb] := by
    intro b hb hm
    simp only [List.mem_cons, List.not_mem_nil, or_false] at hm
    rcases hm with rfl | rfl
    · exact h.proc.off h.kern.blk (by decide) (by decide) (by decide) hb
    · simp only [PS.foot, List.mem_append, List.mem_cons, List.not_mem_nil, or_false, Option.mem_toList] at hb
      rcases hb with ((e | hb) | hb) | hb
      · exact h.kern.things.blk_ne h.proc.blk e
      · exact h.kern.things.own_ne h.proc.args hb
      · exact h.kern.things.own_ne h.proc.env hb
      · exact h.kern.things.own_ne h.proc.log hb
  have htr : TreeOf Y' t (emptyT h0) := by
    have hmk : ∀ {q : TypeId} {b n : Nat} {f : Lit → Option Value}, MapOf Y Tryz.prog q b n f → K.tb ≠ b → MapOf Y' Tryz.prog q b n f := fun hm hne => hm.same (hT.block _ hm.lt (by
      simp only [List.mem_cons, List.not_mem_nil, or_false, not_or]
      exact ⟨fun e => hm.blk_ne h.kern.blk e, fun e => hne e.symm⟩))
    refine ⟨off h.tree.blk (by decide), hmk h.tree.files h.sep.2, fun b x hx => ?_, h.tree.apart⟩
    have hbx : b = h0 + 1 ∧ x = rootItem h0 := by
      simp only [emptyT] at hx
      split at hx
      · exact ⟨by assumption, by simpa using hx.symm⟩
      · cases hx
    obtain ⟨rfl, rfl⟩ := hbx
    have e0 := h.tree.item _ _ hx
    exact ⟨off e0.1 (by decide), OffRow.nil _ _ _, fun hd => ⟨hmk (e0.2.2 hd).1 h.sep.1, (e0.2.2 hd).2⟩⟩
  exact { job := off h.job (by decide), res := off h.res (by decide), proc := h.proc.turns hT hpk, table := off h.table (by decide), crowd := off h.crowd (by decide), kern := hk, tree := htr, sep := by rw [hK.1]; exact h.sep, low := h.low, news := by rw [hK.1, hK.2]; exact h.news }
end

/-- a job's flow at its start -/
def Flow.first (inb : List UInt8) (sv : Value) : Flow := { steps := 0, held := 0, peak := 0, sv := sv, inb := inb, val := fun _ => .slice none 0 0, said := fun _ => [] }

theorem emptyT_keep {Y Y' : World} {t h0 : Nat} (h : TreeOf Y t (emptyT h0)) (hb : ∀ b, b = t ∨ b = h0 ∨ b = h0 + 1 ∨ b = h0 + 1 + 1 → Y'.heap[b]? = Y.heap[b]?) : TreeOf Y' t (emptyT h0) := by
  refine ⟨(hb t (.inl rfl)).trans h.blk, h.files.same (hb _ (.inr (.inr (.inr rfl)))), fun b x hx => ?_, h.apart⟩
  have e0 := h.item b x hx
  have hbx : b = h0 + 1 ∧ x = rootItem h0 := by
    simp only [emptyT] at hx
    split at hx
    · exact ⟨by assumption, by simpa using hx.symm⟩
    · cases hx
  obtain ⟨rfl, rfl⟩ := hbx
  exact ⟨(hb _ (.inr (.inr (.inl rfl)))).trans e0.1, OffRow.nil _ _ _, fun hd => ⟨(e0.2.2 hd).1.same (hb _ (.inr (.inl rfl))), (e0.2.2 hd).2⟩⟩

section
variable {Y : World} {L g t h0 k p tb all : Nat} {jc : Array Value} {J : PS} {K : KS} {D : Nat → Value} {pk : Value}
def mkJob (p : Nat) (J : PS) (K : KS) (sb so se : Nat) : Job := { p := p, B := J, K := K, src := sb, sink := fun b => if b then so else se }
theorem Mid.jobOf (M : Mid Y L g jc t h0 k p tb all J K D pk) (hk : J.k = k) (ht : J.tb = tb) (hz : J.steps = 0 ∧ J.held = 0 ∧ J.peak = 0 ∧ J.may = true ∧ J.top = true ∧ J.at_ = 0 ∧ J.log = []) {sb so se base : Nat} {sv : Value} {inb : List UInt8}
    (hs : Blk Y sb 192 #[sv]) (hr : OffRow Y base 5 sv inb.length (bytesC inb)) (h1 : SinkAt Y so (.slice none 0 0)) (h2 : SinkAt Y se (.slice none 0 0)) (hne : so ≠ se)
    (hD : ∀ i, i < 16 → D i = (mkJob p J K sb so se).D i) (hf : K.used = K.fl.length) (t2 : K.tf (numK 2) = some (sinkV so)) (t3 : K.tf (numK 3) = some (sinkV se)) : JobOf Y (mkJob p J K sb so se) (Flow.first inb sv) where
  proc := by
    have e : (mkJob p J K sb so se).J (Flow.first inb sv) = J := by
      obtain ⟨a, b, c, _⟩ := hz
      cases J
      simp only [mkJob, Job.J, Flow.first] at a b c ⊢
      subst a b c
      rfl
    rw [e]; exact M.proc
  kern := by show KernOf Y J.k K; rw [hk]; exact M.kern
  table := by show TableOf Y J.tb J.k _; rw [hk, ht]; exact M.table.congr hD
  may := hz.2.2.2.1
  top := hz.2.2.2.2.1
  at_ := hz.2.2.2.2.2.1
  log := hz.2.2.2.2.2.2
  src := hs
  inp := hr.mono (Nat.zero_le _)
  sink := fun b => by cases b; exact h2; exact h1
  row := fun b => OffRow.nil _ _ _
  sinks := hne
  rows := fun _ hg => by simp [Flow.first, Value.ownBlock] at hg
  inrow := fun _ _ _ hg => by simp [Flow.first, Value.ownBlock] at hg
  free := hf
  thing := fun b => by cases b; exact t3; exact t2
theorem Mid.foot (M : Mid Y L g jc t h0 k p tb all J K D pk) (hk : J.k = k) (ht : J.tb = tb) {sb so se base : Nat} {sv : Value} {inb : List UInt8} (hr : OffRow Y base 5 sv inb.length (bytesC inb)) (hb : L ≤ base) (h1 : L ≤ sb) (h2 : L ≤ so) (h3 : L ≤ se) :
    ∀ b ∈ (mkJob p J K sb so se).foot (Flow.first inb sv), L ≤ b := by
  intro b hb'
  have hn := M.news b
  have on : (Value.slice none 0 0).ownBlock = none := rfl
  simp only [Job.foot, mkJob, PS.foot, KS.foot, Flow.first, hk, ht, on, Option.mem_toList, reduceCtorEq, List.mem_append, List.mem_cons, List.not_mem_nil, or_false, if_true, Bool.false_eq_true, if_false] at hb' hn
  rcases hb' with (((((rfl | h) | h) | h) | ((rfl | rfl) | h)) | rfl | rfl | rfl | rfl) | h
  · exact hn (by simp)
  · exact hn (by simp [h])
  · exact hn (by simp [h])
  · exact hn (by simp [h])
  · exact hn (by simp)
  · exact hn (by simp)
  · exact hn (by simp [h])
  · exact hn (by simp)
  · exact h1
  · exact h2
  · exact h3
  · have := (hr.lt h).1
    omega
end

section
theorem resKeep {w : World} {m p g : Nat} {a b c : Option Value} (h1 : m ≠ g) (h2 : p ≠ g) (h : w.cell? ⟨m, 3, none⟩ = a ∧ w.cell? ⟨p, 15, none⟩ = b ∧ w.cell? ⟨p, 9, none⟩ = c) (v0 v1 v2 v3 v4 v5 v6 : Value) :
    (((((((w.setCell ⟨g, 0, none⟩ v0).setCell ⟨g, 1, none⟩ v1).setCell ⟨g, 2, none⟩ v2).setCell ⟨g, 3, none⟩ v3).setCell ⟨g, 4, none⟩ v4).setCell ⟨g, 5, none⟩ v5).setCell ⟨g, 6, none⟩ v6).cell? ⟨m, 3, none⟩ = a ∧
    (((((((w.setCell ⟨g, 0, none⟩ v0).setCell ⟨g, 1, none⟩ v1).setCell ⟨g, 2, none⟩ v2).setCell ⟨g, 3, none⟩ v3).setCell ⟨g, 4, none⟩ v4).setCell ⟨g, 5, none⟩ v5).setCell ⟨g, 6, none⟩ v6).cell? ⟨p, 15, none⟩ = b ∧
    (((((((w.setCell ⟨g, 0, none⟩ v0).setCell ⟨g, 1, none⟩ v1).setCell ⟨g, 2, none⟩ v2).setCell ⟨g, 3, none⟩ v3).setCell ⟨g, 4, none⟩ v4).setCell ⟨g, 5, none⟩ v5).setCell ⟨g, 6, none⟩ v6).cell? ⟨p, 9, none⟩ = c := by
  have f : ∀ (W : World) (i : Nat) (v : Value) (q : Addr), q.block ≠ g → (W.setCell ⟨g, i, none⟩ v).cell? q = W.cell? q := fun W i v q hq => World.cell?_of_block (Below.heap_setCell W ⟨g, i, none⟩ v q.block hq)
  refine ⟨?_, ?_, ?_⟩
  · rw [f _ _ _ _ h1, f _ _ _ _ h1, f _ _ _ _ h1, f _ _ _ _ h1, f _ _ _ _ h1, f _ _ _ _ h1, f _ _ _ _ h1]; exact h.1
  · rw [f _ _ _ _ h2, f _ _ _ _ h2, f _ _ _ _ h2, f _ _ _ _ h2, f _ _ _ _ h2, f _ _ _ _ h2, f _ _ _ _ h2]; exact h.2.1
  · rw [f _ _ _ _ h2, f _ _ _ _ h2, f _ _ _ _ h2, f _ _ _ _ h2, f _ _ _ _ h2, f _ _ _ _ h2, f _ _ _ _ h2]; exact h.2.2

theorem set7 {w : World} {g : Nat} {t : TypeId} {a0 a1 a2 a3 a4 a5 a6 : Value} (h : Blk w g t #[a0, a1, a2, a3, a4, a5, a6]) (v0 v1 v2 v3 v4 v5 v6 : Value) : Blk (((((((w.setCell ⟨g, 0, none⟩ v0).setCell ⟨g, 1, none⟩ v1).setCell ⟨g, 2, none⟩ v2).setCell ⟨g, 3, none⟩ v3).setCell ⟨g, 4, none⟩ v4).setCell ⟨g, 5, none⟩ v5).setCell ⟨g, 6, none⟩ v6) g t #[v0, v1, v2, v3, v4, v5, v6] := by
  have h0 : Blk _ g t #[v0, a1, a2, a3, a4, a5, a6] := h.set_ 0 v0
  have h1 : Blk _ g t #[v0, v1, a2, a3, a4, a5, a6] := h0.set_ 1 v1
  have h2 : Blk _ g t #[v0, v1, v2, a3, a4, a5, a6] := h1.set_ 2 v2
  have h3 : Blk _ g t #[v0, v1, v2, v3, a4, a5, a6] := h2.set_ 3 v3
  have h4 : Blk _ g t #[v0, v1, v2, v3, v4, a5, a6] := h3.set_ 4 v4
  have h5 : Blk _ g t #[v0, v1, v2, v3, v4, v5, a6] := h4.set_ 5 v5
  exact h5.set_ 6 v6
theorem cells7 {w : World} {g : Nat} {t : TypeId} {a0 a1 a2 a3 a4 a5 a6 : Value} (h : Blk w g t #[a0, a1, a2, a3, a4, a5, a6]) : w.cell? ⟨g, 0, none⟩ = some a0 ∧ w.cell? ⟨g, 1, none⟩ = some a1 ∧ w.cell? ⟨g, 2, none⟩ = some a2 ∧ w.cell? ⟨g, 3, none⟩ = some a3 ∧ w.cell? ⟨g, 4, none⟩ = some a4 ∧ w.cell? ⟨g, 5, none⟩ = some a5 ∧ w.cell? ⟨g, 6, none⟩ = some a6 :=
  ⟨h.cell 0, h.cell 1, h.cell 2, h.cell 3, h.cell 4, h.cell 5, h.cell 6⟩
theorem far7 {w : World} {g b : Nat} (h : b ≠ g) (v0 v1 v2 v3 v4 v5 v6 : Value) : (((((((w.setCell ⟨g, 0, none⟩ v0).setCell ⟨g, 1, none⟩ v1).setCell ⟨g, 2, none⟩ v2).setCell ⟨g, 3, none⟩ v3).setCell ⟨g, 4, none⟩ v4).setCell ⟨g, 5, none⟩ v5).setCell ⟨g, 6, none⟩ v6).heap[b]? = w.heap[b]? := by
  rw [Below.heap_setCell _ _ _ _ h, Below.heap_setCell _ _ _ _ h, Below.heap_setCell _ _ _ _ h, Below.heap_setCell _ _ _ _ h, Below.heap_setCell _ _ _ _ h, Below.heap_setCell _ _ _ _ h, Below.heap_setCell _ _ _ _ h]
theorem below7 {B g : Nat} {a w : World} (h : Below B a w) (hg : B ≤ g) (v0 v1 v2 v3 v4 v5 v6 : Value) : Below B a (((((((w.setCell ⟨g, 0, none⟩ v0).setCell ⟨g, 1, none⟩ v1).setCell ⟨g, 2, none⟩ v2).setCell ⟨g, 3, none⟩ v3).setCell ⟨g, 4, none⟩ v4).setCell ⟨g, 5, none⟩ v5).setCell ⟨g, 6, none⟩ v6) :=
  ((((((h.setCell (p := ⟨g, 0, none⟩) hg _).setCell (p := ⟨g, 1, none⟩) hg _).setCell (p := ⟨g, 2, none⟩) hg _).setCell (p := ⟨g, 3, none⟩) hg _).setCell (p := ⟨g, 4, none⟩) hg _).setCell (p := ⟨g, 5, none⟩) hg _).setCell (p := ⟨g, 6, none⟩) hg _
end

end Go.Proofs.YtlhiadnolckoeaaGreatDoor
end
