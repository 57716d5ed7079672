/-
  Parts of the proof.
-/
import Derived.Test.YtffffjngodinnaaGreatDoorV22
import Derived.Test.YtffffjngodinnaaGreatDoorV20
import Derived.Test.YtffffjngodinnaaGreatDoorV11
import Derived.Test.YtffffjngodinnaaGreatDoorV12
namespace Go.Proofs.YtffffjngodinnaaGreatDoor
section
open Go.RowKit Go.Maps
theorem statRoot (w : World) (t h : Nat) (hT : TreeOf w t (emptyT h)) : Calls Tryz.prog 56 #[ptrV t, .string ⟨#[]⟩, .string ⟨#[47]⟩] w fun e w' => e = .returned (.tuple #[.agg #[.int .i64 1, .bool true, .int .i64 493, .int .i64 0, .int .i64 0, .int .i64 1], .int .i64 0]) /\ Below w.heap.size w w' :=
 (stat_any w t (emptyT h) Abs.emptyT (fun _ => h + 1) (emptyT_is hT) ⟨#[]⟩ ⟨#[47]⟩ (by decide) (by decide)).mono fun e w' ⟨he, hb⟩ => ⟨he.trans (by
  have : Abs.T.look Abs.emptyT (⟨#[]⟩ : ByteArray).data.toList (⟨#[47]⟩ : ByteArray).data.toList = .ok 1 := by rfl
  rw [this]; rfl), hb⟩
theorem dumpRoot (w : World) (t h : Nat) (hT : TreeOf w t (emptyT h)) : Calls Tryz.prog 34 #[ptrV t] w fun e w' => e = .returned (.slice none 0 0) /\ Below w.heap.size w w' := by
 have e0 := hT.item (h + 1) (rootItem h) (by simp [emptyT])
 exact callsIn_wide.1 (dumpNone_wide w t (h + 1) h _ (hT.blk.cell 0) (e0.1.cell 5) (e0.2.2 rfl).1)
end
section
set_option maxRecDepth 100000
open Go.RowKit Go.Maps
def jobCells (av ev iv : Value) (buf line run : Int) (fv : Value) : Array Value := #[av, ev, .string ⟨#[]⟩, iv, .slice none 0 0, .int .i64 buf, .int .i64 line, .int .i64 run, fv, .int .i64 0, .slice none 0 0]
structure LimOk (buf line run : Int) : Prop where
 h1 : 1 <= buf
 h2 : 1 <= line
 h3 : line <= run
 h4 : buf <= 1099511627776
 h5 : run <= 1099511627776
theorem loadNone (w : World) : Calls Tryz.prog 55 #[.slice none 0 0] w fun e w' => ∃ t h, e = .returned (.tuple #[.pointer (some ⟨t, 0, none⟩), .int .i64 0]) /\ w.heap.size <= t /\ TreeOf w' t (emptyT h) /\ Below w.heap.size w w' :=
 (treeLoadNil w).mono fun _ _ ⟨he, hT, hb⟩ => ⟨_, _, he, by omega, hT, hb⟩
set_option maxHeartbeats 2000000 in
theorem mayNil (w : World) (A : Option Addr) (n c : Nat) (ev iv : Value) (buf line run : Int) (fv : Value) (hn : 1 <= n) (hl : LimOk buf line run) :
 Calls Tryz.prog 25 #[.agg (jobCells (.slice A n c) ev iv buf line run fv)] w fun e w' => ∃ t h, e = .returned (.tuple #[ptrV t, .bool true]) /\ w.heap.size <= t /\ TreeOf w' t (emptyT h) /\ Below w.heap.size w w' := by
 have hv := hl.h1
 have hv2 := hl.h2
 have hv3 := hl.h3
 have hv4 := hl.h4
 have hv5 := hl.h5
 unfold jobCells
 go_enter Tryz.func25, Tryz.ntmps25
 have hw1 : ¬ (n : Int) < 1 := by omega
 have hmx : ¬ (1099511627776 : Int) < max buf run := by omega
 go_wp2_with (first
  | (go_at_call 55; refine (loadNone _).mono ?_; rintro e w1 ⟨t, ht0, rfl, hts, hT, hb1⟩
     have bx : Blk w1 w.heap.size 30 (jobCells (.slice A n c) ev iv buf line run fv) := Blk.on (Blk.new w _ _) hb1
     have x0 : w1.cell? ⟨w.heap.size, 0, none⟩ = some (.slice A n c) := bx.cell 0
     have x2 : w1.cell? ⟨w.heap.size, 2, none⟩ = some (.string ⟨#[]⟩) := bx.cell 2
     have x5 : w1.cell? ⟨w.heap.size, 5, none⟩ = some (.int .i64 buf) := bx.cell 5
     have x6 : w1.cell? ⟨w.heap.size, 6, none⟩ = some (.int .i64 line) := bx.cell 6
     have x7 : w1.cell? ⟨w.heap.size, 7, none⟩ = some (.int .i64 run) := bx.cell 7
     have x9 : w1.cell? ⟨w.heap.size, 9, none⟩ = some (.int .i64 0) := bx.cell 9)
  | (go_at_call 56; refine (statRoot _ _ _ hT).mono ?_; rintro e w2 ⟨rfl, hb2⟩))
 all_goals
  go_quiet (fail)
  go_wp2_with fail
  go_returns
  refine ⟨t, ht0, rfl, Nat.le_trans (by simp) hts, ?_, ?_⟩
  · exact (hT.below hb2).below (below_drewN (below_one w2 _) nq)
  · exact below_step (below_step (below_one w _) hb1 (Nat.le_refl _)) (below_step hb2 (below_drewN (below_one w2 _) nq) (Nat.le_refl _)) (Nat.le_refl _)
end
section
open Go.RowKit Go.Maps
structure Adds (K K' : KS) (n : Nat) (x : Value) : Prop where
 last : K'.last = n
 tn : K'.tn = n
 tf : K'.tf (numK n) = some x
 old : ∀ m, m ≠ n -> K'.tf (numK m) = K.tf (numK m)
 same : K'.tb = K.tb /\ K'.fv = K.fv
 free : K'.used = K.used /\ K'.fl = K.fl /\ K'.t = K.t
theorem Adds.of {K : KS} {n : Nat} (h : n = K.last + 1) (h2 : n = K.tn + 1) (x : Value) : Adds K (K.adds x) n x where
 last := h.symm
 tn := h2.symm
 tf := by subst h; exact upd_same _ _ _
 old := fun m hm => by subst h; exact upd_other _ _ (by simp; omega)
 same := ⟨rfl, rfl⟩
 free := ⟨rfl, rfl, rfl⟩
theorem kSink1 (w : World) (k : Nat) (K : KS) (n : Nat) (h : KernOf w k K) (h1 : K.last = n) (h2 : K.tn = n) (hn : n < 4611686018427387904) :
 Calls Tryz.prog 31 #[.pointer (some ⟨k, 0, none⟩)] w fun e w' => ∃ K', e = .returned (.int .i64 ((n + 1 : Nat) : Int)) /\
  SinkAt w' w.heap.size (.slice none 0 0) /\ KernOf w' k K' /\ Turns [k, K.tb] w w' /\ Adds K K' (n + 1) (sinkV w.heap.size) :=
 (kSink w k K h (by omega) (by omega)).mono fun _ _ ⟨he, hs, hk, ht⟩ => ⟨_, by rw [he, h1], hs, hk, ht, Adds.of (by rw [h1]) (by rw [h2]) _⟩
def resZ : Array Value := #[.slice none 0 0, .slice none 0 0, .int .i64 0, .slice none 0 0, .int .i64 0, .int .i64 0, .int .i64 0]
theorem NoTree.one' {w : World} {p : Nat} {e : TypeId} {cs : Array Value} (hb : Blk w p e cs) (h : e ≠ 169 /\ e ≠ 179 /\ e ≠ 5) : ∀ g ∈ [p], NoTree w g := by
 intro g hg _
 rw [List.mem_singleton] at hg
 subst hg
 exact ⟨e, cs, hb, h⟩
structure Mid (Y : World) (L g : Nat) (jc : Array Value) (t h0 k p tb all : Nat) (J : PS) (K : KS) (D : Nat -> Value) (picks : Value) : Prop where
 job : Blk Y g 30 jc
 res : Blk Y (g + 1) 36 resZ
 proc : ProcOf Y p J
 kern : KernOf Y k K
 table : TableOf Y tb k D
 tree : TreeOf Y t (emptyT h0)
 crowd : Blk Y all 89 #[.slice none 0 0, picks, .int .i64 (-1)]
 sep : K.tb ≠ h0 /\ K.tb ≠ h0 + 1 + 1
 news : ∀ b ∈ [p, tb, k, K.tb, all] ++ K.fv.ownBlock.toList ++ J.av.ownBlock.toList ++ J.ev.ownBlock.toList ++ J.lv.ownBlock.toList, L <= b
 low : t < L /\ h0 + 1 + 1 < L /\ g <= L
section
variable {Y Y' : World} {L g t h0 k p tb all : Nat} {jc : Array Value} {J : PS} {K : KS} {D : Nat -> Value} {pk : Value}
theorem Mid.same (h : Mid Y L g jc t h0 k p tb all J K D pk) (hT : Turns [] Y Y') : Mid Y' L g jc t h0 k p tb all J K D pk :=
 { job := (hT.block _ h.job.lt (by simp)).trans h.job, res := (hT.block _ h.res.lt (by simp)).trans h.res, proc := h.proc.turns hT (by simp), kern := h.kern.turns hT (by simp)
   table := (hT.block _ (Blk.lt h.table) (by simp)).trans h.table, tree := h.tree.turns hT (by simp), crowd := (hT.block _ h.crowd.lt (by simp)).trans h.crowd, sep := h.sep, news := h.news, low := h.low }
theorem Mid.one {q : Nat} {e : TypeId} {cs : Array Value} (h : Mid Y L g jc t h0 k p tb all J K D pk) (hq : Blk Y q e cs) (he : e = 85 \/ e = 150 \/ e = 89) (hT : Turns [q] Y Y') {J' : PS} {D' : Nat -> Value} {pk' : Value}
 (hp : ProcOf Y' p J') (htb : TableOf Y' tb k D') (hal : Blk Y' all 89 #[.slice none 0 0, pk', .int .i64 (-1)]) (hJ : J'.av = J.av /\ J'.ev = J.ev /\ J'.lv = J.lv) : Mid Y' L g jc t h0 k p tb all J' K D' pk' := by
 have off : ∀ {ty : TypeId} {cs' : Array Value} {b : Nat}, Blk Y b ty cs' -> e ≠ ty -> Blk Y' b ty cs' := fun hb h => (hT.block _ hb.lt (by rw [List.mem_singleton]; exact (Blk.ne_ hq hb h).symm)).trans hb
 have ne : ∀ ty, (ty = 30 \/ ty = 36 \/ ty = 142 \/ ty = 44 \/ ty = 169 \/ ty = 179 \/ ty = 5) -> e ≠ ty := by
  intro ty h1
  rcases he with rfl | rfl | rfl <;> rcases h1 with rfl | rfl | rfl | rfl | rfl | rfl | rfl <;> decide
 exact {
  job := off h.job (ne _ (by simp)), res := off h.res (ne _ (by simp)), proc := hp, table := htb, crowd := hal, sep := h.sep, low := h.low
  kern := h.kern.turns hT fun b hb hm => h.kern.off hq (ne _ (by simp)) (ne _ (by simp)) ((List.mem_singleton.1 hm) ▸ hb)
  tree := h.tree.turns hT (NoTree.one' hq ⟨ne _ (by simp), ne _ (by simp), ne _ (by simp)⟩)
  news := by rw [hJ.1, hJ.2.1, hJ.2.2]; exact h.news }
theorem Mid.kernel (h : Mid Y L g jc t h0 k p tb all J K D pk) (hT : Turns [k, K.tb] Y Y') {K' : KS} (hk : KernOf Y' k K') (hK : K'.tb = K.tb /\ K'.fv = K.fv) : Mid Y' L g jc t h0 k p tb all J K' D pk := by
 have off : ∀ {ty : TypeId} {cs' : Array Value} {b : Nat}, Blk Y b ty cs' -> ty ≠ 142 -> Blk Y' b ty cs' := fun hb h1 => (hT.block _ hb.lt (by
  simp only [List.mem_cons, List.not_mem_nil, or_false, not_or]
  exact ⟨Blk.ne_ hb h.kern.blk h1, (h.kern.things.blk_ne hb).symm⟩)).trans hb
 have hpk : ∀ b ∈ J.foot p, b ∉ [k, K.tb] := by
  intro b hb hm
  simp only [List.mem_cons, List.not_mem_nil, or_false] at hm
  rcases hm with rfl | rfl
  · exact h.proc.off h.kern.blk (by decide) (by decide) (by decide) hb
  · simp only [PS.foot, List.mem_append, List.mem_cons, List.not_mem_nil, or_false, Option.mem_toList] at hb
    rcases hb with ((e | hb) | hb) | hb
    · exact h.kern.things.blk_ne h.proc.blk e
    · exact h.kern.things.own_ne h.proc.args hb
    · exact h.kern.things.own_ne h.proc.env hb
    · exact h.kern.things.own_ne h.proc.log hb
 have htr : TreeOf Y' t (emptyT h0) := by
  have hmk : ∀ {q : TypeId} {b n : Nat} {f : Lit -> Option Value}, MapOf Y Tryz.prog q b n f -> K.tb ≠ b -> MapOf Y' Tryz.prog q b n f := fun hm hne => hm.same (hT.block _ hm.lt (by
   simp only [List.mem_cons, List.not_mem_nil, or_false, not_or]
   exact ⟨fun e => hm.blk_ne h.kern.blk e, fun e => hne e.symm⟩))
  refine ⟨off h.tree.blk (by decide), hmk h.tree.files h.sep.2, fun b x hx => ?_, h.tree.apart⟩
  have hbx : b = h0 + 1 /\ x = rootItem h0 := by
   simp only [emptyT] at hx
   split at hx
   · exact ⟨by assumption, by simpa using hx.symm⟩
   · cases hx
  obtain ⟨rfl, rfl⟩ := hbx
  have e0 := h.tree.item _ _ hx
  exact ⟨off e0.1 (by decide), OffRow.nil _ _ _, fun hd => ⟨hmk (e0.2.2 hd).1 h.sep.1, (e0.2.2 hd).2⟩⟩
 exact { job := off h.job (by decide), res := off h.res (by decide), proc := h.proc.turns hT hpk, table := off h.table (by decide), crowd := off h.crowd (by decide), kern := hk, tree := htr, sep := by rw [hK.1]; exact h.sep, low := h.low, news := by rw [hK.1, hK.2]; exact h.news }
end
def Flow.first (inb : List UInt8) (sv : Value) : Flow := { steps := 0, held := 0, peak := 0, sv := sv, inb := inb, val := fun _ => .slice none 0 0, said := fun _ => [], used := 0 }
theorem emptyT_keep {Y Y' : World} {t h0 : Nat} (h : TreeOf Y t (emptyT h0)) (hb : ∀ b, b = t \/ b = h0 \/ b = h0 + 1 \/ b = h0 + 1 + 1 -> Y'.heap[b]? = Y.heap[b]?) : TreeOf Y' t (emptyT h0) := by
 refine ⟨(hb t (.inl rfl)).trans h.blk, h.files.same (hb _ (.inr (.inr (.inr rfl)))), fun b x hx => ?_, h.apart⟩
 have e0 := h.item b x hx
 have hbx : b = h0 + 1 /\ x = rootItem h0 := by
  simp only [emptyT] at hx
  split at hx
  · exact ⟨by assumption, by simpa using hx.symm⟩
  · cases hx
 obtain ⟨rfl, rfl⟩ := hbx
 exact ⟨(hb _ (.inr (.inr (.inl rfl)))).trans e0.1, OffRow.nil _ _ _, fun hd => ⟨(e0.2.2 hd).1.same (hb _ (.inr (.inl rfl))), (e0.2.2 hd).2⟩⟩
section
variable {Y : World} {L g t h0 k p tb all : Nat} {jc : Array Value} {J : PS} {K : KS} {D : Nat -> Value} {pk : Value}
def mkJob (p : Nat) (J : PS) (K : KS) (sb so se : Nat) : Job := { p := p, B := J, K := K, src := sb, sink := fun b => if b then so else se }
theorem Mid.jobOf (M : Mid Y L g jc t h0 k p tb all J K D pk) (hk : J.k = k) (ht : J.tb = tb) (hz : J.steps = 0 /\ J.held = 0 /\ J.peak = 0 /\ J.may = true /\ J.top = true /\ J.at_ = 0 /\ J.log = []) {sb so se base : Nat} {sv : Value} {inb : List UInt8}
 (hs : Blk Y sb 159 #[sv]) (hr : OffRow Y base 5 sv inb.length (bytesC inb)) (h1 : SinkAt Y so (.slice none 0 0)) (h2 : SinkAt Y se (.slice none 0 0)) (hne : so ≠ se)
 (hD : ∀ i, i < 16 -> D i = (mkJob p J K sb so se).D i) (hf : K.used = 0) (t2 : K.tf (numK 2) = some (sinkV so)) (t3 : K.tf (numK 3) = some (sinkV se)) : JobOf Y (mkJob p J K sb so se) (Flow.first inb sv) where
 proc := by
  have e : (mkJob p J K sb so se).J (Flow.first inb sv) = J := by
   obtain ⟨a, b, c, _⟩ := hz
   cases J
   simp only [mkJob, Job.J, Flow.first] at a b c ⊢
   subst a b c
   rfl
  rw [e]; exact M.proc
 kern := by
  show KernOf Y J.k { K with used := 0 }
  rw [hk, show ({ K with used := 0 } : KS) = K by rw [<- hf]]
  exact M.kern
 table := by show TableOf Y J.tb J.k _; rw [hk, ht]; exact M.table.congr hD
 may := hz.2.2.2.1
 top := hz.2.2.2.2.1
 at_ := hz.2.2.2.2.2.1
 log := hz.2.2.2.2.2.2
 src := hs
 inp := hr.mono (Nat.zero_le _)
 sink := fun b => by cases b; exact h2; exact h1
 row := fun b => OffRow.nil _ _ _
 sinks := hne
 rows := fun _ hg => by simp [Flow.first, Value.ownBlock] at hg
 inrow := fun _ _ _ hg => by simp [Flow.first, Value.ownBlock] at hg
 thing := fun b => by cases b; exact t3; exact t2
theorem Mid.foot (M : Mid Y L g jc t h0 k p tb all J K D pk) (hk : J.k = k) (ht : J.tb = tb) {sb so se base : Nat} {sv : Value} {inb : List UInt8} (hr : OffRow Y base 5 sv inb.length (bytesC inb)) (hb : L <= base) (h1 : L <= sb) (h2 : L <= so) (h3 : L <= se) :
 ∀ b ∈ (mkJob p J K sb so se).foot (Flow.first inb sv), L <= b := by
 intro b hb'
 have hn := M.news b
 have on : (Value.slice none 0 0).ownBlock = none := rfl
 simp only [Job.foot, mkJob, PS.foot, KS.foot, Flow.first, hk, ht, on, Option.mem_toList, reduceCtorEq, List.mem_append, List.mem_cons, List.not_mem_nil, or_false, if_true, Bool.false_eq_true, if_false] at hb' hn
 rcases hb' with (((((rfl | h) | h) | h) | ((rfl | rfl) | h)) | rfl | rfl | rfl | rfl) | h
 · exact hn (by simp)
 · exact hn (by simp [h])
 · exact hn (by simp [h])
 · exact hn (by simp [h])
 · exact hn (by simp)
 · exact hn (by simp)
 · exact hn (by simp [h])
 · exact hn (by simp)
 · exact h1
 · exact h2
 · exact h3
 · have := (hr.lt h).1
   omega
end
section
theorem resKeep {w : World} {m p g : Nat} {a b c : Option Value} (h1 : m ≠ g) (h2 : p ≠ g) (h : w.cell? ⟨m, 3, none⟩ = a /\ w.cell? ⟨p, 15, none⟩ = b /\ w.cell? ⟨p, 9, none⟩ = c) (v0 v1 v2 v3 v4 v5 v6 : Value) :
 (((((((w.setCell ⟨g, 0, none⟩ v0).setCell ⟨g, 1, none⟩ v1).setCell ⟨g, 2, none⟩ v2).setCell ⟨g, 3, none⟩ v3).setCell ⟨g, 4, none⟩ v4).setCell ⟨g, 5, none⟩ v5).setCell ⟨g, 6, none⟩ v6).cell? ⟨m, 3, none⟩ = a /\
 (((((((w.setCell ⟨g, 0, none⟩ v0).setCell ⟨g, 1, none⟩ v1).setCell ⟨g, 2, none⟩ v2).setCell ⟨g, 3, none⟩ v3).setCell ⟨g, 4, none⟩ v4).setCell ⟨g, 5, none⟩ v5).setCell ⟨g, 6, none⟩ v6).cell? ⟨p, 15, none⟩ = b /\
 (((((((w.setCell ⟨g, 0, none⟩ v0).setCell ⟨g, 1, none⟩ v1).setCell ⟨g, 2, none⟩ v2).setCell ⟨g, 3, none⟩ v3).setCell ⟨g, 4, none⟩ v4).setCell ⟨g, 5, none⟩ v5).setCell ⟨g, 6, none⟩ v6).cell? ⟨p, 9, none⟩ = c := by
 have f : ∀ (W : World) (i : Nat) (v : Value) (q : Addr), q.block ≠ g -> (W.setCell ⟨g, i, none⟩ v).cell? q = W.cell? q := fun W i v q hq => World.cell?_of_block (Below.heap_setCell W ⟨g, i, none⟩ v q.block hq)
 refine ⟨?_, ?_, ?_⟩
 · rw [f _ _ _ _ h1, f _ _ _ _ h1, f _ _ _ _ h1, f _ _ _ _ h1, f _ _ _ _ h1, f _ _ _ _ h1, f _ _ _ _ h1]; exact h.1
 · rw [f _ _ _ _ h2, f _ _ _ _ h2, f _ _ _ _ h2, f _ _ _ _ h2, f _ _ _ _ h2, f _ _ _ _ h2, f _ _ _ _ h2]; exact h.2.1
 · rw [f _ _ _ _ h2, f _ _ _ _ h2, f _ _ _ _ h2, f _ _ _ _ h2, f _ _ _ _ h2, f _ _ _ _ h2, f _ _ _ _ h2]; exact h.2.2
theorem set7 {w : World} {g : Nat} {t : TypeId} {a0 a1 a2 a3 a4 a5 a6 : Value} (h : Blk w g t #[a0, a1, a2, a3, a4, a5, a6]) (v0 v1 v2 v3 v4 v5 v6 : Value) : Blk (((((((w.setCell ⟨g, 0, none⟩ v0).setCell ⟨g, 1, none⟩ v1).setCell ⟨g, 2, none⟩ v2).setCell ⟨g, 3, none⟩ v3).setCell ⟨g, 4, none⟩ v4).setCell ⟨g, 5, none⟩ v5).setCell ⟨g, 6, none⟩ v6) g t #[v0, v1, v2, v3, v4, v5, v6] := by
 have h0 : Blk _ g t #[v0, a1, a2, a3, a4, a5, a6] := h.set_ 0 v0
 have h1 : Blk _ g t #[v0, v1, a2, a3, a4, a5, a6] := h0.set_ 1 v1
 have h2 : Blk _ g t #[v0, v1, v2, a3, a4, a5, a6] := h1.set_ 2 v2
 have h3 : Blk _ g t #[v0, v1, v2, v3, a4, a5, a6] := h2.set_ 3 v3
 have h4 : Blk _ g t #[v0, v1, v2, v3, v4, a5, a6] := h3.set_ 4 v4
 have h5 : Blk _ g t #[v0, v1, v2, v3, v4, v5, a6] := h4.set_ 5 v5
 exact h5.set_ 6 v6
theorem cells7 {w : World} {g : Nat} {t : TypeId} {a0 a1 a2 a3 a4 a5 a6 : Value} (h : Blk w g t #[a0, a1, a2, a3, a4, a5, a6]) : w.cell? ⟨g, 0, none⟩ = some a0 /\ w.cell? ⟨g, 1, none⟩ = some a1 /\ w.cell? ⟨g, 2, none⟩ = some a2 /\ w.cell? ⟨g, 3, none⟩ = some a3 /\ w.cell? ⟨g, 4, none⟩ = some a4 /\ w.cell? ⟨g, 5, none⟩ = some a5 /\ w.cell? ⟨g, 6, none⟩ = some a6 :=
 ⟨h.cell 0, h.cell 1, h.cell 2, h.cell 3, h.cell 4, h.cell 5, h.cell 6⟩
theorem far7 {w : World} {g b : Nat} (h : b ≠ g) (v0 v1 v2 v3 v4 v5 v6 : Value) : (((((((w.setCell ⟨g, 0, none⟩ v0).setCell ⟨g, 1, none⟩ v1).setCell ⟨g, 2, none⟩ v2).setCell ⟨g, 3, none⟩ v3).setCell ⟨g, 4, none⟩ v4).setCell ⟨g, 5, none⟩ v5).setCell ⟨g, 6, none⟩ v6).heap[b]? = w.heap[b]? := by
 rw [Below.heap_setCell _ _ _ _ h, Below.heap_setCell _ _ _ _ h, Below.heap_setCell _ _ _ _ h, Below.heap_setCell _ _ _ _ h, Below.heap_setCell _ _ _ _ h, Below.heap_setCell _ _ _ _ h, Below.heap_setCell _ _ _ _ h]
theorem below7 {B g : Nat} {a w : World} (h : Below B a w) (hg : B <= g) (v0 v1 v2 v3 v4 v5 v6 : Value) : Below B a (((((((w.setCell ⟨g, 0, none⟩ v0).setCell ⟨g, 1, none⟩ v1).setCell ⟨g, 2, none⟩ v2).setCell ⟨g, 3, none⟩ v3).setCell ⟨g, 4, none⟩ v4).setCell ⟨g, 5, none⟩ v5).setCell ⟨g, 6, none⟩ v6) :=
 ((((((h.setCell (p := ⟨g, 0, none⟩) hg _).setCell (p := ⟨g, 1, none⟩) hg _).setCell (p := ⟨g, 2, none⟩) hg _).setCell (p := ⟨g, 3, none⟩) hg _).setCell (p := ⟨g, 4, none⟩) hg _).setCell (p := ⟨g, 5, none⟩) hg _).setCell (p := ⟨g, 6, none⟩) hg _
end
end
end Go.Proofs.YtffffjngodinnaaGreatDoor
