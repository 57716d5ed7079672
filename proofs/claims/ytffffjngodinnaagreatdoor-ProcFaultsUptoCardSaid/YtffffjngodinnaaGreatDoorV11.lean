/-
  Parts of the proof: A loop over an iterator that may go through iterators of its own (a walk over a tree), whose body always goes on. What a round keeps is told by the kind of block: rows and boxes of what the loop gathers may turn, and the records of loops that began ahead of the iterator; A map whose keys are pointers to items: looked into, and added to.
-/
import Derived.Test.YtffffjngodinnaaGreatDoorV02
import Derived.Test.YtffffjngodinnaaGreatDoorV07
import Derived.Test.YtffffjngodinnaaGreatDoorV09
import Derived.LaidEql

section
namespace Go.Proofs.YtffffjngodinnaaGreatDoor
open Go.RowKit

/-- the blocks that a round lets lie: all but the cells of the two types tb, tr (the box and the rows of what is gathered) and the records of loops ahead of B -/
def Lies (tb tr : TypeId) (B k : Nat) : Obj → Prop
  | .cells _ t _ => t ≠ tb ∧ t ≠ tr
  | .loop _ => B ≤ k
  | _ => True
structure Stay (tb tr : TypeId) (B : Nat) (W W' : World) : Prop where
  size : W.heap.size ≤ W'.heap.size
  same : ∀ (k : Nat) (o : Obj), W.heap[k]? = some o → Lies tb tr B k o → W'.heap[k]? = some o
section
variable {tb tr : TypeId} {B B' : Nat} {W W' W'' : World}
theorem Stay.refl (W : World) : Stay tb tr B W W := ⟨Nat.le_refl _, fun _ _ h _ => h⟩
theorem Stay.trans (h : Stay tb tr B W W') (k : Stay tb tr B W' W'') : Stay tb tr B W W'' := ⟨Nat.le_trans h.size k.size, fun i o hi ho => k.same i o (h.same i o hi ho) ho⟩
theorem Stay.more (h : Stay tb tr B W W') (hB : B ≤ B') : Stay tb tr B' W W' := ⟨h.size, fun i o hi ho => h.same i o hi (by cases o <;> first | exact ho | exact Nat.le_trans hB ho)⟩
theorem Stay.of_below {n : Nat} (h : Below n W W') (hn : W.heap.size ≤ n) : Stay tb tr B W W' := ⟨h.size, fun k _ hk _ => (h.block k (Nat.lt_of_lt_of_le (Array.getElem?_eq_some_iff.1 hk).1 hn)).trans hk⟩
theorem Stay.grown {row : Option Nat} (hg : W.grownBy W' row) (hr : ∀ r, row = some r → ∀ o, W.heap[r]? = some o → ¬ Lies tb tr B r o) : Stay tb tr B W W' :=
  ⟨hg.size, fun k o hk ho => (hg.block k (Array.getElem?_eq_some_iff.1 hk).1 (fun e => hr k e.symm o hk ho)).trans hk⟩
theorem Stay.loop {l : Nat} {r : Loop} (h : W.heap[l]? = some (.loop r)) (o' : Obj) (hl : l < B) : Stay tb tr B W (W.putObj l o') :=
  Stay.grown (grownBy_putObj' W l o') (fun q e _ ho hL => by cases e; rw [h] at ho; cases ho; exact absurd hL (Nat.not_le.2 hl))
theorem Stay.blk (h : Stay tb tr B W W') {b : Nat} {t : TypeId} {cs : Array Value} (hb : Blk W b t cs) (h1 : t ≠ tb) (h2 : t ≠ tr) : Blk W' b t cs := h.same _ _ hb ⟨h1, h2⟩
end

/-- an iterator that yields xs, one by one, and may go through iterators of its own -/
def SeqDeep {α : Type} (tb tr : TypeId) (F : Fence) (n : Nat) (P : Program) (g : Nat) (lb : Array Value) (encs : α → Array Value) (xs : List α) (w : World) : Prop :=
  ∀ (l : Nat) (J : List α → World → Prop) (W : World), Below w.heap.size w W →
    (∀ s X Y row, J s X → X.grownBy Y row → (∀ r, row = some r → W.heap.size ≤ r ∧ ∃ o : Obj, X.heap[r]? = some o ∧ o.isCells = false) → J s Y) →
    (∀ pre x W1 m, pre ++ [x] <+: xs → J pre W1 → YieldAt F m P l (encs x) W1 fun e W' => e = .returned (.bool true) ∧ J (pre ++ [x]) W' ∧ Stay tb tr W.heap.size W1 W') →
    J [] W →
    CallsIn F n P g (#[.func (.yield l) #[] #[]] ++ lb) W fun e W' => (∃ v, e = .returned v) ∧ J xs W'

/-- what is said abides a turn of what is no cells and lies at or beyond B -/
def DeepOwn {β : Type} (B : Nat) (I : β → World → Prop) : Prop :=
  ∀ s W W' row, I s W → W.grownBy W' row → (∀ r, row = some r → B ≤ r ∧ ∃ o : Obj, W.heap[r]? = some o ∧ o.isCells = false) → I s W'
theorem DeepOwn.putObj {β : Type} {B : Nat} {I : β → World → Prop} (h : DeepOwn B I) {s : β} {W : World} {l : Nat} {o : Obj} (o' : Obj) (hs : I s W) (hB : B ≤ l) (hl : W.heap[l]? = some o) (ho : o.isCells = false) : I s (W.putObj l o') :=
  h s W _ (some l) hs (grownBy_putObj' W l o') (fun r e => by cases e; exact ⟨hB, o, hl, ho⟩)
theorem DeepOwn.alloc {β : Type} {B : Nat} {I : β → World → Prop} (h : DeepOwn B I) {s : β} {W : World} (o : Obj) (hs : I s W) : I s (W.alloc o) :=
  h s W _ none hs (World.grownBy_alloc W o none) (fun r e => by cases e)

/-- how a round's body ends: it goes on -/
def deepPost {α : Type} (tb tr : TypeId) (B : Nat) (I : List α → World → Prop) (xs : List α) (W : World) : Exit → Act → World → Prop
  | .normal, _, W' => Stay tb tr B W W' ∧ I xs W'
  | _, _, _ => False

variable {F : Fence} {n : Nat} {P : Program}

theorem RoundIn.noDepth {F : Fence} (hd : F.depth = none) {m m' : Nat} {P : Program} {l : Nat} {f : FuncId} {tmps : Array Value} {assign body : Code} {w : World} {R : Ending → World → Prop}
    (h : RoundIn F m P l f tmps assign body w R) : RoundIn F m' P l f tmps assign body w R := ⟨h.1, fun c cs _ => h.2 c cs (fun d hd' => by rw [hd] at hd'; cases hd')⟩

set_option maxHeartbeats 1000000 in
theorem wpIn_rangeFunc_deep {α : Type} {tb tr : TypeId} {g : Operand} {ps : Array Tmp} {assign body : Code} {Q : Exit → Act → World → Prop} {a : Act} {w : World}
    (hro : F.round = none) (hdep : F.depth = none) {gf : Nat} {lb : Array Value} (hg : a.eval g = .func (.func gf) #[] lb) (hFg : F.fn gf) (eg : ∀ args w, (callFunc gf args).run P w = .ok (.enter gf args) w)
    {encs : α → Array Value} {xs : List α} {w0 : World} (hseq : SeqDeep tb tr F (n - 1) P gf lb encs xs w0)
    (hb0 : Below w0.heap.size w0 w) (hps : ∀ x, (encs x).size = ps.size)
    (I : List α → World → Prop) (hI : DeepOwn w.heap.size I) (h0 : I [] w) (a₁ : α → Act)
    (hassign : ∀ (l : Nat) (x : α) (W : World) (K : Act → World → Prop), K (a₁ x) W →
      assign.wpIn (F.inRound l) (n - 1 - 1) P (Exit.then K (fun _ _ _ => False)) { tmps := (ps.zip (encs x)).foldl (fun t (p, v) => t.setIfInBounds p v) a.tmps, defers := [] } W)
    (hbody : ∀ (l : Nat) (pre : List α) (x : α) (W : World), w.heap.size ≤ l → pre ++ [x] <+: xs → I pre W → body.wpIn (F.inRound l) (n - 1 - 1) P (deepPost tb tr w.heap.size I (pre ++ [x]) W) (a₁ x) W)
    (hdone : ∀ (D : Nat) (W : World), w.heap.size ≤ D → I xs W → W.heap[D]? = some (.deferred (some [])) → Q .normal { a with defers := { target := .collected D, args := #[] } :: a.defers } W) :
    (Code.rangeFunc g ps assign body).wpIn F n P Q a w := by
  refine wpIn_rangeFunc fun fn hfn => ?_
  rw [hro]
  obtain ⟨rec, hrec⟩ : ∃ rec : LoopState → Option Code → Loop, rec = fun st pe => { state := st, pending := pe, fn, tmps := a.tmps, params := ps, assign, body, defers := w.heap.size } := ⟨_, rfl⟩
  obtain ⟨W1, hW1⟩ : ∃ W1, (w.alloc (.deferred (some []))).alloc (.loop (rec .ready none)) = W1 := ⟨_, rfl⟩
  have hL : W1.heap[w.heap.size + 1]? = some (.loop (rec .ready none)) := by
    have h := World.alloc_heap_new (w.alloc (.deferred (some []))) (.loop (rec .ready none))
    rw [World.size_alloc, hW1] at h
    exact h
  have hD : W1.heap[w.heap.size]? = some (.deferred (some [])) := by
    rw [← hW1]
    exact (Below.heap_alloc _ _ _ (by simp)).trans (World.alloc_heap_new w _)
  have hs1 : W1.heap.size = w.heap.size + 1 + 1 := by rw [← hW1]; simp
  have hb1 : Below w0.heap.size w0 W1 := by
    rw [← hW1]
    exact hb0.trans ((((Below.refl _ w).alloc (Nat.le_refl _) _).alloc (by simp) _).mono hb0.size)
  have hI1 : I [] W1 := by rw [← hW1]; exact hI.alloc _ (hI.alloc _ h0)
  refine ⟨w.heap.size + 1, [{ target := .collected w.heap.size, args := #[] }], W1, { target := .fn (.func gf) lb, args := #[.func (.yield (w.heap.size + 1)) #[] #[]] }, W1, gf,
    #[.func (.yield (w.heap.size + 1)) #[] #[]] ++ lb, W1, ?_, ?_, ?_, ?_, fun h => (by rw [hdep] at h; cases h), ?_⟩
  · rw [← hW1, hrec]; exact run_enterLoop_outer _ _ _ _ _
  · simp only [resolve, hg]
    simp [go_sem]
  · intro f' hf'
    simp [Target.leads] at hf'
    subst hf'
    exact hFg
  · simp [invoke, go_sem, eg]
  · have far : ∀ {X Y : World} {row : Option Nat} {k : Nat} {o : Obj}, k ≤ w.heap.size + 1 → X.heap[k]? = some o → X.grownBy Y row → (∀ r, row = some r → W1.heap.size ≤ r ∧ ∃ o : Obj, X.heap[r]? = some o ∧ o.isCells = false) → Y.heap[k]? = some o := by
      intro X Y row k o hk hX hgr hr
      refine (hgr.block k (Array.getElem?_eq_some_iff.1 hX).1 fun e => ?_).trans hX
      have := (hr k e.symm).1
      omega
    refine (hseq (w.heap.size + 1)
      (fun pre W => I pre W ∧ W.heap[w.heap.size + 1]? = some (.loop (rec .ready none)) ∧ W.heap[w.heap.size]? = some (.deferred (some [])))
      W1 hb1
      (fun s X Y row hs hgr hr => ⟨hI s X Y row hs.1 hgr (fun r e => ⟨by have := (hr r e).1; omega, (hr r e).2⟩), far (by omega) hs.2.1 hgr hr, far (by omega) hs.2.2 hgr hr⟩)
      ?_ ⟨hI1, hL, hD⟩).mono ?_
    · rintro pre x W m hT ⟨hi, hl, hk⟩
      have hlt : w.heap.size + 1 < W.heap.size := (Array.getElem?_eq_some_iff.1 hl).1
      have hy := run_yield (P := P) (args := encs x) hl (by rw [hrec]; exact hps x)
      rw [hrec] at hy
      refine ⟨fn, _, assign, body, hy, RoundIn.noDepth hdep (m := n - 1 - 1) (roundIn_of_wpIn hfn (hassign _ x W _ ?_))⟩
      refine ⟨_, run_beginRound hl (by rw [hrec]), ?_⟩
      have hl2 : (W.putObj (w.heap.size + 1) (.loop { rec .ready none with state := .busy })).heap[w.heap.size + 1]? = some (.loop { rec .ready none with state := .busy }) := World.putObj_heap_same hlt
      have hk2 : (W.putObj (w.heap.size + 1) (.loop { rec .ready none with state := .busy })).heap[w.heap.size]? = some (.deferred (some [])) := (World.putObj_heap_other (by omega)).trans hk
      have hw2 : Stay tb tr W1.heap.size W (W.putObj (w.heap.size + 1) (.loop { rec .ready none with state := .busy })) := Stay.loop hl _ (by omega)
      refine wpIn_mono (hbody _ pre x _ (by omega) hT (hI.putObj _ hi (by omega) hl rfl)) ?_
      rintro e a3 W3 hp
      cases e with
      | normal =>
        obtain ⟨hk3, hi3⟩ := hp
        have hl3 := hk3.same _ _ hl2 (show w.heap.size ≤ _ by omega)
        have hd3 := hk3.same _ _ hk2 trivial
        have hr := run_endRound (P := P) none hl3
        rw [hrec] at hr hl3
        refine ⟨_, _, hr, rfl, ⟨hI.putObj _ hi3 (by omega) hl3 rfl, ?_, ?_⟩, (hw2.trans (hk3.more (by omega))).trans (Stay.loop hl3 _ (by omega))⟩
        · rw [hrec]; exact World.putObj_heap_same (Array.getElem?_eq_some_iff.1 hl3).1
        · exact (World.putObj_heap_other (by omega)).trans hd3
      | ret => exact hp.elim
      | exit id => exact hp.elim
      | goto t => exact hp.elim
      | panic ch => exact hp.elim
      | outgrown => exact hp.elim
    · rintro e W2 ⟨⟨v, rfl⟩, hi, hl, hk⟩
      have hr := run_endLoop (P := P) hl (by rw [hrec]; simp)
      rw [hrec] at hr
      exact ⟨none, _, hr, hdone _ _ (Nat.le_refl _) (hI.putObj _ hi (by omega) hl rfl) ((World.putObj_heap_other (by omega)).trans hk)⟩

end Go.Proofs.YtffffjngodinnaaGreatDoor
end

section
namespace Go.Proofs.YtffffjngodinnaaGreatDoor
open Go.RowKit Go.Maps

/-- block b is a map whose entries, in the order in which they came, are L: a block, and a value -/
def PtrMap (w : World) (b : Nat) (L : List (Nat × Value)) : Prop :=
  ∃ es clock, w.heap[b]? = some (.map es clock) ∧ es.toList.map (fun e => (e.key, e.val)) = L.map fun p => (ptrV p.1, p.2)
def lkP (L : List (Nat × Value)) (g : Nat) : Option Value := (L.find? fun p => p.1 == g).map (·.2)

theorem Tryz.infoItemP : (Tryz.prog.info? 179).map (·.size) = some 9 := by kernel_rfl
theorem equal_item_same (w : World) (g : Nat) : (Op.equal 166 (ptrV g) (ptrV g)).run Tryz.prog w = .ok true w := by
  obtain ⟨j, hj, hs⟩ := Option.map_eq_some_iff.1 Tryz.infoItemP
  have h : ∀ d : Nat, (Op.equalIn (d + 1) 166 (ptrV g) (ptrV g)).run Tryz.prog w = .ok true w := fun d => by
    simp [ptrV, Op.equalIn, run_underlying Tryz.underlying166, sizeOf, typeInfo, hj, run_sameAddr_same]
  simp only [Op.equal, Op.maxDepth, h 9999]
theorem equal_item_other {w : World} {g h : Nat} (hne : g ≠ h) {c c' : Array Value} {t t' : TypeId} (hg : Blk w g t c) (hh : Blk w h t' c') : (Op.equal 166 (ptrV g) (ptrV h)).run Tryz.prog w = .ok false w := by
  obtain ⟨j, hj, hs⟩ := Option.map_eq_some_iff.1 Tryz.infoItemP
  have hadr : (⟨g, 0, none⟩ : Addr) ≠ ⟨h, 0, none⟩ := fun e => hne (by injection e)
  have h : ∀ d : Nat, (Op.equalIn (d + 1) 166 (ptrV g) (ptrV h)).run Tryz.prog w = .ok false w := fun d => by
    simp [ptrV, Op.equalIn, run_underlying Tryz.underlying166, sizeOf, typeInfo, hj, hs, run_sameAddr_other w hadr hg hh]
  simp only [Op.equal, Op.maxDepth, h 9999]

theorem findAsking_ptr {w : World} {g : Nat} {c : Array Value} {t : TypeId} (hg : Blk w g t c) : ∀ (es : List MapEntry) (L : List (Nat × Value)) (i : Nat), es.map (fun e => (e.key, e.val)) = L.map (fun p => (ptrV p.1, p.2)) → (∀ p ∈ L, ∃ c t, Blk w p.1 t c) →
    (lkP L g = none ∧ (Instr.findAsking 166 (ptrV g) es i).run Tryz.prog w = .ok none w) ∨ ∃ j v, lkP L g = some v ∧ (Instr.findAsking 166 (ptrV g) es i).run Tryz.prog w = .ok (some (j, v)) w
  | [], [], i, _, _ => .inl ⟨rfl, by simp [Instr.findAsking]⟩
  | [], p :: L, i, h, _ => by simp at h
  | e :: es, [], i, h, _ => by simp at h
  | e :: es, p :: L, i, h, hL => by
    simp only [List.map_cons, List.cons.injEq, Prod.mk.injEq] at h
    obtain ⟨⟨h1, h2⟩, h3⟩ := h
    by_cases hp : p.1 = g
    · refine .inr ⟨i, p.2, by simp [lkP, hp], ?_⟩
      simp [Instr.findAsking, h1, h2, hp, equal_item_same, Result.andThen]
    · obtain ⟨c', t', hb⟩ := hL p (by simp)
      have hne : g ≠ p.1 := fun e => hp e.symm
      have ih := findAsking_ptr hg es L (i + 1) h3 (fun q hq => hL q (List.mem_cons_of_mem _ hq))
      have hl : lkP (p :: L) g = lkP L g := by
        unfold lkP
        rw [List.find?_cons_of_neg (by simpa using hp)]
      rw [hl]
      have hrun : (Instr.findAsking 166 (ptrV g) (e :: es) i).run Tryz.prog w = (Instr.findAsking 166 (ptrV g) es (i + 1)).run Tryz.prog w := by
        simp [Instr.findAsking, h1, equal_item_other hne hg hb, Result.andThen]
      rw [hrun]
      exact ih

theorem findKey_ptr {w : World} {g : Nat} {c : Array Value} {t : TypeId} (hg : Blk w g t c) (es : List MapEntry) (L : List (Nat × Value)) (h : es.map (fun e => (e.key, e.val)) = L.map (fun p => (ptrV p.1, p.2))) (hL : ∀ p ∈ L, ∃ c t, Blk w p.1 t c) :
    (lkP L g = none ∧ (Instr.findKey 166 (ptrV g) es).run Tryz.prog w = .ok none w) ∨ ∃ j v, lkP L g = some v ∧ (Instr.findKey 166 (ptrV g) es).run Tryz.prog w = .ok (some (j, v)) w := by
  have hk : (Instr.findKey 166 (ptrV g) es).run Tryz.prog w = (Instr.findAsking 166 (ptrV g) es 0).run Tryz.prog w := by
    cases es with
    | nil => simp [Instr.findKey, run_underlying Tryz.underlying166, Instr.findNow, Instr.findAsking, Result.andThen]
    | cons e es => simp [Instr.findKey, run_underlying Tryz.underlying166, Instr.findNow, Instr.sameNow, Result.andThen]
  rw [hk]
  exact findAsking_ptr hg es L 0 h hL

section
variable {w : World} {b g : Nat} {L : List (Nat × Value)} {c : Array Value} {t : TypeId}
theorem checkKey_ptr (em : Bool) (w : World) (g : Nat) : (Instr.checkKey em 10000 166 (ptrV g)).run Tryz.prog w = .ok () w := by
  unfold Instr.checkKey ptrV
  simp only [Sem.run_bind, run_underlying Tryz.underlying166, Result.andThen]
  rfl
theorem PtrMap.look (h : PtrMap w b L) (hg : Blk w g t c) (hL : ∀ p ∈ L, ∃ c t, Blk w p.1 t c) :
    (Instr.lookup 176 (.map (some b)) (ptrV g) false).run Tryz.prog w = .ok ((lkP L g).getD (.int .i64 0)) w := by
  obtain ⟨es, clock, hb, he⟩ := h
  have hz : (zeroValue 3).run Tryz.prog w = .ok (.int .i64 0) w := by kernel_rfl
  rcases findKey_ptr hg es.toList L he hL with ⟨h1, h2⟩ | ⟨j, v, h1, h2⟩
  · simp [Instr.lookup, run_underlying Tryz.underlying176, MapKept.run_getObj_map hb, checkKey_ptr, h2, hz, h1, Result.andThen]
  · simp [Instr.lookup, run_underlying Tryz.underlying176, MapKept.run_getObj_map hb, checkKey_ptr, h2, h1, Result.andThen]
theorem PtrMap.put (h : PtrMap w b L) (hg : Blk w g t c) (hL : ∀ p ∈ L, ∃ c t, Blk w p.1 t c) (hn : lkP L g = none) (v : Value) :
    ∃ w', (Instr.mapUpdate 176 (.map (some b)) (ptrV g) v).run Tryz.prog w = .ok () w' ∧ PtrMap w' b (L ++ [(g, v)]) ∧ w.grownBy w' (some b) := by
  obtain ⟨es, clock, hb, he⟩ := h
  have hlt : b < w.heap.size := (Array.getElem?_eq_some_iff.1 hb).1
  rcases findKey_ptr hg es.toList L he hL with ⟨h1, h2⟩ | ⟨j, v, h1, h2⟩
  · refine ⟨w.putObj b (.map (es.push { key := ptrV g, val := v, born := clock }) (clock + 1)), ?_, ⟨_, _, World.putObj_heap_same hlt, ?_⟩, grownBy_putObj' w b _⟩
    · simp [Instr.mapUpdate, run_underlying Tryz.underlying176, MapKept.run_getObj_map hb, checkKey_ptr, h2, Result.andThen, setObj, Sem.run, World.putObj, hb]
    · rw [Array.toList_push, List.map_append, he, List.map_append]
      rfl
  · rw [hn] at h1; cases h1
end

end Go.Proofs.YtffffjngodinnaaGreatDoor
end
