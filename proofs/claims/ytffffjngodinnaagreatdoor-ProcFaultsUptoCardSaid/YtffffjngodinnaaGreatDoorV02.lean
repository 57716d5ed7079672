/-
  Parts of the proof: What a type assertion on an open thing gives. Written by wip/tools/asserts.py; A loop over an iterator that keeps its own state in cells (own: the blocks that it turns between two rounds), whose body always goes on. The kit's laws of the range over a function let the iterator turn no cells; this one lets it turn those that it names.
-/
import Derived.Test.YtffffjngodinnaaGreatDoorChecked
import Derived.WalkKit
import Derived.Laws.LoneSync
import Derived.RangeFuncNested

section
namespace Go.Proofs.YtffffjngodinnaaGreatDoor
@[go_sem] theorem as_out_out (v : Value) (w : World) : (Instr.typeAssert (.iface 227 v) 146 227 true).run Tryz.prog w = .ok (.tuple #[v, .bool true]) w := by kernel_rfl
@[go_sem] theorem as_out_in (v : Value) (w : World) : (Instr.typeAssert (.iface 227 v) 146 230 true).run Tryz.prog w = .ok (.tuple #[.agg #[.pointer none], .bool false]) w := by kernel_rfl
@[go_sem] theorem as_out_file (v : Value) (w : World) : (Instr.typeAssert (.iface 227 v) 146 151 true).run Tryz.prog w = .ok (.tuple #[.pointer none, .bool false]) w := by kernel_rfl
@[go_sem] theorem as_out_sink (v : Value) (w : World) : (Instr.typeAssert (.iface 227 v) 146 160 true).run Tryz.prog w = .ok (.tuple #[.pointer none, .bool false]) w := by kernel_rfl
@[go_sem] theorem as_out_source (v : Value) (w : World) : (Instr.typeAssert (.iface 227 v) 146 157 true).run Tryz.prog w = .ok (.tuple #[.pointer none, .bool false]) w := by kernel_rfl
@[go_sem] theorem as_out_dir (v : Value) (w : World) : (Instr.typeAssert (.iface 227 v) 146 271 true).run Tryz.prog w = .ok (.tuple #[.agg #[], .bool false]) w := by kernel_rfl
@[go_sem] theorem as_in_out (v : Value) (w : World) : (Instr.typeAssert (.iface 230 v) 146 227 true).run Tryz.prog w = .ok (.tuple #[.agg #[.pointer none], .bool false]) w := by kernel_rfl
@[go_sem] theorem as_in_in (v : Value) (w : World) : (Instr.typeAssert (.iface 230 v) 146 230 true).run Tryz.prog w = .ok (.tuple #[v, .bool true]) w := by kernel_rfl
@[go_sem] theorem as_in_file (v : Value) (w : World) : (Instr.typeAssert (.iface 230 v) 146 151 true).run Tryz.prog w = .ok (.tuple #[.pointer none, .bool false]) w := by kernel_rfl
@[go_sem] theorem as_in_sink (v : Value) (w : World) : (Instr.typeAssert (.iface 230 v) 146 160 true).run Tryz.prog w = .ok (.tuple #[.pointer none, .bool false]) w := by kernel_rfl
@[go_sem] theorem as_in_source (v : Value) (w : World) : (Instr.typeAssert (.iface 230 v) 146 157 true).run Tryz.prog w = .ok (.tuple #[.pointer none, .bool false]) w := by kernel_rfl
@[go_sem] theorem as_in_dir (v : Value) (w : World) : (Instr.typeAssert (.iface 230 v) 146 271 true).run Tryz.prog w = .ok (.tuple #[.agg #[], .bool false]) w := by kernel_rfl
@[go_sem] theorem as_file_out (v : Value) (w : World) : (Instr.typeAssert (.iface 151 v) 146 227 true).run Tryz.prog w = .ok (.tuple #[.agg #[.pointer none], .bool false]) w := by kernel_rfl
@[go_sem] theorem as_file_in (v : Value) (w : World) : (Instr.typeAssert (.iface 151 v) 146 230 true).run Tryz.prog w = .ok (.tuple #[.agg #[.pointer none], .bool false]) w := by kernel_rfl
@[go_sem] theorem as_file_file (v : Value) (w : World) : (Instr.typeAssert (.iface 151 v) 146 151 true).run Tryz.prog w = .ok (.tuple #[v, .bool true]) w := by kernel_rfl
@[go_sem] theorem as_file_sink (v : Value) (w : World) : (Instr.typeAssert (.iface 151 v) 146 160 true).run Tryz.prog w = .ok (.tuple #[.pointer none, .bool false]) w := by kernel_rfl
@[go_sem] theorem as_file_source (v : Value) (w : World) : (Instr.typeAssert (.iface 151 v) 146 157 true).run Tryz.prog w = .ok (.tuple #[.pointer none, .bool false]) w := by kernel_rfl
@[go_sem] theorem as_file_dir (v : Value) (w : World) : (Instr.typeAssert (.iface 151 v) 146 271 true).run Tryz.prog w = .ok (.tuple #[.agg #[], .bool false]) w := by kernel_rfl
@[go_sem] theorem as_sink_out (v : Value) (w : World) : (Instr.typeAssert (.iface 160 v) 146 227 true).run Tryz.prog w = .ok (.tuple #[.agg #[.pointer none], .bool false]) w := by kernel_rfl
@[go_sem] theorem as_sink_in (v : Value) (w : World) : (Instr.typeAssert (.iface 160 v) 146 230 true).run Tryz.prog w = .ok (.tuple #[.agg #[.pointer none], .bool false]) w := by kernel_rfl
@[go_sem] theorem as_sink_file (v : Value) (w : World) : (Instr.typeAssert (.iface 160 v) 146 151 true).run Tryz.prog w = .ok (.tuple #[.pointer none, .bool false]) w := by kernel_rfl
@[go_sem] theorem as_sink_sink (v : Value) (w : World) : (Instr.typeAssert (.iface 160 v) 146 160 true).run Tryz.prog w = .ok (.tuple #[v, .bool true]) w := by kernel_rfl
@[go_sem] theorem as_sink_source (v : Value) (w : World) : (Instr.typeAssert (.iface 160 v) 146 157 true).run Tryz.prog w = .ok (.tuple #[.pointer none, .bool false]) w := by kernel_rfl
@[go_sem] theorem as_sink_dir (v : Value) (w : World) : (Instr.typeAssert (.iface 160 v) 146 271 true).run Tryz.prog w = .ok (.tuple #[.agg #[], .bool false]) w := by kernel_rfl
@[go_sem] theorem as_source_out (v : Value) (w : World) : (Instr.typeAssert (.iface 157 v) 146 227 true).run Tryz.prog w = .ok (.tuple #[.agg #[.pointer none], .bool false]) w := by kernel_rfl
@[go_sem] theorem as_source_in (v : Value) (w : World) : (Instr.typeAssert (.iface 157 v) 146 230 true).run Tryz.prog w = .ok (.tuple #[.agg #[.pointer none], .bool false]) w := by kernel_rfl
@[go_sem] theorem as_source_file (v : Value) (w : World) : (Instr.typeAssert (.iface 157 v) 146 151 true).run Tryz.prog w = .ok (.tuple #[.pointer none, .bool false]) w := by kernel_rfl
@[go_sem] theorem as_source_sink (v : Value) (w : World) : (Instr.typeAssert (.iface 157 v) 146 160 true).run Tryz.prog w = .ok (.tuple #[.pointer none, .bool false]) w := by kernel_rfl
@[go_sem] theorem as_source_source (v : Value) (w : World) : (Instr.typeAssert (.iface 157 v) 146 157 true).run Tryz.prog w = .ok (.tuple #[v, .bool true]) w := by kernel_rfl
@[go_sem] theorem as_source_dir (v : Value) (w : World) : (Instr.typeAssert (.iface 157 v) 146 271 true).run Tryz.prog w = .ok (.tuple #[.agg #[], .bool false]) w := by kernel_rfl
@[go_sem] theorem as_dir_out (v : Value) (w : World) : (Instr.typeAssert (.iface 271 v) 146 227 true).run Tryz.prog w = .ok (.tuple #[.agg #[.pointer none], .bool false]) w := by kernel_rfl
@[go_sem] theorem as_dir_in (v : Value) (w : World) : (Instr.typeAssert (.iface 271 v) 146 230 true).run Tryz.prog w = .ok (.tuple #[.agg #[.pointer none], .bool false]) w := by kernel_rfl
@[go_sem] theorem as_dir_file (v : Value) (w : World) : (Instr.typeAssert (.iface 271 v) 146 151 true).run Tryz.prog w = .ok (.tuple #[.pointer none, .bool false]) w := by kernel_rfl
@[go_sem] theorem as_dir_sink (v : Value) (w : World) : (Instr.typeAssert (.iface 271 v) 146 160 true).run Tryz.prog w = .ok (.tuple #[.pointer none, .bool false]) w := by kernel_rfl
@[go_sem] theorem as_dir_source (v : Value) (w : World) : (Instr.typeAssert (.iface 271 v) 146 157 true).run Tryz.prog w = .ok (.tuple #[.pointer none, .bool false]) w := by kernel_rfl
@[go_sem] theorem as_dir_dir (v : Value) (w : World) : (Instr.typeAssert (.iface 271 v) 146 271 true).run Tryz.prog w = .ok (.tuple #[v, .bool true]) w := by kernel_rfl
@[go_sem] theorem as_nil_out (w : World) : (Instr.typeAssert .nilIface 146 227 true).run Tryz.prog w = .ok (.tuple #[.agg #[.pointer none], .bool false]) w := by kernel_rfl
@[go_sem] theorem as_nil_in (w : World) : (Instr.typeAssert .nilIface 146 230 true).run Tryz.prog w = .ok (.tuple #[.agg #[.pointer none], .bool false]) w := by kernel_rfl
@[go_sem] theorem as_nil_file (w : World) : (Instr.typeAssert .nilIface 146 151 true).run Tryz.prog w = .ok (.tuple #[.pointer none, .bool false]) w := by kernel_rfl
@[go_sem] theorem as_nil_sink (w : World) : (Instr.typeAssert .nilIface 146 160 true).run Tryz.prog w = .ok (.tuple #[.pointer none, .bool false]) w := by kernel_rfl
@[go_sem] theorem as_nil_source (w : World) : (Instr.typeAssert .nilIface 146 157 true).run Tryz.prog w = .ok (.tuple #[.pointer none, .bool false]) w := by kernel_rfl
@[go_sem] theorem as_nil_dir (w : World) : (Instr.typeAssert .nilIface 146 271 true).run Tryz.prog w = .ok (.tuple #[.agg #[], .bool false]) w := by kernel_rfl

end Go.Proofs.YtffffjngodinnaaGreatDoor
end

section
namespace Go.Proofs.YtffffjngodinnaaGreatDoor
open Go.RowKit

/-- what is said abides a turn of the iterator's own blocks, and of what is no cells and lies at or beyond B -/
def OwnBy {β : Type} (B : Nat) (own : Nat → Prop) (I : β → World → Prop) : Prop :=
  ∀ s W W' row, I s W → W.grownBy W' row → (∀ r, row = some r → (B ≤ r ∧ ∃ o : Obj, W.heap[r]? = some o ∧ o.isCells = false) ∨ own r) → I s W'

theorem OwnBy.putObj {β : Type} {B : Nat} {own : Nat → Prop} {I : β → World → Prop} (h : OwnBy B own I) {s : β} {W : World} {l : Nat} {o : Obj} (o' : Obj) (hs : I s W) (hB : B ≤ l) (hl : W.heap[l]? = some o) (ho : o.isCells = false) : I s (W.putObj l o') :=
  h s W _ (some l) hs (grownBy_putObj' W l o') (fun r e => by cases e; exact .inl ⟨hB, o, hl, ho⟩)
theorem OwnBy.alloc {β : Type} {B : Nat} {own : Nat → Prop} {I : β → World → Prop} (h : OwnBy B own I) {s : β} {W : World} (o : Obj) (hs : I s W) : I s (W.alloc o) :=
  h s W _ none hs (World.grownBy_alloc W o none) (fun r e => by cases e)

/-- an iterator that yields pieces one by one (T: the next one), turns its own blocks alone between the rounds, and ends when S holds of all -/
def SeqTurns {α : Type} (F : Fence) (n : Nat) (P : Program) (g : Nat) (lb : Array Value) (encs : α → Array Value) (Kp : World → World → Prop) (own : Nat → Prop) (T : List α → α → Prop) (S : List α → Prop) (w : World) : Prop :=
  ∀ (l : Nat) (J : List α → World → Prop) (W : World), Below w.heap.size w W →
    (∀ s X Y row, J s X → X.grownBy Y row → (∀ r, row = some r → own r) → J s Y) →
    (∀ pre x W1, T pre x → J pre W1 → YieldAt F (n - 1) P l (encs x) W1 fun e W' => e = .returned (.bool true) ∧ J (pre ++ [x]) W' ∧ Kp W1 W') →
    J [] W →
    CallsIn F n P g (#[.func (.yield l) #[] #[]] ++ lb) W fun e W' => (∃ v, e = .returned v) ∧ ∃ xs, S xs ∧ J xs W'

/-- how a round's body ends: it goes on -/
def eachPost {α : Type} (B : Nat) (Kp : World → World → Prop) (I : List α → World → Prop) (xs : List α) (W : World) : Exit → Act → World → Prop
  | .normal, _, W' => KeepsFrom B W W' ∧ Kp W W' ∧ I xs W'
  | _, _, _ => False

variable {F : Fence} {n : Nat} {P : Program}

theorem wpIn_rangeFunc_each {α : Type} {g : Operand} {ps : Array Tmp} {assign body : Code} {Q : Exit → Act → World → Prop} {a : Act} {w : World}
    (hro : F.round = none) (h1 : 1 ≤ n) {gf : Nat} {lb : Array Value} (hg : a.eval g = .func (.func gf) #[] lb) (hFg : F.fn gf) (eg : ∀ args w, (callFunc gf args).run P w = .ok (.enter gf args) w)
    {encs : α → Array Value} {Kp : World → World → Prop} {own : Nat → Prop} {T : List α → α → Prop} {S : List α → Prop} {w0 : World} (hseq : SeqTurns F (n - 1) P gf lb encs Kp own T S w0)
    (hKt : ∀ {A B C : World}, Kp A B → Kp B C → Kp A C) (hKb : ∀ (W : World) (l : Nat) (o o' : Obj), w.heap.size ≤ l → W.heap[l]? = some o → o.isCells = false → o.isWalk = false → Kp W (W.putObj l o')) (hb0 : Below w0.heap.size w0 w) (hps : ∀ x, (encs x).size = ps.size)
    (hown : ∀ r, own r → r < w.heap.size)
    (I : List α → World → Prop) (hI : OwnBy w.heap.size own I) (h0 : I [] w) (a₁ : α → Act)
    (hassign : ∀ (l : Nat) (x : α) (W : World) (K : Act → World → Prop), K (a₁ x) W →
      assign.wpIn (F.inRound l) (n - 1 - 1) P (Exit.then K (fun _ _ _ => False)) { tmps := (ps.zip (encs x)).foldl (fun t (p, v) => t.setIfInBounds p v) a.tmps, defers := [] } W)
    (hbody : ∀ (l : Nat) (pre : List α) (x : α) (W : World), w.heap.size ≤ l → T pre x → I pre W → body.wpIn (F.inRound l) (n - 1 - 1) P (eachPost w.heap.size Kp I (pre ++ [x]) W) (a₁ x) W)
    (hdone : ∀ (D : Nat) (xs : List α) (W : World), w.heap.size ≤ D → S xs → I xs W → W.heap[D]? = some (.deferred (some [])) → Q .normal { a with defers := { target := .collected D, args := #[] } :: a.defers } W) :
    (Code.rangeFunc g ps assign body).wpIn F n P Q a w := by
  refine wpIn_rangeFunc fun fn hfn => ?_
  rw [hro]
  obtain ⟨rec, hrec⟩ : ∃ rec : LoopState → Option Code → Loop, rec = fun st pe => { state := st, pending := pe, fn, tmps := a.tmps, params := ps, assign, body, defers := w.heap.size } := ⟨_, rfl⟩
  obtain ⟨W1, hW1⟩ : ∃ W1, (w.alloc (.deferred (some []))).alloc (.loop (rec .ready none)) = W1 := ⟨_, rfl⟩
  -- the two blocks that the loop lays
  have hL : W1.heap[w.heap.size + 1]? = some (.loop (rec .ready none)) := by
    have h := World.alloc_heap_new (w.alloc (.deferred (some []))) (.loop (rec .ready none))
    rw [World.size_alloc, hW1] at h
    exact h
  have hD : W1.heap[w.heap.size]? = some (.deferred (some [])) := by
    rw [← hW1]
    exact (Below.heap_alloc _ _ _ (by simp)).trans (World.alloc_heap_new w _)
  have hb1 : Below w0.heap.size w0 W1 := by
    rw [← hW1]
    exact hb0.trans ((((Below.refl _ w).alloc (Nat.le_refl _) _).alloc (by simp) _).mono hb0.size)
  have hI1 : I [] W1 := by rw [← hW1]; exact hI.alloc _ (hI.alloc _ h0)
  refine ⟨w.heap.size + 1, [{ target := .collected w.heap.size, args := #[] }], W1, { target := .fn (.func gf) lb, args := #[.func (.yield (w.heap.size + 1)) #[] #[]] }, W1, gf,
    #[.func (.yield (w.heap.size + 1)) #[] #[]] ++ lb, W1, ?_, ?_, ?_, ?_, fun _ => h1, ?_⟩
  · rw [← hW1, hrec]; exact run_enterLoop_outer _ _ _ _ _
  · simp only [resolve, hg]
    simp [go_sem]
  · intro f' hf'
    simp [Target.leads] at hf'
    subst hf'
    exact hFg
  · simp [invoke, go_sem, eg]
  · have far : ∀ {X Y : World} {row : Option Nat} {k : Nat} {o : Obj}, w.heap.size ≤ k → X.heap[k]? = some o → X.grownBy Y row → (∀ r, row = some r → own r) → Y.heap[k]? = some o := by
      intro X Y row k o hk hX hgr hr
      refine (hgr.block k (Array.getElem?_eq_some_iff.1 hX).1 fun e => ?_).trans hX
      have := hown k (hr k e.symm)
      omega
    refine (hseq (w.heap.size + 1)
      (fun pre W => I pre W ∧ W.heap[w.heap.size + 1]? = some (.loop (rec .ready none)) ∧ W.heap[w.heap.size]? = some (.deferred (some [])))
      W1 hb1
      (fun s X Y row hs hgr hr => ⟨hI s X Y row hs.1 hgr (fun r e => .inr (hr r e)), far (by omega) hs.2.1 hgr hr, far (Nat.le_refl _) hs.2.2 hgr hr⟩)
      ?_ ⟨hI1, hL, hD⟩).mono ?_
    · rintro pre x W hT ⟨hi, hl, hk⟩
      have hlt : w.heap.size + 1 < W.heap.size := (Array.getElem?_eq_some_iff.1 hl).1
      have hy := run_yield (P := P) (args := encs x) hl (by rw [hrec]; exact hps x)
      rw [hrec] at hy
      refine ⟨fn, _, assign, body, hy, roundIn_of_wpIn hfn (hassign _ x W _ ?_)⟩
      refine ⟨_, run_beginRound hl (by rw [hrec]), ?_⟩
      have hl2 : (W.putObj (w.heap.size + 1) (.loop { rec .ready none with state := .busy })).heap[w.heap.size + 1]? = some (.loop { rec .ready none with state := .busy }) := World.putObj_heap_same hlt
      have hk2 : (W.putObj (w.heap.size + 1) (.loop { rec .ready none with state := .busy })).heap[w.heap.size]? = some (.deferred (some [])) := (World.putObj_heap_other (by omega)).trans hk
      have hw2 : Kp W (W.putObj (w.heap.size + 1) (.loop { rec .ready none with state := .busy })) := hKb _ _ _ _ (by omega) hl rfl rfl
      refine wpIn_mono (hbody _ pre x _ (by omega) hT (hI.putObj _ hi (by omega) hl rfl)) ?_
      rintro e a3 W3 hp
      cases e with
      | normal =>
        obtain ⟨hk3, hkp3, hi3⟩ := hp
        have hl3 := hk3.same _ _ (by omega) hl2 rfl
        have hr := run_endRound (P := P) none hl3
        rw [hrec] at hr hl3
        refine ⟨_, _, hr, rfl, ⟨hI.putObj _ hi3 (by omega) hl3 rfl, ?_, ?_⟩, hKt (hKt hw2 hkp3) (hKb _ _ _ _ (by omega) hl3 rfl rfl)⟩
        · rw [hrec]; exact World.putObj_heap_same (Array.getElem?_eq_some_iff.1 hl3).1
        · exact (World.putObj_heap_other (by omega)).trans (hk3.same _ _ (Nat.le_refl _) hk2 rfl)
      | ret => exact hp.elim
      | exit id => exact hp.elim
      | goto t => exact hp.elim
      | panic ch => exact hp.elim
      | outgrown => exact hp.elim
    · rintro e W2 ⟨⟨v, rfl⟩, xs, hS, hi, hl, hk⟩
      have hr := run_endLoop (P := P) hl (by rw [hrec]; simp)
      rw [hrec] at hr
      exact ⟨none, _, hr, hdone _ xs _ (Nat.le_refl _) hS (hI.putObj _ hi (by omega) hl rfl) ((World.putObj_heap_other (by omega)).trans hk)⟩

end Go.Proofs.YtffffjngodinnaaGreatDoor
end
