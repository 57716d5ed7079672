/-
  Parts that the claims share: A loop over an iterator that keeps its own state in cells (own: the blocks that it turns between two rounds), whose body always goes on. The kit's laws of the range over a function let the iterator turn no cells; this one lets it turn those that it names; A walk over Dump of a tree that has the root alone; A tree of files and directories as plain data, by their numbers: what the calls of chapter 2 make of it. No program in this text; What a tree in memory is: the plain tree that it stands for; strings.Split at a stroke, in a world of which nothing is asked: the pieces of a path; A walk over tr.
-/
import Derived.RangeFuncNested
import Derived.Test.YtlhiadnolckoeaaGreatDoorR03
import Derived.Test.YtlhiadnolckoeaaGreatDoorR04
import Derived.LoopN
import Derived.LoopNIn
import Derived.Test.YtlhiadnolckoeaaGreatDoorR01
import Derived.WalkKit
import Derived.Test.YtlhiadnolckoeaaGreatDoorChecked
import Derived.WalkSpells
import Derived.WalkLawsBesides
import Derived.Lib.Hide
import Derived.Handy
import Derived.RangeFuncBound
import Derived.RangeFuncCalls
import Derived.RangeFuncLeaves
import Derived.RangeFuncBox
import Derived.Shelf.Abstract
import Derived.Shelf.RegionOpen
import Derived.OwnWalkIn
import Derived.TacticsInMore
import Derived.LoopIn
import Derived.BigFrameIn
import Derived.Deep.LoopGhost
import Derived.Sort.LoopGhostIn
import Derived.BigGuardIn
import Derived.BigQuiet
import Derived.Laws.RangeAny
import Derived.RegionTactic
import Derived.Lib.OthersKept
import Derived.Maps.OwnOps
import Derived.StillTailTactics
import Derived.Deep.RegionWith
import Derived.Deep.RegionHeld3
import Derived.Test.YtlhiadnolckoeaaGreatDoorR02
import Derived.Deep.QuietTactic
import Derived.Deep.MidRow
import Derived.Defers
import Derived.Recover
import Derived.BigRegion

section
namespace Go.Proofs.YtlhiadnolckoeaaGreatDoor
open Go.RowKit

/-- what is said abides a turn of the iterator's own blocks, and of what is no cells and lies at or beyond B -/
def OwnBy {β : Type} (B : Nat) (own : Nat → Prop) (I : β → World → Prop) : Prop :=
  ∀ s W W' row, I s W → W.grownBy W' row → (∀ r, row = some r → (B ≤ r ∧ ∃ o : Obj, W.heap[r]? = some o ∧ o.isCells = false) ∨ own r) → I s W'

theorem OwnBy.putObj {β : Type} {B : Nat} {own : Nat → Prop} {I : β → World → Prop} (h : OwnBy B own I) {s : β} {W : World} {l : Nat} {o : Obj} (o' : Obj) (hs : I s W) (hB : B ≤ l) (hl : W.heap[l]? = some o) (ho : o.isCells = false) : I s (W.putObj l o') :=
  h s W _ (some l) hs (grownBy_putObj' W l o') (fun r e => by cases e; exact .inl ⟨hB, o, hl, ho⟩)
theorem OwnBy.alloc {β : Type} {B : Nat} {own : Nat → Prop} {I : β → World → Prop} (h : OwnBy B own I) {s : β} {W : World} (o : Obj) (hs : I s W) : I s (W.alloc o) :=
  h s W _ none hs (World.grownBy_alloc W o none) (fun r e => by cases e)

/-- an iterator that yields pieces one by one (T: the next one), turns its own blocks alone between the rounds, and ends when S holds of all -/
def SeqTurns {α : Type} (F : Fence) (n : Nat) (P : Program) (g : Nat) (lb : Array Value) (encs : α → Array Value) (Kp : World → World → Prop) (own : Nat → Prop) (T : List α → α → Prop) (S : List α → Prop) (w : World) : Prop :=
  ∀ (l : Nat) (J : List α → World → Prop) (W : World), Below w.heap.size w W →
    (∀ s X Y row, J s X → X.grownBy Y row → (∀ r, row = some r → own r) → J s Y) →
    (∀ pre x W1, T pre x → J pre W1 → YieldAt F (n - 1) P l (encs x) W1 fun e W' => e = .returned (.bool true) ∧ J (pre ++ [x]) W' ∧ Kp W1 W') →
    J [] W →
    CallsIn F n P g (#[.func (.yield l) #[] #[]] ++ lb) W fun e W' => (∃ v, e = .returned v) ∧ ∃ xs, S xs ∧ J xs W'

/-- how a round's body ends: it goes on -/
def eachPost {α : Type} (B : Nat) (Kp : World → World → Prop) (I : List α → World → Prop) (xs : List α) (W : World) : Exit → Act → World → Prop
  | .normal, _, W' => KeepsFrom B W W' ∧ Kp W W' ∧ I xs W'
  | _, _, _ => False

variable {F : Fence} {n : Nat} {P : Program}

theorem wpIn_rangeFunc_each {α : Type} {g : Operand} {ps : Array Tmp} {assign body : Code} {Q : Exit → Act → World → Prop} {a : Act} {w : World}
    (hro : F.round = none) (h1 : 1 ≤ n) {gf : Nat} {lb : Array Value} (hg : a.eval g = .func (.func gf) #[] lb) (hFg : F.fn gf) (eg : ∀ args w, (callFunc gf args).run P w = .ok (.enter gf args) w)
    {encs : α → Array Value} {Kp : World → World → Prop} {own : Nat → Prop} {T : List α → α → Prop} {S : List α → Prop} {w0 : World} (hseq : SeqTurns F (n - 1) P gf lb encs Kp own T S w0)
    (hKt : ∀ {A B C : World}, Kp A B → Kp B C → Kp A C) (hKb : ∀ (W : World) (l : Nat) (o o' : Obj), w.heap.size ≤ l → W.heap[l]? = some o → o.isCells = false → o.isWalk = false → Kp W (W.putObj l o')) (hb0 : Below w0.heap.size w0 w) (hps : ∀ x, (encs x).size = ps.size)
    (hown : ∀ r, own r → r < w.heap.size)
    (I : List α → World → Prop) (hI : OwnBy w.heap.size own I) (h0 : I [] w) (a₁ : α → Act)
    (hassign : ∀ (l : Nat) (x : α) (W : World) (K : Act → World → Prop), K (a₁ x) W →
      assign.wpIn (F.inRound l) (n - 1 - 1) P (Exit.then K (fun _ _ _ => False)) { tmps := (ps.zip (encs x)).foldl (fun t (p, v) => t.setIfInBounds p v) a.tmps, defers := [] } W)
    (hbody : ∀ (l : Nat) (pre : List α) (x : α) (W : World), w.heap.size ≤ l → T pre x → I pre W → body.wpIn (F.inRound l) (n - 1 - 1) P (eachPost w.heap.size Kp I (pre ++ [x]) W) (a₁ x) W)
    (hdone : ∀ (D : Nat) (xs : List α) (W : World), w.heap.size ≤ D → S xs → I xs W → W.heap[D]? = some (.deferred (some [])) → Q .normal { a with defers := { target := .collected D, args := #[] } :: a.defers } W) :
    (Code.rangeFunc g ps assign body).wpIn F n P Q a w := by
  refine wpIn_rangeFunc fun fn hfn => ?_
  rw [hro]
  obtain ⟨rec, hrec⟩ : ∃ rec : LoopState → Option Code → Loop, rec = fun st pe => { state := st, pending := pe, fn, tmps := a.tmps, params := ps, assign, body, defers := w.heap.size } := ⟨_, rfl⟩
  obtain ⟨W1, hW1⟩ : ∃ W1, (w.alloc (.deferred (some []))).alloc (.loop (rec .ready none)) = W1 := ⟨_, rfl⟩
  -- the two blocks that the loop lays
  have hL : W1.heap[w.heap.size + 1]? = some (.loop (rec .ready none)) := by
    have h := World.alloc_heap_new (w.alloc (.deferred (some []))) (.loop (rec .ready none))
    rw [World.size_alloc, hW1] at h
    exact h
  have hD : W1.heap[w.heap.size]? = some (.deferred (some [])) := by
    rw [← hW1]
    exact (Below.heap_alloc _ _ _ (by simp)).trans (World.alloc_heap_new w _)
  have hb1 : Below w0.heap.size w0 W1 := by
    rw [← hW1]
    exact hb0.trans ((((Below.refl _ w).alloc (Nat.le_refl _) _).alloc (by simp) _).mono hb0.size)
  have hI1 : I [] W1 := by rw [← hW1]; exact hI.alloc _ (hI.alloc _ h0)
  refine ⟨w.heap.size + 1, [{ target := .collected w.heap.size, args := #[] }], W1, { target := .fn (.func gf) lb, args := #[.func (.yield (w.heap.size + 1)) #[] #[]] }, W1, gf,
    #[.func (.yield (w.heap.size + 1)) #[] #[]] ++ lb, W1, ?_, ?_, ?_, ?_, fun _ => h1, ?_⟩
  · rw [← hW1, hrec]; exact run_enterLoop_outer _ _ _ _ _
  · simp only [resolve, hg]
    simp [go_sem]
  · intro f' hf'
    simp [Target.leads] at hf'
    subst hf'
    exact hFg
  · simp [invoke, go_sem, eg]
  · have far : ∀ {X Y : World} {row : Option Nat} {k : Nat} {o : Obj}, w.heap.size ≤ k → X.heap[k]? = some o → X.grownBy Y row → (∀ r, row = some r → own r) → Y.heap[k]? = some o := by
      intro X Y row k o hk hX hgr hr
      refine (hgr.block k (Array.getElem?_eq_some_iff.1 hX).1 fun e => ?_).trans hX
      have := hown k (hr k e.symm)
      omega
    refine (hseq (w.heap.size + 1)
      (fun pre W => I pre W ∧ W.heap[w.heap.size + 1]? = some (.loop (rec .ready none)) ∧ W.heap[w.heap.size]? = some (.deferred (some [])))
      W1 hb1
      (fun s X Y row hs hgr hr => ⟨hI s X Y row hs.1 hgr (fun r e => .inr (hr r e)), far (by omega) hs.2.1 hgr hr, far (Nat.le_refl _) hs.2.2 hgr hr⟩)
      ?_ ⟨hI1, hL, hD⟩).mono ?_
    · rintro pre x W hT ⟨hi, hl, hk⟩
      have hlt : w.heap.size + 1 < W.heap.size := (Array.getElem?_eq_some_iff.1 hl).1
      have hy := run_yield (P := P) (args := encs x) hl (by rw [hrec]; exact hps x)
      rw [hrec] at hy
      refine ⟨fn, _, assign, body, hy, roundIn_of_wpIn hfn (hassign _ x W _ ?_)⟩
      refine ⟨_, run_beginRound hl (by rw [hrec]), ?_⟩
      have hl2 : (W.putObj (w.heap.size + 1) (.loop { rec .ready none with state := .busy })).heap[w.heap.size + 1]? = some (.loop { rec .ready none with state := .busy }) := World.putObj_heap_same hlt
      have hk2 : (W.putObj (w.heap.size + 1) (.loop { rec .ready none with state := .busy })).heap[w.heap.size]? = some (.deferred (some [])) := (World.putObj_heap_other (by omega)).trans hk
      have hw2 : Kp W (W.putObj (w.heap.size + 1) (.loop { rec .ready none with state := .busy })) := hKb _ _ _ _ (by omega) hl rfl rfl
      refine wpIn_mono (hbody _ pre x _ (by omega) hT (hI.putObj _ hi (by omega) hl rfl)) ?_
      rintro e a3 W3 hp
      cases e with
      | normal =>
        obtain ⟨hk3, hkp3, hi3⟩ := hp
        have hl3 := hk3.same _ _ (by omega) hl2 rfl
        have hr := run_endRound (P := P) none hl3
        rw [hrec] at hr hl3
        refine ⟨_, _, hr, rfl, ⟨hI.putObj _ hi3 (by omega) hl3 rfl, ?_, ?_⟩, hKt (hKt hw2 hkp3) (hKb _ _ _ _ (by omega) hl3 rfl rfl)⟩
        · rw [hrec]; exact World.putObj_heap_same (Array.getElem?_eq_some_iff.1 hl3).1
        · exact (World.putObj_heap_other (by omega)).trans (hk3.same _ _ (Nat.le_refl _) hk2 rfl)
      | ret => exact hp.elim
      | exit id => exact hp.elim
      | goto t => exact hp.elim
      | panic ch => exact hp.elim
      | outgrown => exact hp.elim
    · rintro e W2 ⟨⟨v, rfl⟩, xs, hS, hi, hl, hk⟩
      have hr := run_endLoop (P := P) hl (by rw [hrec]; simp)
      rw [hrec] at hr
      exact ⟨none, _, hr, hdone _ xs _ (Nat.le_refl _) hS (hI.putObj _ hi (by omega) hl rfl) ((World.putObj_heap_other (by omega)).trans hk)⟩

end Go.Proofs.YtlhiadnolckoeaaGreatDoor
end

section
namespace Go.Proofs.YtlhiadnolckoeaaGreatDoor
open Go.RowKit Go.Maps Go.Sort Go.Shelf

set_option maxRecDepth 100000 in
set_option maxHeartbeats 2000000 in
theorem walkNone (w : World) (B0 B1 x b : Nat) (f : Lit → Option Value) (h0 : Blk w B0 199 #[.pointer (some ⟨x, 0, none⟩)]) (hc : w.cell? ⟨x, 5, none⟩ = some (.map (some b))) (hm : MapOf w Tryz.prog 9 b 0 f) :
    SeqTurns Fence.wide 7 Tryz.prog 139 #[.pointer (some ⟨B0, 0, none⟩), .pointer (some ⟨B1, 0, none⟩)] (fun x : Empty => x.elim) (fun _ _ => True) (fun _ => False) (fun _ _ => False) (fun xs => xs = []) w := by
  intro l J W hW hJ _ hJ0
  have hS : Fence.wide.fn 140 := trivial
  have hcW : W.cell? ⟨x, 5, none⟩ = some (.map (some b)) := (hW.cell (p := ⟨x, 5, none⟩) (World.block_lt_of_cell? w _ hc)).trans hc
  have hb0 := Blk.on h0 hW
  have hmW := hm.same (hW.block b hm.lt)
  have c0 : W.cell? ⟨B0, 0, none⟩ = some (.pointer (some ⟨x, 0, none⟩)) := hb0.cell 0
  have HJ := Lib.hid hJ
  have HJ0 := Lib.hid hJ0
  clear hJ hJ0
  refine callsIn_of_wp Tryz.func139 rfl trivial ?_ rfl
  simp only [Tryz.ntmps139, List.size_toArray, List.length_cons, List.length_nil, Nat.reduceSub, Nat.reduceAdd, Array.replicate_succ, Array.replicate_zero, List.push_toArray, List.append_toArray, List.nil_append, List.cons_append]
  obtain ⟨Z, hZ⟩ : ∃ Z, W.alloc (.cells #[.func (.yield l) #[] #[]] 236) = Z := ⟨_, rfl⟩
  have hbZ : Below W.heap.size W Z := by rw [← hZ]; exact below_one _ _
  have z0 : Z.cell? ⟨B0, 0, none⟩ = some (.pointer (some ⟨x, 0, none⟩)) := (Blk.on hb0 hbZ).cell 0
  have zc : Z.cell? ⟨x, 5, none⟩ = some (.map (some b)) := (hbZ.cell (p := ⟨x, 5, none⟩) (World.block_lt_of_cell? W _ hcW)).trans hcW
  have zm := hmW.same (hbZ.block b hmW.lt)
  gi_wp2_with (gi_at_call 140; refine (sortedNone_wide Z x b f zc zm).mono ?_; rintro e w' ⟨rfl, hb⟩)
  refine wpIn_loop_rounds 1 ?_
  rw [roundsIn_succ]
  gi_wp2
  first | go_end0 | refine bodyPost_ret (results_none rfl _ _ _) rfl ?_
  exact ⟨⟨_, rfl⟩, [], rfl, HJ.out _ W _ none HJ0.out (only_of_below (hbZ.trans (hb.mono hbZ.size)) none) (fun r e => by cases e)⟩

set_option maxHeartbeats 1000000 in
theorem walk_any (w : World) (x : Nat) (s : ByteArray) : Calls Tryz.prog 111 #[.pointer (some ⟨x, 0, none⟩), .string s] w fun e w' => e = .returned (.func (.func 139) #[] #[.pointer (some ⟨w.heap.size, 0, none⟩), .pointer (some ⟨w.heap.size + 1, 0, none⟩)]) ∧
    w' = (w.alloc (.cells #[.pointer (some ⟨x, 0, none⟩)] 199)).alloc (.cells #[.string s] 9) := by
  have hmf : ∀ (fn : Fn) (first cap : Array Value) (w : World), (Instr.makeFunc fn first cap).run Tryz.prog w = .ok (.func fn first cap) w := fun _ _ _ _ => rfl
  go_enter Tryz.func111, Tryz.ntmps111
  go_wp2
  go_returns
  exact ⟨rfl, rfl⟩

set_option maxRecDepth 100000 in
set_option maxHeartbeats 2000000 in
theorem insertNone (w : World) (c : Value) : Calls Tryz.prog 171 #[.slice none 0 0, .int .i64 0, .int .i64 0, c] w fun e w' => e = .returned (.tuple #[]) ∧ w' = w := by
  go_enter Tryz.func171, Tryz.ntmps171
  go_wp2_with fail
  refine wp_loop_rounds 1 ?_
  rw [rounds_succ]
  go_wp2_with fail
  go_returns
  exact ⟨rfl, rfl⟩

set_option maxRecDepth 100000 in
set_option maxHeartbeats 2000000 in
theorem pdqNone (w : World) (c lim : Value) : Calls Tryz.prog 141 #[.slice none 0 0, .int .i64 0, .int .i64 0, lim, c] w fun e w' => e = .returned (.tuple #[]) ∧ w' = w := by
  go_enter Tryz.func141, Tryz.ntmps141
  go_wp2_with fail
  refine wp_loop_rounds 1 ?_
  rw [rounds_succ]
  go_wp2_with (go_at_call 171; refine (insertNone _ _).mono ?_; rintro e w' ⟨rfl, rfl⟩)
  go_returns
  exact ⟨rfl, rfl⟩

set_option maxRecDepth 100000 in
set_option maxHeartbeats 2000000 in
theorem sortNone (w : World) (c : Value) : Calls Tryz.prog 112 #[.slice none 0 0, c] w fun e w' => e = .returned (.tuple #[]) ∧ w' = w := by
  have hL : ∀ W, Calls Tryz.prog 142 #[.int .u64 0] W fun e w' => e = .returned (.int .i64 (Lib.bitLen 0)) ∧ w' = W := fun W => Tryz.bits_Len 0 W (by omega) (by omega)
  go_enter Tryz.func112, Tryz.ntmps112
  go_wp2_with (first
    | (go_at_call 142; refine (hL _).mono ?_; rintro e w' ⟨rfl, rfl⟩)
    | (go_at_call 141; refine (pdqNone _ _ _).mono ?_; rintro e w' ⟨rfl, rfl⟩))
  go_returns
  exact ⟨rfl, rfl⟩

set_option maxRecDepth 100000 in
set_option maxHeartbeats 2000000 in
theorem dumpNone_wide (w : World) (t x b : Nat) (f : Lit → Option Value) (h0 : w.cell? ⟨t, 0, none⟩ = some (.pointer (some ⟨x, 0, none⟩))) (hc : w.cell? ⟨x, 5, none⟩ = some (.map (some b))) (hm : MapOf w Tryz.prog 9 b 0 f) :
    CallsIn Fence.wide 8 Tryz.prog 87 #[.pointer (some ⟨t, 0, none⟩)] w fun e w' => e = .returned (.slice none 0 0) ∧ Below w.heap.size w w' := by
  have hmm := @run_makeMap Tryz.prog
  have hfW : Fence.wide.fn 111 := trivial
  have hfS : Fence.wide.fn 112 := trivial
  refine callsIn_of_wp_marks Tryz.func87 rfl trivial ?_ rfl
  simp only [Tryz.ntmps87, List.size_toArray, List.length_cons, List.length_nil, Nat.reduceAdd, Nat.reduceSub, Array.replicate_succ, Array.replicate_zero, List.push_toArray, List.append_toArray, List.nil_append, List.cons_append]
  obtain ⟨Z, hZ⟩ : ∃ Z, w.alloc (.cells #[.slice none 0 0] 196) = Z := ⟨_, rfl⟩
  have hbZ : Below w.heap.size w Z := by rw [← hZ]; exact below_one _ _
  have zl : Blk Z w.heap.size 196 #[.slice none 0 0] := by rw [← hZ]; exact Blk.new w _ _
  have z0 : Z.cell? ⟨t, 0, none⟩ = some (.pointer (some ⟨x, 0, none⟩)) := (hbZ.cell (p := ⟨t, 0, none⟩) (World.block_lt_of_cell? w _ h0)).trans h0
  gi_wp2_with (gi_at_call 111; refine (callsIn_wide.2 (walk_any Z x ⟨#[]⟩)).mono ?_; rintro e w' ⟨rfl, hw1⟩)
  have hb1 : Below w.heap.size w w' := by rw [hw1]; exact below_box (below_box hbZ (Nat.le_refl _) _) (Nat.le_refl _) _
  have wl : Blk w' w.heap.size 196 #[.slice none 0 0] := by rw [hw1]; exact (zl.alloc _).alloc _
  have k0 : Blk w' Z.heap.size 199 #[.pointer (some ⟨x, 0, none⟩)] := by rw [hw1]; exact (Blk.new Z _ _).alloc _
  have hc1 : w'.cell? ⟨x, 5, none⟩ = some (.map (some b)) := (hb1.cell (p := ⟨x, 5, none⟩) (World.block_lt_of_cell? w _ hc)).trans hc
  have hm1 := hm.same (hb1.block b hm.lt)
  have hseq := walkNone w' Z.heap.size (Z.heap.size + 1) x b f k0 hc1 hm1
  rw [← hw1]
  clear hw1 hZ
  refine wpIn_rangeFunc_each rfl (by omega) (gf := 139) (lb := #[.pointer (some ⟨Z.heap.size, 0, none⟩), .pointer (some ⟨Z.heap.size + 1, 0, none⟩)]) rfl trivial (enters_of Tryz.func139 (by kernel_rfl) rfl)
    hseq (fun _ _ => trivial) (fun _ _ _ _ _ _ _ _ => trivial) (Below.refl _ _) (fun x => x.elim) (fun _ h => h.elim)
    (fun _ W => Blk W w.heap.size 196 #[.slice none 0 0] ∧ Below w'.heap.size w' W) ?own ⟨wl, Below.refl _ _⟩ (fun x => x.elim) (fun _ x => x.elim) (fun _ _ x => x.elim) ?done
  case own =>
    rintro s X Y row ⟨h1, h2⟩ hg hr
    refine ⟨h1.grown hg fun e => ?_, h2.grown hg h2.size fun r e => ?_⟩
    · rcases hr _ e.symm with ⟨_, o, ho, hcells⟩ | h
      · rw [show X.heap[w.heap.size]? = _ from h1] at ho
        cases ho
        cases hcells
      · exact h
    · rcases hr _ e with ⟨h, _⟩ | h
      · exact h
      · exact h.elim
  case done =>
    rintro D ys W hD rfl ⟨hl, hBw⟩ hK
    have hlW : w.heap.size < W.heap.size := hl.lt
    have cl : W.cell? ⟨w.heap.size, 0, none⟩ = some (.slice none 0 0) := hl.cell 0
    gi_wp2_with (gi_at_call 112; refine (callsIn_wide.2 (sortNone _ _)).mono ?_; rintro e w9 ⟨rfl, rfl⟩)
    refine wpIn_loop_rounds 1 ?_
    rw [roundsIn_succ]
    gi_wp2
    have hDlt : D < w9.heap.size := (Array.getElem?_eq_some_iff.1 hK).1
    have hK2 : (w9.alloc (.map #[] 0)).heap[D]? = some (.deferred (some [])) := (Below.heap_alloc w9 _ D hDlt).trans hK
    have hDw : w.heap.size ≤ D := Nat.le_trans hb1.size hD
    have hB9 : Below w.heap.size w (w9.alloc (.map #[] 0)) := (hb1.trans (hBw.mono hb1.size)).alloc (by have := hb1.size; have := hBw.size; omega) _
    refine ⟨by simp, .inl ⟨_, _, rfl, run_takeDeferred hK2, ?_⟩⟩
    refine ⟨.slice none 0 0, ?_, rfl, hB9.trans (belowK_b (w := w) (Nat.le_refl _) _ D _ _ hDw hK2 rfl rfl)⟩
    simp [results, Tryz.f87]

end Go.Proofs.YtlhiadnolckoeaaGreatDoor
end

section
namespace Go.Proofs.YtlhiadnolckoeaaGreatDoor.Abs

abbrev Name := List UInt8

/-- the pieces of a path between strokes -/
def segs : List UInt8 → List Name
  | [] => [[]]
  | c :: l => if c = 47 then [] :: segs l else match segs l with
    | [] => [[c]]
    | h :: t => (c :: h) :: t
/-- the parts of a path: the pieces that are not empty -/
def parts (path : List UInt8) : List Name := (segs path).filter fun p => !p.isEmpty
def dot : Name := [46]
def dotdot : Name := [46, 46]
/-- is it a name? -/
def named (s : Name) : Bool := !s.isEmpty && s.length ≤ 32 && !(s == dot) && !(s == dotdot) && !(s.any fun c => c == 47 || c == 0)
/-- the order of names -/
def nlt : Name → Name → Bool
  | [], [] => false
  | [], _ :: _ => true
  | _ :: _, [] => false
  | a :: l, b :: m => if a < b then true else if b < a then false else nlt l m

/-- a file or a directory -/
structure Ent where
  dir : Bool
  mode : Int
  tick : Int
  data : List UInt8 := []
  names : List (Name × Nat) := []
  up : Nat := 0
  held : Nat := 0

/-- the entry that a name has -/
def lk : List (Name × Nat) → Name → Option Nat
  | [], _ => none
  | (m, i) :: l, n => if n = m then some i else lk l n
/-- an entry more, in its place -/
def ins (n : Name) (j : Nat) : List (Name × Nat) → List (Name × Nat)
  | [] => [(n, j)]
  | (m, i) :: l => if nlt n m then (n, j) :: (m, i) :: l else (m, i) :: ins n j l
/-- an entry fewer -/
def era (n : Name) (l : List (Name × Nat)) : List (Name × Nat) := l.filter fun p => !(p.1 == n)

/-- a tree: files and directories by their numbers, in the order in which they were made; the next number -/
structure T where
  ents : List (Nat × Ent)
  next : Nat

def geti : List (Nat × Ent) → Nat → Option Ent
  | [], _ => none
  | (j, x) :: l, i => if i = j then some x else geti l i
def T.get (t : T) (i : Nat) : Option Ent := geti t.ents i
def seti (l : List (Nat × Ent)) (i : Nat) (f : Ent → Ent) : List (Nat × Ent) := l.map fun p => if p.1 = i then (p.1, f p.2) else p
def T.set (t : T) (i : Nat) (f : Ent → Ent) : T := { t with ents := seti t.ents i f }
def T.isDir (t : T) (i : Nat) : Bool := match t.get i with | some x => x.dir | none => false

def emptyT : T := { ents := [(1, { dir := true, mode := 493, tick := 0, up := 1 })], next := 2 }

/-- from one along a part -/
def T.step (t : T) (i : Nat) (p : Name) : Except Nat Nat := match t.get i with
  | none => .error 99
  | some x => if x.dir = false then .error 3 else if p = dot then .ok i else if p = dotdot then .ok x.up
    else if named p = false then .error 13 else match lk x.names p with
      | none => .error 1
      | some j => .ok j
/-- from one along parts -/
def T.leads (t : T) : Nat → List Name → Except Nat Nat
  | i, [] => .ok i
  | i, p :: ps => match t.step i p with
    | .error e => .error e
    | .ok j => t.leads j ps
theorem T.leads_cons (t : T) (i : Nat) (p : Name) (ps : List Name) : t.leads i (p :: ps) = match t.step i p with
  | .error e => Except.error e
  | .ok j => t.leads j ps := rfl
/-- where a path begins -/
def T.start (t : T) (cwd path : List UInt8) : Except Nat Nat := match t.leads 1 (parts cwd) with
  | .error e => .error e
  | .ok i => if t.isDir i = false then .error 3 else match path with
    | [] => .error 1
    | c :: _ => if c = 47 then .ok 1 else .ok i
/-- does a path end with a stroke? -/
def slash (path : List UInt8) : Bool := path.getLast? == some 47
/-- what a path leads to -/
def T.look (t : T) (cwd path : List UInt8) : Except Nat Nat := match t.start cwd path with
  | .error e => .error e
  | .ok i => match t.leads i (parts path) with
    | .error e => .error e
    | .ok j => if slash path && !t.isDir j then .error 3 else .ok j
def T.links (t : T) (j : Nat) : Nat := (t.ents.map fun p => p.2.names.countP fun q => q.2 == j).sum
def T.many (t : T) : Nat := (t.ents.map fun p => p.2.names.length).sum
/-- a name's directory, and the name; none: there is none, or it is a dot -/
def T.place (t : T) (cwd path : List UInt8) : Except Nat (Option (Nat × Name)) := match t.start cwd path with
  | .error e => .error e
  | .ok i => match (parts path).getLast? with
    | none => .ok none
    | some last => match t.leads i (parts path).dropLast with
      | .error e => .error e
      | .ok d => if t.isDir d = false then .error 3 else if last = dot ∨ last = dotdot then .ok none else if named last = false then .error 13 else .ok (some (d, last))
/-- a directory's depth -/
def T.depthN (t : T) : Nat → Nat → Nat
  | 0, _ => 0
  | k + 1, i => if i = 1 then 0 else match t.get i with
    | none => 0
    | some x => 1 + t.depthN k x.up
def T.depth (t : T) (i : Nat) : Nat := t.depthN 11 i
/-- may a new entry be made? -/
def T.may (t : T) (cwd path : List UInt8) (dir : Bool) : Except Nat (Nat × Name) := match t.place cwd path with
  | .error e => .error e
  | .ok none => .error 2
  | .ok (some (d, n)) => match t.get d with
    | none => .error 99
    | some x => if (lk x.names n).isSome then .error 2 else if slash path && !dir then .error 3 else if 10 ≤ t.depth d then .error 14 else if 200 ≤ t.many then .error 12 else .ok (d, n)
def nine (mode : Int) : Int := mode % 512
/-- a new file or directory -/
def T.make (t : T) (cwd path : List UInt8) (dir : Bool) (mode now : Int) : T × Except Nat Nat := match t.may cwd path dir with
  | .error e => (t, .error e)
  | .ok (d, n) => ({ ents := seti t.ents d (fun x => { x with names := ins n t.next x.names }) ++ [(t.next, { dir := dir, mode := nine mode, tick := now, up := if dir then d else 0 })], next := t.next + 1 }, .ok t.next)

/-- what holds of a tree at all times -/
structure T.WF (t : T) : Prop where
  nodup : (t.ents.map (·.1)).Nodup
  root : ∃ x, t.get 1 = some x ∧ x.dir = true ∧ x.up = 1
  lt : ∀ i x, t.get i = some x → 0 < i ∧ i < t.next
  live : ∀ i x n j, t.get i = some x → lk x.names n = some j → j ≠ 1 ∧ ∃ y, t.get j = some y
  file : ∀ i x, t.get i = some x → x.dir = false → x.names = []
  sorted : ∀ i x, t.get i = some x → x.names.Pairwise (fun a b => nlt a.1 b.1 = true)
  up : ∀ i x, t.get i = some x → x.dir = true → ∃ y, t.get x.up = some y ∧ y.dir = true
  rank : ∃ dp : Nat → Nat, dp 1 = 0 ∧ ∀ i x, t.get i = some x → x.dir = true → i ≠ 1 → dp i = dp x.up + 1 ∧ dp i ≤ 10

theorem emptyT_get {i : Nat} {x : Ent} (h : emptyT.get i = some x) : i = 1 ∧ x = { dir := true, mode := 493, tick := 0, up := 1 } := by
  simp only [emptyT, T.get, geti] at h
  split at h
  · rename_i h1; injection h with h; exact ⟨h1, h.symm⟩
  · cases h
theorem emptyT_wf : emptyT.WF := by
  refine ⟨by simp [emptyT], ⟨_, rfl, rfl, rfl⟩, ?_, ?_, ?_, ?_, ?_, ⟨fun _ => 0, rfl, ?_⟩⟩
  · intro i x h; obtain ⟨rfl, rfl⟩ := emptyT_get h; simp [emptyT]
  · intro i x n j h hl; obtain ⟨rfl, rfl⟩ := emptyT_get h; simp [lk] at hl
  · intro i x h; obtain ⟨rfl, rfl⟩ := emptyT_get h; simp
  · intro i x h; obtain ⟨rfl, rfl⟩ := emptyT_get h; exact List.Pairwise.nil
  · intro i x h _; obtain ⟨rfl, rfl⟩ := emptyT_get h; exact ⟨_, rfl, rfl⟩
  · intro i x h _ h1; obtain ⟨rfl, rfl⟩ := emptyT_get h; exact absurd rfl h1

theorem T.step_ne0 {t : T} {i e : Nat} {p : Name} (h : t.step i p = .error e) : e ≠ 0 := by
  unfold T.step at h
  repeat' split at h
  all_goals (cases h <;> decide)
theorem T.leads_ne0 {t : T} {e : Nat} : ∀ {l : List Name} {i : Nat}, t.leads i l = .error e → e ≠ 0
  | [], i, h => by simp [T.leads] at h
  | p :: ps, i, h => by
    rw [T.leads_cons] at h
    split at h
    · rename_i e' he; injection h with h; subst h; exact T.step_ne0 he
    · exact T.leads_ne0 h
theorem T.start_ne0 {t : T} {e : Nat} {cwd path : List UInt8} (h : t.start cwd path = .error e) : e ≠ 0 := by
  unfold T.start at h
  repeat' split at h
  · rename_i e' he; injection h with h; subst h; exact T.leads_ne0 he
  all_goals (cases h <;> decide)
theorem T.look_ne0 {t : T} {e : Nat} {cwd path : List UInt8} (h : t.look cwd path = .error e) : e ≠ 0 := by
  unfold T.look at h
  repeat' split at h
  · rename_i e' he; injection h with h; subst h; exact T.start_ne0 he
  · rename_i e' he; injection h with h; subst h; exact T.leads_ne0 he
  all_goals (cases h <;> decide)
section
variable {t : T} {i j : Nat} {x : Ent} {e : Nat}
theorem T.WF.step_live (h : t.WF) {p : Name} (hx : t.get i = some x) (hs : t.step i p = .ok j) : ∃ y, t.get j = some y := by
  unfold T.step at hs
  rw [hx] at hs
  simp only at hs
  split at hs
  · cases hs
  · rename_i hd
    split at hs
    · injection hs with hs; subst hs; exact ⟨x, hx⟩
    · split at hs
      · injection hs with hs; subst hs
        obtain ⟨y, hy, _⟩ := h.up i x hx (by simpa using hd)
        exact ⟨y, hy⟩
      · split at hs
        · cases hs
        · split at hs
          · cases hs
          · rename_i k hk
            injection hs with hs; subst hs
            exact (h.live i x p _ hx hk).2
theorem T.WF.leads_live (h : t.WF) : ∀ (ps : List Name) (i : Nat), (∃ x, t.get i = some x) → t.leads i ps = .ok j → ∃ y, t.get j = some y := by
  intro ps
  induction ps with
  | nil => intro i hi hl; simp only [T.leads, Except.ok.injEq] at hl; subst hl; exact hi
  | cons p ps ih =>
    rintro i ⟨x, hx⟩ hl
    unfold T.leads at hl
    split at hl
    · cases hl
    · rename_i k hk
      exact ih k (h.step_live hx hk) hl
theorem T.WF.root_live (h : t.WF) : ∃ x, t.get 1 = some x := by obtain ⟨x, hx, _⟩ := h.root; exact ⟨x, hx⟩
theorem isDir_of {t : T} {i : Nat} (h : t.isDir i = true) : ∃ x, t.get i = some x ∧ x.dir = true := by
  unfold T.isDir at h
  split at h
  · exact ⟨_, by assumption, h⟩
  · cases h
theorem T.WF.root_dir (h : t.WF) : t.isDir 1 = true := by obtain ⟨x, hx, hd, _⟩ := h.root; simp [T.isDir, hx, hd]
theorem T.WF.start_dir (h : t.WF) {cwd path : List UInt8} (hs : t.start cwd path = .ok i) : t.isDir i = true := by
  unfold T.start at hs
  split at hs
  · cases hs
  · split at hs
    · cases hs
    · rename_i j _ hd
      split at hs
      · cases hs
      · split at hs <;> (injection hs with hs; subst hs)
        · exact h.root_dir
        · simpa using hd
theorem T.WF.look_live (h : t.WF) {cwd path : List UInt8} (hs : t.look cwd path = .ok j) : ∃ y, t.get j = some y := by
  unfold T.look at hs
  split at hs
  · cases hs
  · rename_i k hk
    obtain ⟨z, hz, _⟩ := isDir_of (h.start_dir hk)
    split at hs
    · cases hs
    · rename_i m hm
      split at hs
      · cases hs
      · injection hs with hs; subst hs
        exact h.leads_live _ _ ⟨z, hz⟩ hm
end

end Go.Proofs.YtlhiadnolckoeaaGreatDoor.Abs
end

section
namespace Go.Proofs.YtlhiadnolckoeaaGreatDoor
open Go.RowKit Go.Maps

/-- the blocks of a tree S are the items of the plain tree T; β: the block of a number -/
structure Rep (S : TS) (T : Abs.T) (β : Nat → Nat) : Prop where
  root : S.root = β 1
  next : S.next = T.next
  many : S.many = (T.many : Int)
  inj : ∀ i j x y, T.get i = some x → T.get j = some y → β i = β j → i = j
  item : ∀ i x, T.get i = some x → ∃ y, S.items (β i) = some y ∧ y.ino = i ∧ y.mode = x.mode ∧ y.tick = x.tick ∧ y.dir = x.dir ∧ y.data = x.data ∧
    (x.dir = true → (∀ n, y.nf n = (Abs.lk x.names n).map β) ∧ y.up = β x.up) ∧ y.links = (T.links i : Int) ∧ y.held = (x.held : Int)
  files : ∀ i, S.files i = match T.get i with | some x => if x.dir then none else some (β i) | none => none
structure TreeIs (w : World) (t : Nat) (S : TS) (T : Abs.T) (β : Nat → Nat) : Prop where
  mem : TreeOf w t S
  rep : Rep S T β
  wf : T.WF

section
variable {w w' : World} {t : Nat} {S : TS} {T : Abs.T} {β : Nat → Nat}
theorem TreeIs.below (h : TreeIs w t S T β) (hb : Below w.heap.size w w') : TreeIs w' t S T β := ⟨h.mem.below hb, h.rep, h.wf⟩
/-- an item's block -/
theorem TreeIs.at_ (h : TreeIs w t S T β) {i : Nat} {x : Abs.Ent} (hx : T.get i = some x) : ∃ y, S.items (β i) = some y ∧ Blk w (β i) 211 (itemCells y) ∧ y.ino = i ∧ y.mode = x.mode ∧ y.tick = x.tick ∧ y.dir = x.dir ∧ y.data = x.data ∧
    (x.dir = true → (∀ n, y.nf n = (Abs.lk x.names n).map β) ∧ y.up = β x.up) ∧ y.links = (T.links i : Int) ∧ y.held = (x.held : Int) := by
  obtain ⟨y, h1, h2⟩ := h.rep.item i x hx
  exact ⟨y, h1, (h.mem.item _ _ h1).1, h2⟩
end

/-- the empty tree -/
theorem emptyT_rep (h : Nat) : Rep (emptyT h) Abs.emptyT (fun _ => h + 1) := by
  refine ⟨rfl, rfl, rfl, ?_, ?_, ?_⟩
  · intro i j x y hx hy _
    rw [(Abs.emptyT_get hx).1, (Abs.emptyT_get hy).1]
  · intro i x hx
    obtain ⟨rfl, rfl⟩ := Abs.emptyT_get hx
    exact ⟨rootItem h, by simp [emptyT], rfl, rfl, rfl, rfl, rfl, fun _ => ⟨fun _ => rfl, rfl⟩, rfl, rfl⟩
  · intro i
    show none = _
    cases hg : Abs.emptyT.get i with
    | none => rfl
    | some x => obtain ⟨rfl, rfl⟩ := Abs.emptyT_get hg; rfl
theorem emptyT_is {w : World} {t h : Nat} (hT : TreeOf w t (emptyT h)) : TreeIs w t (emptyT h) Abs.emptyT (fun _ => h + 1) := ⟨hT, emptyT_rep h, Abs.emptyT_wf⟩

end Go.Proofs.YtlhiadnolckoeaaGreatDoor
end

section
namespace Go.Proofs.YtlhiadnolckoeaaGreatDoor
open Go.RowKit

theorem segs_split (s : List UInt8) : Lib.splitK [47] 0 (s.count 47) s = Abs.segs s := by
  induction s with
  | nil => rfl
  | cons c l ih =>
    unfold Abs.segs
    by_cases hc : c = 47
    · subst hc
      rw [if_pos rfl, List.count_cons_self]
      unfold Lib.splitK
      have h0 : Lib.index (47 :: l) [47] = 0 := by rw [Lib.index_one]; simp [Lib.indexByte]
      rw [h0, if_neg (by decide)]
      simp [ih]
    · rw [if_neg hc, List.count_cons_of_ne hc, ← ih]
      cases hk : l.count 47 with
      | zero => simp [Lib.splitK]
      | succ k =>
        have hm : (47 : UInt8) ∈ l := List.count_pos_iff.1 (by omega)
        have hne : Lib.indexByte l 47 ≠ -1 := by
          intro h
          obtain ⟨i, hi⟩ := List.mem_iff_getElem?.1 hm
          exact Lib.indexByte_none h i hi
        have hge := Lib.indexByte_ge l 47
        obtain ⟨o, ho⟩ : ∃ o : Nat, Lib.indexByte l 47 = o := ⟨(Lib.indexByte l 47).toNat, by omega⟩
        have hcb : (c == 47) = false := beq_eq_false_iff_ne.2 hc
        have h1 : Lib.index (c :: l) [47] = ((o + 1 : Nat) : Int) := by
          rw [Lib.index_one]
          unfold Lib.indexByte
          rw [hcb, ho]
          have : ((o : Int) == -1) = false := beq_eq_false_iff_ne.2 (by omega)
          simp [this]
        have h2 : Lib.index l [47] = (o : Int) := by rw [Lib.index_one, ho]
        unfold Lib.splitK
        rw [h1, h2, if_neg (by simp; omega), if_neg (by simp)]
        simp

/-- the pieces, as strings -/
def segsB (s : ByteArray) : List ByteArray := (Abs.segs s.data.toList).map fun l => ⟨l.toArray⟩
theorem segsB_split (s : ByteArray) : Lib.splitB ⟨#[47]⟩ 0 (Lib.countB s ⟨#[47]⟩) s = segsB s := by
  have h := Lib.splitB_data ⟨#[47]⟩ 0 (Lib.countB s ⟨#[47]⟩) s
  have hc : Lib.countB s ⟨#[47]⟩ = s.data.toList.count 47 := Lib.count_one 47 s.data.toList
  have h2 : (Lib.splitB ⟨#[47]⟩ 0 (Lib.countB s ⟨#[47]⟩) s).map (·.data.toList) = Abs.segs s.data.toList := by
    rw [h, hc]
    exact segs_split s.data.toList
  unfold segsB
  rw [← h2, List.map_map]
  refine (List.map_id _).symm.trans (List.map_congr_left fun b _ => ?_)
  cases b
  rfl

theorem splitSlash (s : ByteArray) (w : World) (hs : s.size < 4294967281) :
    Calls Tryz.prog 159 #[.string s, .string ⟨#[47]⟩] w fun e w' =>
      e = .returned (.slice (some ⟨w.heap.size, 0, none⟩) (segsB s).length (segsB s).length) ∧ w' = w.alloc (.cells ((segsB s).map Value.string).toArray 9) := by
  have hsz : (⟨#[47]⟩ : ByteArray).size = 1 := rfl
  have hC : Calls Tryz.prog 223 #[.string s, .string ⟨#[47]⟩] w fun e w' => e = .returned (.int .i64 (Lib.countB s ⟨#[47]⟩)) ∧ w' = w := by
    refine (Tryz.strings_Count_one s 47 w).mono fun e w' ⟨he, hw⟩ => ⟨?_, hw⟩
    rw [he]
    show _ = Ending.returned (Value.int .i64 ((Lib.count s.data.toList [47] : Nat) : Int))
    rw [Lib.count_one]
    rfl
  have hI : ∀ (x : ByteArray) (c : Array Value), x.size ≤ s.size → Calls Tryz.prog 224 #[.string x, .string ⟨#[47]⟩] (w.alloc (.cells c 9)) fun e w' => e = .returned (.int .i64 (Lib.indexB x ⟨#[47]⟩)) ∧ w' = w.alloc (.cells c 9) := by
    intro x c _
    refine (Tryz.strings_Index_one x 47 _).mono fun e w' ⟨he, hw⟩ => ⟨?_, hw⟩
    rw [he]
    show _ = Ending.returned (Value.int .i64 (Lib.index x.data.toList [47]))
    rw [Lib.index_one]
  have hle := Lib.countB_le ⟨#[47]⟩ (by decide) s.size s (Nat.le_refl _)
  have hlen := Lib.splitB_all ⟨#[47]⟩ (by decide) 0 _ s rfl
  have c := Any.strings_genSplit_core Tryz.lays221 (by kernel_rfl) s ⟨#[47]⟩ 0 (-1) (Lib.countB s ⟨#[47]⟩ + 1) w hs (by decide) (by decide) hI hC (by decide) (by decide) (by rw [if_pos (by decide)]; omega)
  rw [Nat.add_sub_cancel, hlen] at c
  have e2 : Lib.cellsOf (Lib.splitB ⟨#[47]⟩ 0 (Lib.countB s ⟨#[47]⟩) s) (Lib.countB s ⟨#[47]⟩ + 1) = ((Lib.splitB ⟨#[47]⟩ 0 (Lib.countB s ⟨#[47]⟩) s).map Value.string).toArray := by rw [← hlen]; exact Lib.cellsOf_full _
  rw [e2] at c
  have hl2 : Lib.countB s ⟨#[47]⟩ + 1 = (segsB s).length := by rw [← hlen, segsB_split]
  rw [segsB_split, hl2] at c
  go_enter Tryz.func159, Tryz.ntmps159
  go_wp2_with (go_at_call 197; refine c.mono ?_; rintro e w' ⟨rfl, hw⟩; rw [hw])
  go_ret
  exact ⟨rfl, rfl⟩

end Go.Proofs.YtlhiadnolckoeaaGreatDoor
end

section
namespace Go.Proofs.YtlhiadnolckoeaaGreatDoor
open Go.RowKit
attribute [local go_sem] Oper.semAt_some

/-- all cells stand as they stood, but for those of a few blocks -/
def KeepCells (S : List Nat) (W W' : World) : Prop := W.heap.size ≤ W'.heap.size ∧ ∀ g o, W.heap[g]? = some o → o.isCells = true → g ∉ S → W'.heap[g]? = some o
theorem KeepCells.refl (S : List Nat) (W : World) : KeepCells S W W := ⟨Nat.le_refl _, fun _ _ h _ _ => h⟩
theorem KeepCells.trans {S : List Nat} {A B C : World} (h : KeepCells S A B) (k : KeepCells S B C) : KeepCells S A C := ⟨Nat.le_trans h.1 k.1, fun g o hg ho hS => k.2 g o (h.2 g o hg ho hS) ho hS⟩
theorem KeepCells.putObj {S : List Nat} (W : World) (l : Nat) (o o' : Obj) (h : W.heap[l]? = some o) (hc : o.isCells = false) : KeepCells S W (W.putObj l o') := by
  refine ⟨by have := (grownBy_putObj' W l o').size; exact this, fun g x hg hx _ => ?_⟩
  by_cases e : g = l
  · subst e; rw [h] at hg; cases hg; rw [hc] at hx; cases hx
  · exact (World.putObj_heap_other e).trans hg
theorem KeepCells.alloc (S : List Nat) (W : World) (o : Obj) : KeepCells S W (W.alloc o) := ⟨by simp, fun g x hg _ _ => (Below.heap_alloc W o g (Array.getElem?_eq_some_iff.1 hg).1).trans hg⟩
theorem KeepCells.setCell {S : List Nat} (W : World) (p : Addr) (v : Value) (hp : p.block ∈ S) : KeepCells S W (W.setCell p v) :=
  ⟨by simp [World.setCell], fun g x hg _ hS => (Below.heap_setCell W p v g (by rintro rfl; exact hS hp)).trans hg⟩
theorem KeepCells.boxed {S : List Nat} {W W' : World} {b : Nat} {t : TypeId} {v : Value} (h : KeepCells S W W') (hb : Boxed W b t v) (hS : b ∉ S) : Boxed W' b t v := h.2 b _ hb rfl hS
theorem KeepCells.blk {S : List Nat} {W W' : World} {b : Nat} {t : TypeId} {cs : Array Value} (h : KeepCells S W W') (hb : Blk W b t cs) (hS : b ∉ S) : Blk W' b t cs := h.2 b _ hb rfl hS

/-- the parts, as strings -/
def partsB (s : ByteArray) : List ByteArray := (Abs.parts s.data.toList).map fun l => ⟨l.toArray⟩
theorem partsB_segs (s : ByteArray) : partsB s = (segsB s).filter fun b => !b.toList.isEmpty := by
  unfold partsB segsB Abs.parts
  rw [List.filter_map]
  congr 1
  refine List.filter_congr fun l _ => ?_
  simp [Lib.toList_data]
/-- the parts among the first k pieces -/
def partsTo (s : ByteArray) (k : Nat) : List ByteArray := ((segsB s).take k).filter fun b => !b.toList.isEmpty
theorem partsTo_succ {s : ByteArray} {k : Nat} (h : k < (segsB s).length) : partsTo s (k + 1) = partsTo s k ++ if (segsB s)[k].toList.isEmpty then [] else [(segsB s)[k]] := by
  unfold partsTo
  rw [List.take_succ_eq_append_getElem h, List.filter_append]
  congr 1
  by_cases hc : (segsB s)[k].toList.isEmpty <;> simp [hc]
theorem partsTo_all (s : ByteArray) : partsTo s (segsB s).length = partsB s := by rw [partsB_segs, partsTo, List.take_length]
theorem partsTo_le (s : ByteArray) (k : Nat) : (partsTo s k).length ≤ (partsB s).length := by
  rw [partsB_segs, partsTo]
  exact ((List.take_sublist k _).filter _).length_le
theorem partsTo_prefix (s : ByteArray) (k : Nat) : ∃ j, partsTo s k = (partsB s).take j := by
  have h : (segsB s) = (segsB s).take k ++ (segsB s).drop k := (List.take_append_drop k _).symm
  refine ⟨(partsTo s k).length, ?_⟩
  rw [partsB_segs]
  conv => rhs; rw [h, List.filter_append]
  unfold partsTo
  simp
theorem segs_len (l : List UInt8) : (Abs.segs l).length = l.count 47 + 1 := by
  induction l with
  | nil => rfl
  | cons c l ih =>
    unfold Abs.segs
    split
    · rename_i h; subst h; simp [ih]
    · rename_i h
      rw [List.count_cons_of_ne h]
      cases hs : Abs.segs l with
      | nil => rw [hs] at ih; simp at ih
      | cons a b => rw [hs] at ih; simpa using ih
theorem segsB_len (s : ByteArray) : (segsB s).length ≤ s.size + 1 := by
  unfold segsB
  rw [List.length_map, segs_len]
  have := List.count_le_length (a := (47 : UInt8)) (l := s.data.toList)
  have e : s.data.toList.length = s.size := rfl
  omega
/-- what the iterator yields -/
def encStr (x : ByteArray) : Array Value := #[.string x]

set_option maxRecDepth 100000 in
set_option maxHeartbeats 2000000 in
theorem parts1_in (F : Fence) (n : Nat) (h1 : F.fn 227) (h2 : F.fn 159) (hW2 : ∀ {args w R}, Calls Tryz.prog 159 args w R → CallsIn F (n - 1) Tryz.prog 159 args w R) (hro : F.round = none) (hn : 1 ≤ n) (lp Bs : Nat) (s : ByteArray) (hs : s.size < 1073741824) (Kp : World → World → Prop) (Off : World → Nat → Prop) (hKO : ∀ A B g, Kp A B → Off A g → B.heap[g]? = A.heap[g]? ∧ Off B g)
    (J Jx : List ByteArray → World → Prop) (W : World) (hJ : AbidesFrom W.heap.size J) (hO : ∀ cs t, Off (W.alloc (.cells cs t)) W.heap.size) (hBs : Boxed W Bs 9 (.string s))
    (hY : ∀ pre x W1, J pre W1 → pre.length < (partsB s).length → YieldAt F (n - 1) Tryz.prog lp (encStr x) W1 fun e W' =>
      (e = .returned (.bool true) ∧ J (pre ++ [x]) W' ∧ Kp W1 W') ∨ (e = .returned (.bool false) ∧ Jx (pre ++ [x]) W'))
    (h0 : J [] W) :
    CallsIn F n Tryz.prog 227 #[.func (.yield lp) #[] #[], .pointer (some ⟨Bs, 0, none⟩)] W fun e W' => (∃ v, e = .returned v) ∧
      ((∃ ys, ys = partsB s ∧ J ys W') ∨ (∃ pre, (∃ k, pre = (partsB s).take k) ∧ Jx pre W')) := by
  have hcB := hBs.cell
  have hsl := segsB_len s
  refine callsIn_of_wp Tryz.func227 rfl h1 ?_ hro
  simp only [Tryz.ntmps227, List.size_toArray, List.length_cons, List.length_nil, Nat.reduceAdd, Nat.reduceSub, Array.replicate_succ, Array.replicate_zero, List.push_toArray, List.append_toArray, List.nil_append, List.cons_append]
  gi_wp2_with (gi_at_call 159; refine (hW2 (splitSlash s _ (by omega))).mono ?_; rintro e w1 ⟨rfl, rfl⟩)
  have hbk : Blk (W.alloc (.cells ((segsB s).map Value.string).toArray 9)) W.heap.size 9 ((segsB s).map Value.string).toArray := Blk.new W _ _
  have hJ0 : J [] (W.alloc (.cells ((segsB s).map Value.string).toArray 9)) := hJ _ _ _ none h0 (World.grownBy_alloc W _ none) (fun r e => by cases e)
  have hnS := hO ((segsB s).map Value.string).toArray 9
  obtain ⟨W0, hW0⟩ : ∃ W0, W.alloc (.cells ((segsB s).map Value.string).toArray 9) = W0 := ⟨_, rfl⟩
  rw [hW0] at hbk hJ0 hnS ⊢
  clear hW0
  obtain ⟨r, hr⟩ : ∃ r, W.heap.size = r := ⟨_, rfl⟩
  rw [hr] at hbk hnS ⊢
  clear hr
  have HKO := Lib.hid hKO
  have hY' := Lib.hid hY
  have hJ' := Lib.hid hJ
  clear hY hJ hKO hO
  have hto := Lib.hid (partsTo_all s)
  obtain ⟨N, hN⟩ : ∃ N, (segsB s).length = N := ⟨_, rfl⟩
  have HN := Lib.hid hN
  rw [hN] at hsl ⊢
  clear hN
  gi_loopw [8] (fun i wr => ∃ k : Nat, k ≤ N ∧ i = .int .i64 k ∧ J (partsTo s k) wr ∧ Blk wr r 9 ((segsB s).map Value.string).toArray ∧ Hid (Off wr r)) (fun i _ => N - (intOf i).toNat)
  case atStart => exact ⟨0, Nat.zero_le _, rfl, hJ0, hbk, Lib.hid hnS⟩
  case round =>
    obtain ⟨k, hk, rfl, hJk, hbl, hof⟩ := hrel
    by_cases hlt : k < N
    · have hlt' : k < (segsB s).length := by rw [HN.out]; exact hlt
      obtain ⟨x, hx⟩ : ∃ x, (segsB s)[k] = x := ⟨_, rfl⟩
      have hce : wr.cell? ⟨r, k, none⟩ = some (.string x) := by
        rw [hbl.cell]
        simp [← hx, hlt']
      have hsu := partsTo_succ hlt'
      rw [hx] at hsu
      by_cases he : x.toList.isEmpty = true
      · rw [if_pos he, List.append_nil] at hsu
        have HS := Lib.hid hsu
        clear hsu hx
        gi_wp2
        refine ⟨fun f hf => (by cases hf), ?_⟩
        gi_wp2
        go_roundw
        case rel => exact ⟨k + 1, by omega, by go_num, by rw [HS.out]; exact hJk, hbl, hof⟩
        case measure => simp [intOf]; omega
      · rw [if_neg he] at hsu
        have he' : x.toList.isEmpty = false := by simpa using he
        have HS := Lib.hid hsu
        have hpl : (partsTo s k).length < (partsB s).length := by
          have h1 := partsTo_le s (k + 1)
          rw [hsu] at h1
          rw [List.length_append, List.length_singleton] at h1
          omega
        obtain ⟨fn, tmps, assign, body, hy, hRr⟩ := hY'.out _ x wr hJk hpl
        simp only [encStr] at hy
        clear hsu hx hpl
        gi_wp2
        refine hRr.mono ?_
        rintro e W3 (⟨rfl, hJ3, hk3⟩ | ⟨rfl, hJx3⟩)
        · have hb3 : Blk W3 r 9 _ := (HKO.out _ _ r hk3 hof.out).1.trans hbl
          have hof3 := Lib.hid (HKO.out _ _ r hk3 hof.out).2
          gi_wp2
          go_roundw
          case rel => exact ⟨k + 1, by omega, by go_num, by rw [HS.out]; exact hJ3, hb3, hof3⟩
          case measure => simp [intOf]; omega
        · obtain ⟨j, hj⟩ := partsTo_prefix s (k + 1)
          rw [HS.out] at hj
          have HJ := Lib.hid hj
          clear hj
          gi_wp2
          refine bodyPost_ret (results_none rfl _ _ _) rfl ?_
          exact ⟨⟨_, rfl⟩, .inr ⟨_, ⟨j, HJ.out⟩, hJx3⟩⟩
    · obtain rfl : k = N := by omega
      gi_wp2
      go_end0
      exact ⟨⟨_, rfl⟩, .inl ⟨_, rfl, by rw [← hto.out, HN.out]; exact hJk⟩⟩

theorem parts1_stopsK (F : Fence) (n : Nat) (h1 : F.fn 227) (h2 : F.fn 159) (hW2 : ∀ {args w R}, Calls Tryz.prog 159 args w R → CallsIn F (n - 1) Tryz.prog 159 args w R) (hro : F.round = none) (hn : 1 ≤ n) (Bs : Nat) (s : ByteArray) (hs : s.size < 1073741824)
    (Kp : World → World → Prop) (Off : World → Nat → Prop) (hKO : ∀ A B g, Kp A B → Off A g → B.heap[g]? = A.heap[g]? ∧ Off B g)
    (w : World) (hO : ∀ W, Below w.heap.size w W → ∀ cs t, Off (W.alloc (.cells cs t)) W.heap.size) (hBs : Boxed w Bs 9 (.string s)) :
    SeqStopsK F n Tryz.prog 227 #[.pointer (some ⟨Bs, 0, none⟩)] encStr Kp (fun ys => ys = partsB s) (fun pre => ∃ k, pre = (partsB s).take k) (partsB s).length w := fun lp J Jx W hW hJ _ hY h0 =>
  parts1_in F n h1 h2 hW2 hro hn lp Bs s hs Kp Off hKO J Jx W hJ (hO W hW) (show W.heap[Bs]? = _ from (hW.block Bs hBs.lt).trans hBs) hY h0

theorem parts1_stops (F : Fence) (n : Nat) (h1 : F.fn 227) (h2 : F.fn 159) (hW2 : ∀ {args w R}, Calls Tryz.prog 159 args w R → CallsIn F (n - 1) Tryz.prog 159 args w R) (hro : F.round = none) (hn : 1 ≤ n) (Bs : Nat) (s : ByteArray) (hs : s.size < 1073741824) (S : List Nat)
    (w : World) (hS : ∀ g ∈ S, g < w.heap.size) (hBs : Boxed w Bs 9 (.string s)) :
    SeqStopsK F n Tryz.prog 227 #[.pointer (some ⟨Bs, 0, none⟩)] encStr (KeepCells S) (fun ys => ys = partsB s) (fun pre => ∃ k, pre = (partsB s).take k) (partsB s).length w :=
  parts1_stopsK F n h1 h2 hW2 hro hn Bs s hs (KeepCells S) (fun W g => (∃ t cs, Blk W g t cs) ∧ g ∉ S)
    (fun A B g hk ⟨⟨t, cs, hb⟩, hg⟩ => ⟨(hk.blk hb hg).trans (show A.heap[g]? = _ from hb).symm, ⟨t, cs, hk.blk hb hg⟩, hg⟩) w
    (fun W hW cs t => ⟨⟨t, cs, Blk.new W t cs⟩, fun h => by have := hS _ h; have := hW.size; omega⟩) hBs

set_option maxHeartbeats 1000000 in
theorem parts_in (F : Fence) (n : Nat) (h : F.fn 201) (hro : F.round = none) (s : ByteArray) (w : World) :
    CallsIn F n Tryz.prog 201 #[.string s] w fun e w' => e = .returned (.func (.func 227) #[] #[.pointer (some ⟨w.heap.size, 0, none⟩)]) ∧ w' = w.alloc (.cells #[.string s] 9) := by
  refine callsIn_of_wp Tryz.func201 rfl h ?_ hro
  simp only [Tryz.ntmps201, List.size_toArray, List.length_cons, List.length_nil, Nat.reduceAdd, Nat.reduceSub, Array.replicate_succ, Array.replicate_zero, List.push_toArray, List.append_toArray, List.nil_append, List.cons_append]
  gi_wp2
  go_ret
  exact ⟨rfl, rfl⟩

end Go.Proofs.YtlhiadnolckoeaaGreatDoor
end

section
namespace Go.Proofs.YtlhiadnolckoeaaGreatDoor
open Go.RowKit

/-- what a rune is made of that begins with a byte beyond ASCII -/
theorem decode_hi (s : ByteArray) (i : Nat) (h0 : 128 ≤ (s.get! i).toNat) :
    128 ≤ (Utf8.decode s i).1 ∧ ((Utf8.decode s i).1 < 55296 ∨ 57344 ≤ (Utf8.decode s i).1 ∧ (Utf8.decode s i).1 ≤ 1114111) ∧ 1 ≤ (Utf8.decode s i).2 ∧ ∀ k, 1 ≤ k → k < (Utf8.decode s i).2 → i + k < s.size ∧ 128 ≤ (s.get! (i + k)).toNat := by
  obtain ⟨d, hd⟩ : ∃ d, Utf8.decode s i = d := ⟨_, rfl⟩
  rw [hd]
  unfold Utf8.decode at hd
  obtain ⟨b0, e0⟩ : ∃ b, (s.get! i).toNat = b := ⟨_, rfl⟩
  obtain ⟨b1, e1⟩ : ∃ b, (s.get! (i + 1)).toNat = b := ⟨_, rfl⟩
  obtain ⟨b2, e2⟩ : ∃ b, (s.get! (i + 2)).toNat = b := ⟨_, rfl⟩
  obtain ⟨b3, e3⟩ : ∃ b, (s.get! (i + 3)).toNat = b := ⟨_, rfl⟩
  have l0 : b0 < 256 := by rw [← e0]; exact (s.get! i).toNat_lt
  rw [e0] at h0
  simp only [Nat.add_zero, e0, e1, e2, e3, Bool.and_eq_true, decide_eq_true_eq, beq_iff_eq, Utf8.valid, Bool.or_eq_true, ge_iff_le] at hd
  rw [if_neg (show ¬ b0 < 128 by omega)] at hd
  have bad : ∀ d, (Utf8.runeError, 1) = d → 128 ≤ d.1 ∧ (d.1 < 55296 ∨ 57344 ≤ d.1 ∧ d.1 ≤ 1114111) ∧ 1 ≤ d.2 ∧ ∀ k, 1 ≤ k → k < d.2 → i + k < s.size ∧ 128 ≤ (s.get! (i + k)).toNat := by
    rintro d rfl
    refine ⟨by decide, by decide, by decide, fun k h1 h2 => ?_⟩
    simp only at h2
    omega
  split at hd
  · split at hd
    · subst hd
      refine ⟨by simp only; omega, by simp only; omega, by simp only; omega, fun k h1 h2 => ?_⟩
      simp only at h2
      obtain rfl : k = 1 := by omega
      exact ⟨by omega, by omega⟩
    · exact bad _ hd
  · split at hd
    · split at hd
      · subst hd
        refine ⟨by simp only; omega, by simp only; omega, by simp only; omega, fun k h1 h2 => ?_⟩
        simp only at h2
        rcases (show k = 1 ∨ k = 2 by omega) with rfl | rfl
        · exact ⟨by omega, by omega⟩
        · exact ⟨by omega, by omega⟩
      · exact bad _ hd
    · split at hd
      · split at hd
        · subst hd
          refine ⟨by simp only; omega, by simp only; omega, by simp only; omega, fun k h1 h2 => ?_⟩
          simp only at h2
          rcases (show k = 1 ∨ k = 2 ∨ k = 3 by omega) with rfl | rfl | rfl
          · exact ⟨by omega, by omega⟩
          · exact ⟨by omega, by omega⟩
          · exact ⟨by omega, by omega⟩
        · exact bad _ hd
      · exact bad _ hd

/-- what a rune beyond ASCII is told by: two bytes at least, the last one beyond ASCII -/
theorem encode_hi (r : Int) (h0 : 128 ≤ r) (h1 : r ≤ 1114111) : ∃ s : ByteArray, Utf8.encode r = s ∧ 2 ≤ s.size ∧ s.size ≤ 4 ∧ ∃ x : UInt8, s.data.toList[s.size - 1]? = some x ∧ 128 ≤ x.toNat := by
  obtain ⟨d, hd⟩ : ∃ d, Utf8.encode r = d := ⟨_, rfl⟩
  refine ⟨d, hd, ?_⟩
  unfold Utf8.encode at hd
  obtain ⟨c, hc⟩ : ∃ c, (if Utf8.valid r then r.toNat else Utf8.runeError) = c := ⟨_, rfl⟩
  have hc1 : 128 ≤ c := by
    rw [← hc]
    split
    · omega
    · decide
  have hlast : ∀ n : Nat, 128 ≤ (UInt8.ofNat (0x80 + n % 64)).toNat := fun n => by simp; omega
  simp only [hc] at hd
  rw [if_neg (show ¬ c < 128 by omega)] at hd
  split at hd
  · subst hd; exact ⟨show 2 ≤ 2 by decide, show 2 ≤ 4 by decide, _, rfl, hlast _⟩
  · split at hd
    · subst hd; exact ⟨show 2 ≤ 3 by decide, show 3 ≤ 4 by decide, _, rfl, hlast _⟩
    · subst hd; exact ⟨show 2 ≤ 4 by decide, show 4 ≤ 4 by decide, _, rfl, hlast _⟩

theorem below_iter (w : World) (s : ByteArray) (n : Nat) : Below w.heap.size w (w.iter s n) := by
  have h := (Below.refl w.heap.size w).alloc (Nat.le_refl _) (.stringIter s n)
  exact h

set_option maxRecDepth 100000 in
set_option maxHeartbeats 2000000 in
theorem idxRuneHi (r : Int) (h0 : 128 ≤ r) (h1 : r < 55296 ∨ 57344 ≤ r ∧ r ≤ 1114111) (w : World) :
    Calls Tryz.prog 125 #[.string ⟨#[47, 0]⟩, .int .i32 r] w fun e w' => e = .returned (.int .i64 (-1)) ∧ Below w.heap.size w w' := by
  by_cases he : r = 65533
  · subst he
    have n0 := fun ty => run_next_ascii (P := Tryz.prog) w ⟨#[47, 0]⟩ 0 ty (by decide) (by decide)
    have n1 := fun ty => run_next_ascii (P := Tryz.prog) w ⟨#[47, 0]⟩ 1 ty (by decide) (by decide)
    have n2 := fun ty => run_next_end (P := Tryz.prog) w ⟨#[47, 0]⟩ 2 ty (by decide)
    go_enter Tryz.func125, Tryz.ntmps125
    go_wp2
    refine wp_loop_rounds 3 ?_
    rw [rounds_succ]
    go_wp2
    rw [rounds_succ]
    go_wp2
    rw [rounds_succ]
    go_wp2
    go_ret
    exact ⟨rfl, below_iter w _ 2⟩
  · have hne : (r == 65533) = false := beq_eq_false_iff_ne.2 he
    obtain ⟨R, hR, hR2, hR4, x, hx, hx8⟩ := encode_hi r h0 (by omega)
    have hv : Lib.validRune r = true := by
      simp [Lib.validRune]
      omega
    have HX := Lib.hid hx
    clear hx
    have z0 : ((0 : Int) == (x.toNat : Int)) = false := beq_eq_false_iff_ne.2 (by omega)
    rcases (show R.size = 2 ∨ 3 ≤ R.size by omega) with h2 | h3
    · obtain ⟨y, rfl⟩ : ∃ y, R = ⟨#[y, x]⟩ := by
        have hx := HX.out
        obtain ⟨⟨l⟩⟩ := R
        have hl : l.length = 2 := h2
        match l, hl with
        | [a, b], _ =>
          have e1 : b = x := by injection hx
          exact ⟨a, by rw [e1]⟩
      go_enter Tryz.func125, Tryz.ntmps125
      go_wp2_with (go_at_call 153; refine (Tryz.utf8_ValidRune _ _).mono ?_; rintro e w' ⟨rfl, hw⟩; rw [hw, hv])
      go_step3
      go_wp2_with fail
      refine wp_loop_rounds 1 ?_
      rw [rounds_succ]
      go_wp2
      go_step3
      go_wp2
      have hz : ((((⟨#[47, 0]⟩ : ByteArray)[1]'(by decide)).toNat : Int) != (((⟨#[y, x]⟩ : ByteArray)[1]'(show 1 < 2 by decide)).toNat : Int)) = true := by
        show ((0 : Int) != (x.toNat : Int)) = true
        rw [bne, z0]; rfl
      go_quiet (fail)
      go_wp2
      go_quiet ((go_at_call 64; exact quiet_add_same ((Tryz.strings_IndexByte (⟨#[]⟩) _ _).mono fun _ _ h => h)))
      go_wp2
      rw [Exit.noGoto_ret]
      go_wp2
      rw [Exit.noGoto_ret]
      go_ret
      exact ⟨rfl, below_drewN (Below.refl _ _) _⟩
    · go_enter Tryz.func125, Tryz.ntmps125
      go_wp2_with (go_at_call 153; refine (Tryz.utf8_ValidRune _ _).mono ?_; rintro e w' ⟨rfl, hw⟩; rw [hw, hv])
      go_step3
      go_wp2_with fail
      refine wp_loop_rounds 1 ?_
      rw [rounds_succ]
      go_wp2
      rw [Exit.noGoto_ret]
      go_ret
      exact ⟨rfl, Below.refl _ _⟩

theorem below_iterAt {w wr : World} {s : ByteArray} {n : Nat} (h : Below w.heap.size w wr) : Below w.heap.size w (wr.iterAt w.heap.size s n) :=
  ⟨h.os, h.tape, h.output, by simpa [World.iterAt] using h.size, fun g hg => (by
    show (wr.heap.setIfInBounds w.heap.size _)[g]? = _
    rw [Array.getElem?_setIfInBounds_ne (by omega)]
    exact h.block g hg)⟩
set_option maxRecDepth 100000 in
set_option maxHeartbeats 2000000 in
theorem idxAnyShort (s : ByteArray) (h8 : s.size ≤ 8) (w : World) :
    Calls Tryz.prog 225 #[.string s, .string ⟨#[47, 0]⟩] w fun e w' => e = .returned (.int .i64 (Lib.indexAny s.data.toList [47, 0])) ∧ Below w.heap.size w w' := by
  have h8z : decide ((8 : Int) < (s.size : Int)) = false := decide_eq_false (by omega)
  have hw0 : Below w.heap.size w (w.alloc (.stringIter s 0)) := (Below.refl _ w).alloc (Nat.le_refl _) _
  go_enter Tryz.func225, Tryz.ntmps225
  go_wp2_with (go_at_call 236; refine (Tryz.strings_shouldUseASCIISet _ _).mono ?_; rintro e w' ⟨rfl, hw⟩; rw [hw, h8z])
  go_loopg [9, 10] s.size (fun g _ _ wx => ∃ i : Nat, g = s.size - i ∧ i ≤ s.size ∧ Below w.heap.size w wx ∧ wx.heap[w.heap.size]? = some (.stringIter s i) ∧ Hid (Lib.NoAny s.data.toList [47, 0] i))
  case atStart => exact ⟨0, rfl, Nat.zero_le _, hw0, World.iter_heap w _ _, Lib.hid (Lib.NoAny.zero _ _)⟩
  case round =>
    obtain ⟨i, hig, hile, hbw, hit, hno⟩ := hrel
    by_cases hi : i < s.size
    · obtain ⟨x, hx⟩ : ∃ x : UInt8, s[i]'hi = x := ⟨_, rfl⟩
      have hxl : s.data.toList[i]? = some x := by rw [← hx]; exact Lib.data_getElem? s i hi
      by_cases h128 : x.toNat < 128
      · have hnx := fun ty => Lib.run_next_ascii_at (P := Tryz.prog) wr w.heap.size s i ty hit hi (by rw [hx]; exact h128)
        rw [hx] at hnx
        have hcon := Lib.contains_iff_indexByte [47, 0] x
        have hback : ((x.toNat : Int)).toNat.toUInt8 = x := by simp
        have Hx := Lib.hid hxl
        clear hxl hx
        have hit2 := Lib.iterAt_heap wr w.heap.size s i (i + 1) hit
        have hbw2 : Below w.heap.size w (wr.iterAt w.heap.size s (i + 1)) := below_iterAt hbw
        cases hin : ([47, 0] : List UInt8).contains x
        · rw [hin] at hcon
          have hlt : ¬ ((0 : Int) ≤ Lib.indexByte [47, 0] x) := of_decide_eq_false hcon.symm
          clear hcon
          go_wp2_with (go_at_call 125; refine (Tryz.strings_IndexRune_ascii _ _ _ (by omega) (by omega)).mono ?_; rintro e w' ⟨rfl, hw⟩; rw [hw, hback])
          go_roundg (s.size - (i + 1))
          case measure => omega
          case rel => exact ⟨i + 1, rfl, by omega, hbw2, hit2, Lib.hid (hno.out.succ Hx.out hin)⟩
        · rw [hin] at hcon
          have hge : (0 : Int) ≤ Lib.indexByte [47, 0] x := of_decide_eq_true hcon.symm
          clear hcon
          go_wp2_with (go_at_call 125; refine (Tryz.strings_IndexRune_ascii _ _ _ (by omega) (by omega)).mono ?_; rintro e w' ⟨rfl, hw⟩; rw [hw, hback])
          go_ret
          exact ⟨by rw [Lib.indexAny_hit hno.out Hx.out hin]; rfl, hbw2⟩
      · have hnx := fun ty => Lib.run_next_any_at (P := Tryz.prog) wr w.heap.size s i ty hit hi
        have hg : s.get! i = x := by
          have h1 : s.get! i = s.data[i]! := rfl
          rw [h1, getElem!_pos s.data i hi]
          exact hx
        obtain ⟨d1, d2, d3, d4⟩ := decode_hi s i (by rw [hg]; omega)
        obtain ⟨n, hn⟩ : ∃ n, (Utf8.decode s i).2 = n := ⟨_, rfl⟩
        obtain ⟨r, hr⟩ : ∃ r, (Utf8.decode s i).1 = r := ⟨_, rfl⟩
        rw [hr] at d1 d2
        rw [hn] at d3 d4
        rw [hn, hr] at hnx
        have hit2 := Lib.iterAt_heap wr w.heap.size s i (i + n) hit
        have hbw2 : Below w.heap.size w (wr.iterAt w.heap.size s (i + n)) := below_iterAt hbw
        have hin : i + n ≤ s.size := by
          by_cases h1 : n = 1
          · omega
          · have := (d4 (n - 1) (by omega) (by omega)).1; omega
        have hno2 : Hid (Lib.NoAny s.data.toList [47, 0] (i + n)) := Lib.hid (by
          intro j b hj hb
          by_cases hji : j < i
          · exact hno.out j b hji hb
          · have hjs : j < s.size := by omega
            have hb2 : s.get! j = b := by
              have h1 : s.get! j = s.data[j]! := rfl
              rw [h1, getElem!_pos s.data j hjs]
              have := Lib.data_getElem? s j hjs
              rw [this] at hb
              exact Option.some.inj hb
            have hb3 : 128 ≤ b.toNat := by
              by_cases hje : j = i
              · subst hje; rw [← hb2, hg]; omega
              · have := (d4 (j - i) (by omega) (by omega)).2
                rw [show i + (j - i) = j by omega, hb2] at this
                exact this
            simp only [List.contains_cons, List.contains_nil, Bool.or_false, Bool.or_eq_false_iff, beq_eq_false_iff_ne, ne_eq]
            exact ⟨by rintro rfl; exact absurd hb3 (by decide), by rintro rfl; exact absurd hb3 (by decide)⟩)
        clear hn hr d4 hg hx hxl
        go_wp2_with (go_at_call 125; refine (idxRuneHi _ (by omega) (by omega) _).mono ?_; rintro e w2 ⟨rfl, hb2⟩)
        go_roundg (s.size - (i + n))
        case measure => omega
        case rel => exact ⟨i + n, rfl, hin, hbw2.trans (hb2.mono (Nat.le_trans hbw2.size (Nat.le_refl _))), (hb2.block _ (Array.getElem?_eq_some_iff.1 hit2).1).trans hit2, hno2⟩
    · obtain rfl : i = s.size := by omega
      have hnx := fun ty => Lib.run_next_end_at (P := Tryz.prog) wr w.heap.size s s.size ty hit (by omega)
      go_wp2
      go_ret
      exact ⟨by rw [Lib.indexAny_none (by rw [← Lib.size_eq]; exact hno.out)]; rfl, hbw⟩

theorem idxAny_any (l : List UInt8) : decide (0 ≤ Lib.indexAny l [47, 0]) = l.any fun c => c == 47 || c == 0 := by
  induction l with
  | nil => rfl
  | cons b l ih =>
    have hge := Lib.indexAny_ge [47, 0] l
    rw [List.any_cons, ← ih]
    rw [show Lib.indexAny (b :: l) [47, 0] = if ([47, 0] : List UInt8).contains b = true then 0 else if (Lib.indexAny l [47, 0] == -1) = true then -1 else Lib.indexAny l [47, 0] + 1 from rfl]
    by_cases hb : b = 47 ∨ b = 0
    · rcases hb with rfl | rfl <;> simp
    · obtain ⟨h1, h2⟩ := not_or.1 hb
      have hc : ([47, 0] : List UInt8).contains b = false := by simp [h1, h2]
      simp only [hc, Bool.false_eq_true, if_false, beq_eq_false_iff_ne.2 h1, beq_eq_false_iff_ne.2 h2, Bool.or_false, Bool.false_or]
      by_cases hm : Lib.indexAny l [47, 0] = -1
      · rw [hm]; rfl
      · rw [if_neg (by simpa using hm)]
        rw [decide_eq_decide]
        omega

set_option maxRecDepth 100000 in
set_option maxHeartbeats 2000000 in
theorem containsAny_any (s : ByteArray) (w : World) (hs : s.size < 4294967281) :
    Calls Tryz.prog 198 #[.string s, .string ⟨#[47, 0]⟩] w fun e w' => e = .returned (.bool (s.data.toList.any fun c => c == 47 || c == 0)) ∧ Below w.heap.size w w' := by
  have hI : Calls Tryz.prog 225 #[.string s, .string ⟨#[47, 0]⟩] w fun e w' => e = .returned (.int .i64 (Lib.indexAny s.data.toList [47, 0])) ∧ Below w.heap.size w w' := by
    by_cases h8 : s.size ≤ 8
    · exact idxAnyShort s h8 w
    · refine (Tryz.strings_IndexAny_long (fun w => by kernel_rfl) s ⟨#[47, 0]⟩ w (by decide) (by omega) hs (by decide) ?_).mono ?_
      · intro j b hb
        match j, hb with
        | 0, hb => cases hb; decide
        | 1, hb => cases hb; decide
      · rintro e w' ⟨rfl, rfl⟩
        exact ⟨rfl, ((Below.refl _ w).alloc (Nat.le_refl _) _).alloc (by simp) _⟩
  have hx := idxAny_any s.data.toList
  obtain ⟨i, hi⟩ : ∃ i, Lib.indexAny s.data.toList [47, 0] = i := ⟨_, rfl⟩
  rw [hi] at hI hx
  rw [← hx]
  clear hx hi
  go_enter Tryz.func198, Tryz.ntmps198
  go_wp2_with (go_at_call 225; refine hI.mono ?_; rintro e w' ⟨rfl, hb⟩)
  go_ret
  exact ⟨rfl, hb⟩

set_option maxRecDepth 100000 in
set_option maxHeartbeats 2000000 in
theorem named_any (s : ByteArray) (w : World) :
    Calls Tryz.prog 160 #[.string s] w fun e w' => e = .returned (.bool (Abs.named s.data.toList)) ∧ Below w.heap.size w w' := by
  obtain ⟨b, hb⟩ : ∃ b, (s.data.toList.any fun c => c == 47 || c == 0) = b := ⟨_, rfl⟩
  have hsz : s.data.toList.length = s.size := rfl
  obtain ⟨n, hn⟩ : ∃ n, Abs.named s.data.toList = n := ⟨_, rfl⟩
  rw [hn]
  unfold Abs.named at hn
  rw [hb, hsz] at hn
  by_cases h0 : s.size = 0
  · have : n = false := by
      have e : s.data.toList = [] := List.eq_nil_of_length_eq_zero (by omega)
      rw [e] at hn; rw [← hn]; rfl
    subst this
    clear hn hb hsz
    go_enter Tryz.func160, Tryz.ntmps160
    go_wp2
    go_ret
    exact ⟨rfl, Below.refl _ _⟩
  have h1 : decide ((1 : Int) ≤ (s.size : Int)) = true := decide_eq_true (by omega)
  by_cases h32 : 32 < s.size
  · have : n = false := by
      have e : decide (s.size ≤ 32) = false := decide_eq_false (by omega)
      rw [e] at hn; rw [← hn]; simp
    subst this
    clear hn hb hsz
    have h2 : decide ((s.size : Int) ≤ 32) = false := decide_eq_false (by omega)
    go_enter Tryz.func160, Tryz.ntmps160
    go_wp2
    go_ret
    exact ⟨rfl, Below.refl _ _⟩
  have h2 : decide ((s.size : Int) ≤ 32) = true := decide_eq_true (by omega)
  by_cases hd : s = ⟨#[46]⟩
  · subst hd
    have : n = false := by rw [← hn]; rfl
    subst this
    clear hn hb hsz
    go_enter Tryz.func160, Tryz.ntmps160
    go_wp2
    go_ret
    exact ⟨rfl, Below.refl _ _⟩
  by_cases hdd : s = ⟨#[46, 46]⟩
  · subst hdd
    have : n = false := by rw [← hn]; rfl
    subst this
    clear hn hb hsz
    go_enter Tryz.func160, Tryz.ntmps160
    go_wp2
    go_ret
    exact ⟨rfl, Below.refl _ _⟩
  have : n = !b := by
    have e1 : s.data.toList.isEmpty = false := by
      cases h : s.data.toList with
      | nil => rw [h] at hsz; simp at hsz; omega
      | cons _ _ => rfl
    have e2 : decide (s.size ≤ 32) = true := decide_eq_true (by omega)
    have e3 : (s.data.toList == Abs.dot) = false := beq_eq_false_iff_ne.2 fun e => hd (by obtain ⟨⟨l⟩⟩ := s; exact congrArg (fun l => (⟨⟨l⟩⟩ : ByteArray)) e)
    have e4 : (s.data.toList == Abs.dotdot) = false := beq_eq_false_iff_ne.2 fun e => hdd (by obtain ⟨⟨l⟩⟩ := s; exact congrArg (fun l => (⟨⟨l⟩⟩ : ByteArray)) e)
    rw [e1, e2, e3, e4] at hn
    rw [← hn]; rfl
  subst this
  have hc := containsAny_any s w (by omega)
  rw [hb] at hc
  clear hn hb hsz
  have hd' : ¬ s.toList = [46] := fun e => hd (by rw [Lib.toList_data] at e; obtain ⟨⟨l⟩⟩ := s; exact congrArg (fun l => (⟨⟨l⟩⟩ : ByteArray)) e)
  have hdd' : ¬ s.toList = [46, 46] := fun e => hdd (by rw [Lib.toList_data] at e; obtain ⟨⟨l⟩⟩ := s; exact congrArg (fun l => (⟨⟨l⟩⟩ : ByteArray)) e)
  clear hd hdd
  go_enter Tryz.func160, Tryz.ntmps160
  go_wp2_with (go_at_call 198; refine hc.mono ?_; rintro e w' ⟨rfl, hb⟩)
  go_ret
  refine ⟨?_, hb⟩
  have e1 : (s.toList == [46]) = false := beq_eq_false_iff_ne.2 hd'
  have e2 : (s.toList == [46, 46]) = false := beq_eq_false_iff_ne.2 hdd'
  show Ending.returned (Value.bool ((!(s.toList == [46])) && (!(s.toList == [46, 46])) && !b)) = _
  rw [e1, e2]
  rfl

end Go.Proofs.YtlhiadnolckoeaaGreatDoor
end

section
namespace Go.Proofs.YtlhiadnolckoeaaGreatDoor
open Go.RowKit Go.Maps
attribute [local go_sem] Oper.semAt_some

/-- a path's first parts, as lists of bytes -/
def plainL (l : List ByteArray) : List Abs.Name := l.map (·.data.toList)
theorem plainL_parts (s : ByteArray) : plainL (partsB s) = Abs.parts s.data.toList := by simp [plainL, partsB, Function.comp_def]
/-- what leads answers -/
def leadsV (β : Nat → Nat) : Except Nat Nat → Value
  | .ok j => .tuple #[ptrV (β j), .int .i64 0]
  | .error e => .tuple #[.pointer none, .int .i64 (e : Int)]
theorem stringKeys : Keyed Tryz.prog 9 := string_keyed Tryz.underlying9

theorem leads_append {t : Abs.T} : ∀ (l m : List Abs.Name) (i : Nat), t.leads i (l ++ m) = match t.leads i l with | .ok j => t.leads j m | .error e => .error e := by
  intro l
  induction l with
  | nil => intro m i; simp [Abs.T.leads]
  | cons p ps ih =>
    intro m i
    rw [List.cons_append, Abs.T.leads_cons, Abs.T.leads_cons]
    cases t.step i p with
    | error e => rfl
    | ok j => exact ih m j
theorem leads_snoc {t : Abs.T} (l : List Abs.Name) (p : Abs.Name) (i j : Nat) (h : t.leads i l = .ok j) : t.leads i (l ++ [p]) = t.step j p := by
  rw [leads_append, h]
  show t.leads j [p] = _
  rw [Abs.T.leads_cons]
  cases t.step j p <;> rfl
theorem leads_stop {t : Abs.T} (l : List Abs.Name) (k i e : Nat) (h : t.leads i (l.take k) = .error e) : t.leads i l = .error e := by
  conv => lhs; rw [← List.take_append_drop k l]
  rw [leads_append, h]

theorem Boxed_below {W W' : World} {B b : Nat} {t : TypeId} {v : Value} (h : Boxed W b t v) (hb : Below B W W') (hlt : b < B) : Boxed W' b t v := (hb.block b hlt).trans h

theorem boxed_row {W W' : World} {row : Option Nat} {b : Nat} {t : TypeId} {v : Value} (h : Boxed W b t v) (hg : W.grownBy W' row) (hr : ∀ r, row = some r → ∃ o : Obj, W.heap[r]? = some o ∧ o.isCells = false) : Boxed W' b t v :=
  h.kept hg (fun e => by obtain ⟨o, ho, hc⟩ := hr b e.symm; rw [show W.heap[b]? = _ from h] at ho; cases ho; cases hc)

theorem keepCells_below {W W' : World} (S : List Nat) (hb : Below W.heap.size W W') : KeepCells S W W' := ⟨hb.size, fun g _ hg _ _ => (hb.block g (Array.getElem?_eq_some_iff.1 hg).1).trans hg⟩
theorem keyOf_str (x : ByteArray) (h : x.size ≤ maxLen) : keyOf Tryz.prog 9 (.string x) = some (.string x.data.toList) := by
  simp [keyOf, mapKey, Tryz.underlying9, h]
theorem named_size {x : ByteArray} (h : Abs.named x.data.toList = true) : x.size ≤ 32 := by
  unfold Abs.named at h
  simp only [Bool.and_eq_true, decide_eq_true_eq] at h
  exact h.1.1.1.2

set_option maxRecDepth 100000 in
set_option maxHeartbeats 4000000 in
theorem leads_wide (w : World) (t : Nat) (S : TS) (T : Abs.T) (β : Nat → Nat) (h : TreeIs w t S T β) (i0 : Nat) (hi0 : ∃ x, T.get i0 = some x) (path : ByteArray) (hp : path.size < 1073741824) :
    CallsIn Fence.wide 4 Tryz.prog 164 #[ptrV t, ptrV (β i0), .string path] w fun e w' => e = .returned (leadsV β (T.leads i0 (Abs.parts path.data.toList))) ∧ Below w.heap.size w w' := by
  refine callsIn_of_wp_marks Tryz.func164 rfl trivial ?_ rfl
  simp only [Tryz.ntmps164, List.size_toArray, List.length_cons, List.length_nil, Nat.reduceAdd, Nat.reduceSub, Array.replicate_succ, Array.replicate_zero, List.push_toArray, List.append_toArray, List.nil_append, List.cons_append]
  unfold ptrV
  have f112 : Fence.wide.fn 201 := trivial
  have f105 : Fence.wide.fn 160 := trivial
  gi_wp2_with (gi_at_call 201; refine (parts_in Fence.wide 3 trivial rfl path _).mono ?_; rintro e w' ⟨rfl, rfl⟩)
  have b4 := (((Boxed.new w 199 (.pointer (some ⟨β i0, 0, none⟩))).alloc (.cells #[.pointer none] 199)).alloc (.cells #[.int .i64 0] 59)).alloc (.cells #[.string path] 9)
  have b6 := ((Boxed.new (w.alloc (.cells #[.pointer (some ⟨β i0, 0, none⟩)] 199)) 199 (.pointer none)).alloc (.cells #[.int .i64 0] 59)).alloc (.cells #[.string path] 9)
  have b7 := (Boxed.new ((w.alloc (.cells #[.pointer (some ⟨β i0, 0, none⟩)] 199)).alloc (.cells #[.pointer none] 199)) 59 (.int .i64 0)).alloc (.cells #[.string path] 9)
  have bP := Boxed.new (((w.alloc (.cells #[.pointer (some ⟨β i0, 0, none⟩)] 199)).alloc (.cells #[.pointer none] 199)).alloc (.cells #[.int .i64 0] 59)) 9 (.string path)
  simp only [World.size_alloc] at b6 b7 bP
  have hB0 : Below w.heap.size w ((((w.alloc (.cells #[.pointer (some ⟨β i0, 0, none⟩)] 199)).alloc (.cells #[.pointer none] 199)).alloc (.cells #[.int .i64 0] 59)).alloc (.cells #[.string path] 9)) :=
    ((((Below.refl _ w).alloc (Nat.le_refl _) _).alloc (by simp) _).alloc (by simp; omega) _).alloc (by simp; omega) _
  have hsz : ((((w.alloc (.cells #[.pointer (some ⟨β i0, 0, none⟩)] 199)).alloc (.cells #[.pointer none] 199)).alloc (.cells #[.int .i64 0] 59)).alloc (.cells #[.string path] 9)).heap.size = w.heap.size + 1 + 1 + 1 + 1 := by simp
  obtain ⟨W0, hW0⟩ : ∃ W0, (((w.alloc (.cells #[.pointer (some ⟨β i0, 0, none⟩)] 199)).alloc (.cells #[.pointer none] 199)).alloc (.cells #[.int .i64 0] 59)).alloc (.cells #[.string path] 9) = W0 := ⟨_, rfl⟩
  rw [hW0] at b4 b6 b7 bP hB0 hsz ⊢
  clear hW0
  have hstops := parts1_stops Fence.wide 3 trivial trivial (fun h => callsIn_wide.2 h) rfl (by omega) (w.heap.size + 1 + 1 + 1) path hp [w.heap.size] W0 (by simp; omega) bP
  refine wpIn_rangeFunc_ownH rfl (by omega) (gf := 227) (lb := #[.pointer (some ⟨w.heap.size + 1 + 1 + 1, 0, none⟩)]) rfl trivial (enters_of Tryz.func227 (by kernel_rfl) rfl)
    hstops KeepCells.trans (fun W l o o' _ hl hc _ => KeepCells.putObj W l o o' hl hc) (Below.refl _ _) (fun _ => rfl)
    (fun pre W => (∃ i, T.leads i0 (plainL pre) = .ok i ∧ (∃ x, T.get i = some x) ∧ Boxed W w.heap.size 199 (.pointer (some ⟨β i, 0, none⟩))) ∧ Boxed W (w.heap.size + 1) 199 (.pointer none) ∧ Boxed W (w.heap.size + 1 + 1) 59 (.int .i64 0) ∧ Below w.heap.size w W)
    (fun k pre W => (k = .ret ∧ ∃ e : Nat, T.leads i0 (plainL pre) = .error e ∧ Boxed W (w.heap.size + 1) 199 (.pointer none) ∧ Boxed W (w.heap.size + 1 + 1) 59 (.int .i64 (e : Int))) ∧ Below w.heap.size w W)
    ?own ?ownx ?start
    (fun x a' _ => a' = { tmps := #[Value.pointer (some ⟨t, 0, none⟩), Value.pointer (some ⟨β i0, 0, none⟩), .string path, undef, .pointer (some ⟨w.heap.size, 0, none⟩), undef, .pointer (some ⟨w.heap.size + 1, 0, none⟩), .pointer (some ⟨w.heap.size + 1 + 1, 0, none⟩), .string x, undef, undef, .string path, .func (.func 227) #[] #[.pointer (some ⟨w.heap.size + 1 + 1 + 1, 0, none⟩)], .string x, undef, undef, undef, undef, undef, undef, undef, undef, undef, undef, undef, undef, undef, undef, undef, undef, undef, undef, undef, undef, undef, undef, undef, undef, undef, undef, undef, undef, undef, undef, undef, undef, undef], defers := [] })
    (fun x a' s X Y row hs hg hr => hs)
    ?assign ?body ?done ?stop
  case own =>
    rintro pre X Y row ⟨⟨i, h1, h2, h3⟩, h4, h5, h6⟩ hg hr
    exact ⟨⟨i, h1, h2, boxed_row h3 hg fun r e => (hr r e).2⟩, boxed_row h4 hg fun r e => (hr r e).2, boxed_row h5 hg fun r e => (hr r e).2, h6.grown hg h6.size fun r e => (hr r e).1 |> Nat.le_trans hB0.size⟩
  case ownx =>
    rintro k pre X Y row ⟨⟨hk, e, h1, h4, h5⟩, h6⟩ hg hr
    exact ⟨⟨hk, e, h1, boxed_row h4 hg fun r e => (hr r e).2, boxed_row h5 hg fun r e => (hr r e).2⟩, h6.grown hg h6.size fun r e => (hr r e).1 |> Nat.le_trans hB0.size⟩
  case start => exact ⟨⟨i0, rfl, hi0, b4⟩, b6, b7, hB0⟩
  case assign =>
    rintro lp pre x W K hI hK
    simp only [encStr]
    gi_wp2
    exact hK _ _ (KeepsFrom.refl _ _) (KeepCells.refl _ _) hI rfl
  case body =>
    rintro lp pre x a' W hlp _ ⟨⟨i, hi, ⟨z, hz⟩, c4⟩, c6, c7, hBw⟩ rfl hlt
    obtain ⟨y, hy, by0, _, _, _, hyd, _, hdir, _, _⟩ := h.at_ hz
    have byW : Blk W (β i) 211 (itemCells y) := by0.below hBw by0.lt
    have k3 : W.cell? ⟨β i, 3, none⟩ = some (.bool y.dir) := byW.cell 3
    have k5 : W.cell? ⟨β i, 5, none⟩ = some (.map (if y.dir then some y.nb else none)) := byW.cell 5
    have k6 : W.cell? ⟨β i, 6, none⟩ = some (.pointer (if y.dir then some ⟨y.up, 0, none⟩ else none)) := byW.cell 6
    have g4 := c4.cell
    have l4 := c4.lt
    have f4 := c4.frozen
    have g6 := c6.cell
    have f6 := c6.frozen
    have g7 := c7.cell
    have f7 := c7.frozen
    have hsn := leads_snoc (t := T) (plainL pre) x.data.toList i0 i hi
    have hpx : plainL (pre ++ [x]) = plainL pre ++ [x.data.toList] := by simp [plainL]
    rw [← hpx] at hsn
    have HS := Lib.hid hsn
    have HI := Lib.hid hi
    have HB := Lib.hid hBw
    clear hi hsn hpx hsz hBw
    have kret : ∀ (e : Nat), T.step i x.data.toList = .error e → (KeepsFrom W0.heap.size W ((W.setCell ⟨w.heap.size + 1, 0, none⟩ (.pointer none)).setCell ⟨w.heap.size + 1 + 1, 0, none⟩ (.int .i64 (e : Int)))) := fun e _ => KeepsFrom.trans ((KeepsOthers.setCell _ _ _).from _) ((KeepsOthers.setCell _ _ _).from _)
    by_cases hd : z.dir = true
    · rw [hd] at hyd
      rw [hyd] at k3 k5 k6
      simp only [if_true] at k5 k6
      obtain ⟨hnf, hup⟩ := hdir hd
      by_cases h1 : x.data.toList = Abs.dot
      · have hst : T.step i x.data.toList = .ok i := by simp [Abs.T.step, hz, hd, h1]
        have h1' : x.toList = [46] := by rw [Lib.toList_data]; exact h1
        clear h1
        gi_wp2
        exact ⟨KeepsFrom.refl _ _, KeepCells.refl _ _, ⟨i, by rw [HS.out, hst], ⟨z, hz⟩, c4⟩, c6, c7, HB.out⟩
      by_cases h2 : x.data.toList = Abs.dotdot
      · have hst : T.step i x.data.toList = .ok z.up := by simp [Abs.T.step, hz, hd, h2, Abs.dot, Abs.dotdot]
        have h1' : ¬ x.toList = [46] := by rw [Lib.toList_data]; exact h1
        have h2' : x.toList = [46, 46] := by rw [Lib.toList_data]; exact h2
        clear h1 h2
        rw [hup] at k6
        gi_wp2
        exact ⟨(KeepsOthers.setCell _ _ _).from _, KeepCells.setCell _ _ _ (by simp), ⟨z.up, by rw [HS.out, hst], h.wf.step_live hz hst, c4.set _⟩, c6.other (by omega) _, c7.other (by omega) _, HB.out.setCell (p := ⟨w.heap.size, 0, none⟩) (by simp) _⟩
      have h1' : (x.toList == [46]) = false := beq_eq_false_iff_ne.2 (by rw [Lib.toList_data]; exact h1)
      have h2' : (x.toList == [46, 46]) = false := beq_eq_false_iff_ne.2 (by rw [Lib.toList_data]; exact h2)
      have hnd := fun w2 => named_any x w2
      cases hn : Abs.named x.data.toList with
      | false =>
        have hst : T.step i x.data.toList = .error 13 := by simp [Abs.T.step, hz, hd, h1, h2, hn]
        rw [hn] at hnd
        clear h1 h2
        gi_wp2_with (gi_at_call 160; refine (callsIn_wide.2 (hnd _)).mono ?_; rintro e w2 ⟨rfl, hb⟩; have c62 := Boxed_below c6 hb c6.lt; have c72 := Boxed_below c7 hb c7.lt; have g6 := c62.cell; have f6 := c62.frozen; have g7 := c72.cell; have f7 := c72.frozen)
        exact ⟨(KeepsFrom.trans (KeepsFrom.of_grownBy (only_of_below hb none) (fun j e => by cases e)) (KeepsFrom.trans ((KeepsOthers.setCell _ _ _).from _) ((KeepsOthers.setCell _ _ _).from _))), ⟨rfl, 13, by rw [HS.out, hst], (c62.set _).other (by omega) _, (c72.other (by omega) _).set _⟩, ((HB.out.trans (hb.mono HB.out.size)).setCell (p := ⟨w.heap.size + 1, 0, none⟩) (by simp) _).setCell (p := ⟨w.heap.size + 1 + 1, 0, none⟩) (by simp; omega) _⟩
      | true =>
        rw [hn] at hnd
        have hm := ((h.mem.item _ _ hy).2.2 hyd).1
        have hL := fun w2 (hb : Below W.heap.size W w2) => MapOf.look (hm.same (w' := w2) ((hb.block _ (Nat.lt_of_lt_of_le hm.lt HB.out.size)).trans (HB.out.block _ hm.lt))) stringKeys Tryz.underlying209 (show (zeroValue 199).run Tryz.prog w2 = .ok (.pointer none) w2 from by kernel_rfl) (key := .string x) (kl := .string x.data.toList) (keyOf_str x (by have := named_size hn; unfold maxLen; omega))
        have hns : namesF y.nf (.string x.data.toList) = ((Abs.lk z.names x.data.toList).map β).map ptrV := by show (y.nf _).map ptrV = _; rw [hnf]
        rw [hns] at hL
        cases hlk : Abs.lk z.names x.data.toList with
        | none =>
          have hst : T.step i x.data.toList = .error 1 := by simp [Abs.T.step, hz, hd, h1, h2, hn, hlk]
          rw [hlk] at hL
          simp only [Option.map_none, Option.getD_none, Option.isSome_none] at hL
          have HL := Lib.hid hL
          clear h1 h2 hL hns
          gi_wp2_with (gi_at_call 160; refine (callsIn_wide.2 (hnd _)).mono ?_; rintro e w2 ⟨rfl, hb⟩; have hl2 := HL.out w2 hb; have c42 := (Boxed_below c4 hb c4.lt).cell; have k52 := (hb.cell (p := ⟨β i, 5, none⟩) byW.lt).trans k5; have c62 := Boxed_below c6 hb c6.lt; have c72 := Boxed_below c7 hb c7.lt; have g6 := c62.cell; have f6 := c62.frozen; have g7 := c72.cell; have f7 := c72.frozen)
          exact ⟨(KeepsFrom.trans (KeepsFrom.of_grownBy (only_of_below hb none) (fun j e => by cases e)) (KeepsFrom.trans ((KeepsOthers.setCell _ _ _).from _) ((KeepsOthers.setCell _ _ _).from _))), ⟨rfl, 1, by rw [HS.out, hst], (c62.set _).other (by omega) _, (c72.other (by omega) _).set _⟩, ((HB.out.trans (hb.mono HB.out.size)).setCell (p := ⟨w.heap.size + 1, 0, none⟩) (by simp) _).setCell (p := ⟨w.heap.size + 1 + 1, 0, none⟩) (by simp; omega) _⟩
        | some j =>
          have hst : T.step i x.data.toList = .ok j := by simp [Abs.T.step, hz, hd, h1, h2, hn, hlk]
          rw [hlk] at hL
          simp only [Option.map_some, Option.getD_some, Option.isSome_some, ptrV] at hL
          have HL := Lib.hid hL
          clear h1 h2 hL hns
          gi_wp2_with (gi_at_call 160; refine (callsIn_wide.2 (hnd _)).mono ?_; rintro e w2 ⟨rfl, hb⟩; have hl2 := HL.out w2 hb; have b42 := Boxed_below c4 hb c4.lt; have c42 := b42.cell; have f42 := b42.frozen; have k52 := (hb.cell (p := ⟨β i, 5, none⟩) byW.lt).trans k5; have c62 := Boxed_below c6 hb c6.lt; have c72 := Boxed_below c7 hb c7.lt)
          exact ⟨KeepsFrom.trans (KeepsFrom.of_grownBy (only_of_below hb none) (fun j e => by cases e)) ((KeepsOthers.setCell _ _ _).from _), KeepCells.trans (keepCells_below _ hb) (KeepCells.setCell _ _ _ (by simp)), ⟨j, by rw [HS.out, hst], h.wf.step_live hz hst, b42.set _⟩, c62.other (by omega) _, c72.other (by omega) _, (HB.out.trans (hb.mono HB.out.size)).setCell (p := ⟨w.heap.size, 0, none⟩) (by simp) _⟩
    · have hd' : z.dir = false := by simpa using hd
      rw [hd'] at hyd
      rw [hyd] at k3
      have hst : T.step i x.data.toList = .error 3 := by simp [Abs.T.step, hz, hd']
      gi_wp2
      exact ⟨kret 3 hst, ⟨rfl, 3, by rw [HS.out, hst], (c6.set _).other (by omega) _, (c7.other (by omega) _).set _⟩, (HB.out.setCell (p := ⟨w.heap.size + 1, 0, none⟩) (by simp) _).setCell (p := ⟨w.heap.size + 1 + 1, 0, none⟩) (by simp; omega) _⟩
  case done =>
    rintro D ys W hD rfl ⟨⟨i, hi, _, c4⟩, c6, c7, hBw⟩ hK
    have g4 := c4.cell
    have g6 := c6.cell
    have f6 := c6.frozen
    have g7 := c7.cell
    have f7 := c7.frozen
    have hDw : w.heap.size ≤ D := Nat.le_trans hB0.size hD
    have HI := Lib.hid hi
    clear hi hsz
    gi_wp2
    have h1' := (c6.set (.pointer (some ⟨β i, 0, none⟩))).other (B' := w.heap.size + 1 + 1) (by omega) (.int .i64 0)
    have h2' := (c7.other (B' := w.heap.size + 1) (by omega) (.pointer (some ⟨β i, 0, none⟩))).set (.int .i64 0)
    have hK' := (KeepsOthers.trans (KeepsOthers.setCell W ⟨w.heap.size + 1, 0, none⟩ (.pointer (some ⟨β i, 0, none⟩))) (KeepsOthers.setCell _ ⟨w.heap.size + 1 + 1, 0, none⟩ (.int .i64 0))).same D _ hK rfl
    refine ⟨by simp, .inl ⟨_, _, rfl, run_takeDeferred hK', ?_⟩⟩
    have r1 := cell_kept h1'.cell (grownBy_putObj' _ D (.deferred none)) (fun r e => by cases e; exact ⟨_, hK', rfl⟩)
    have r2 := cell_kept h2'.cell (grownBy_putObj' _ D (.deferred none)) (fun r e => by cases e; exact ⟨_, hK', rfl⟩)
    refine ⟨.tuple #[.pointer (some ⟨β i, 0, none⟩), .int .i64 0], ?_, by rw [← plainL_parts, HI.out]; rfl, ((hBw.setCell (p := ⟨w.heap.size + 1, 0, none⟩) (by simp) _).setCell (p := ⟨w.heap.size + 1 + 1, 0, none⟩) (by simp; omega) _).trans (belowK_b (w := w) (Nat.le_refl _) _ D _ _ hDw hK' rfl rfl)⟩
    simp [results, Tryz.f164, go_sem, r1, r2]
  case stop =>
    rintro D k pre W hD ⟨k', rfl⟩ ⟨⟨rfl, e, he, c6, c7⟩, hBw⟩ hK
    have hDw : w.heap.size ≤ D := Nat.le_trans hB0.size hD
    gi_wp2
    refine ⟨by simp, .inl ⟨_, _, rfl, run_takeDeferred hK, ?_⟩⟩
    have r1 := cell_kept c6.cell (grownBy_putObj' _ D (.deferred none)) (fun r e => by cases e; exact ⟨_, hK, rfl⟩)
    have r2 := cell_kept c7.cell (grownBy_putObj' _ D (.deferred none)) (fun r e => by cases e; exact ⟨_, hK, rfl⟩)
    have hfin : T.leads i0 (Abs.parts path.data.toList) = .error e := by
      rw [← plainL_parts]
      refine leads_stop _ k' _ _ ?_
      rw [← he]
      simp [plainL, List.map_take]
    refine ⟨.tuple #[.pointer none, .int .i64 (e : Int)], ?_, by rw [hfin]; rfl, hBw.trans (belowK_b (w := w) (Nat.le_refl _) _ D _ _ hDw hK rfl rfl)⟩
    simp [results, Tryz.f164, go_sem, r1, r2]

theorem leads_any (w : World) (t : Nat) (S : TS) (T : Abs.T) (β : Nat → Nat) (h : TreeIs w t S T β) (i0 : Nat) (hi0 : ∃ x, T.get i0 = some x) (path : ByteArray) (hp : path.size < 1073741824) :
    Calls Tryz.prog 164 #[.pointer (some ⟨t, 0, none⟩), .pointer (some ⟨β i0, 0, none⟩), .string path] w fun e w' => e = .returned (leadsV β (T.leads i0 (Abs.parts path.data.toList))) ∧ Below w.heap.size w w' :=
  callsIn_wide.1 (leads_wide w t S T β h i0 hi0 path hp)

end Go.Proofs.YtlhiadnolckoeaaGreatDoor
end

section
namespace Go.Proofs.YtlhiadnolckoeaaGreatDoor
open Go.RowKit Go.Maps

set_option maxRecDepth 100000 in
set_option maxHeartbeats 2000000 in
theorem from_any (w : World) (t : Nat) (S : TS) (T : Abs.T) (β : Nat → Nat) (h : TreeIs w t S T β) (cwd path : ByteArray) (hc : cwd.size < 1073741824) (hp : path.size < 1073741824) :
    Calls Tryz.prog 163 #[.pointer (some ⟨t, 0, none⟩), .string cwd, .string path] w fun e w' => e = .returned (leadsV β (T.start cwd.data.toList path.data.toList)) ∧ Below w.heap.size w w' := by
  have c0 : w.cell? ⟨t, 0, none⟩ = some (.pointer (some ⟨β 1, 0, none⟩)) := by rw [h.mem.blk.cell 0, ← h.rep.root]; rfl
  have hl := leads_any w t S T β h 1 h.wf.root_live cwd hc
  obtain ⟨r, hr⟩ : ∃ r, T.leads 1 (Abs.parts cwd.data.toList) = r := ⟨_, rfl⟩
  rw [hr] at hl
  obtain ⟨q, hq⟩ : ∃ q, T.start cwd.data.toList path.data.toList = q := ⟨_, rfl⟩
  rw [hq]
  unfold Abs.T.start at hq
  rw [hr] at hq
  cases r with
  | error e =>
    have he := Abs.T.leads_ne0 hr
    have he1 : ((e : Int) != 0) = true := by simpa using he
    simp only at hq
    subst hq
    clear hr he
    unfold leadsV at hl ⊢
    go_enter Tryz.func163, Tryz.ntmps163
    go_wp2_with (go_at_call 164; refine hl.mono ?_; rintro e w' ⟨rfl, hb⟩)
    go_ret2
    exact ⟨rfl, hb⟩
  | ok i =>
    obtain ⟨x, hx⟩ := h.wf.leads_live _ _ h.wf.root_live hr
    obtain ⟨y, hy, by0, _, _, _, hyd, _, _, _, _⟩ := h.at_ hx
    have k3 : w.cell? ⟨β i, 3, none⟩ = some (.bool x.dir) := by rw [by0.cell 3, ← hyd]; rfl
    have lb := by0.lt
    have lt' := h.mem.blk.lt
    have hdx : T.isDir i = x.dir := by simp [Abs.T.isDir, hx]
    simp only [hdx] at hq
    clear hr hx hy by0 hyd hdx
    unfold leadsV ptrV at hl
    simp only at hl
    cases hd : x.dir with
    | false =>
      rw [hd] at k3 hq
      simp only [if_true] at hq
      subst hq
      go_enter Tryz.func163, Tryz.ntmps163
      go_wp2_with (go_at_call 164; refine hl.mono ?_; rintro e w' ⟨rfl, hb⟩; have k32 := (hb.cell (p := ⟨β i, 3, none⟩) lb).trans k3)
      go_ret2
      exact ⟨rfl, hb⟩
    | true =>
      rw [hd] at k3 hq
      simp only [Bool.true_eq_false, if_false] at hq
      obtain ⟨⟨l⟩⟩ := path
      cases l with
      | nil =>
        simp only at hq
        subst hq
        go_enter Tryz.func163, Tryz.ntmps163
        go_wp2_with (go_at_call 164; refine hl.mono ?_; rintro e w' ⟨rfl, hb⟩; have k32 := (hb.cell (p := ⟨β i, 3, none⟩) lb).trans k3)
        go_ret2
        exact ⟨rfl, hb⟩
      | cons c l =>
        simp only at hq
        by_cases h47 : c = 47
        · rw [if_pos h47] at hq
          subst hq h47
          go_enter Tryz.func163, Tryz.ntmps163
          go_wp2_with (go_at_call 164; refine hl.mono ?_; rintro e w' ⟨rfl, hb⟩; have k32 := (hb.cell (p := ⟨β i, 3, none⟩) lb).trans k3; have c02 := (hb.cell (p := ⟨t, 0, none⟩) lt').trans c0)
          go_ret2
          exact ⟨rfl, hb⟩
        · rw [if_neg h47] at hq
          subst hq
          have hz : ((c.toNat : Int) == 47) = false := beq_eq_false_iff_ne.2 (fun e => h47 (UInt8.toNat_inj.1 (show c.toNat = (47 : UInt8).toNat from by exact_mod_cast e)))
          have hz' : ((((⟨⟨c :: l⟩⟩ : ByteArray)[0]'(Nat.succ_pos _)).toNat : Int) == 47) = false := hz
          clear h47
          go_enter Tryz.func163, Tryz.ntmps163
          go_wp2_with (go_at_call 164; refine hl.mono ?_; rintro e w' ⟨rfl, hb⟩; have k32 := (hb.cell (p := ⟨β i, 3, none⟩) lb).trans k3; have c02 := (hb.cell (p := ⟨t, 0, none⟩) lt').trans c0)
          go_ret2
          exact ⟨rfl, hb⟩

/-- what look answers, as leads does -/
theorem slash_suffix (s : ByteArray) : Lib.hasSuffix s.data.toList [47] = Abs.slash s.data.toList := by
  unfold Lib.hasSuffix Abs.slash
  rw [Bool.eq_iff_iff, List.isSuffixOf_iff_suffix, beq_iff_eq, List.getLast?_eq_some_iff]
  exact ⟨fun ⟨t, ht⟩ => ⟨t, ht.symm⟩, fun ⟨t, ht⟩ => ⟨t, ht.symm⟩⟩

set_option maxRecDepth 100000 in
set_option maxHeartbeats 2000000 in
theorem look_any (w : World) (t : Nat) (S : TS) (T : Abs.T) (β : Nat → Nat) (h : TreeIs w t S T β) (cwd path : ByteArray) (hc : cwd.size < 1073741824) (hp : path.size < 1073741824) :
    Calls Tryz.prog 133 #[.pointer (some ⟨t, 0, none⟩), .string cwd, .string path] w fun e w' => e = .returned (leadsV β (T.look cwd.data.toList path.data.toList)) ∧ Below w.heap.size w w' := by
  have hf := from_any w t S T β h cwd path hc hp
  obtain ⟨r, hr⟩ : ∃ r, T.start cwd.data.toList path.data.toList = r := ⟨_, rfl⟩
  rw [hr] at hf
  obtain ⟨q, hq⟩ : ∃ q, T.look cwd.data.toList path.data.toList = q := ⟨_, rfl⟩
  rw [hq]
  unfold Abs.T.look at hq
  rw [hr] at hq
  cases r with
  | error e =>
    have he := Abs.T.start_ne0 hr
    have he1 : ((e : Int) != 0) = true := by simpa using he
    simp only at hq
    subst hq
    clear hr he
    unfold leadsV at hf ⊢
    go_enter Tryz.func133, Tryz.ntmps133
    go_wp2_with (go_at_call 163; refine hf.mono ?_; rintro e w' ⟨rfl, hb⟩)
    go_ret2
    exact ⟨rfl, hb⟩
  | ok i =>
    obtain ⟨x, hx, hxd⟩ := Abs.isDir_of (h.wf.start_dir hr)
    simp only at hq
    obtain ⟨r2, hr2⟩ : ∃ r, T.leads i (Abs.parts path.data.toList) = r := ⟨_, rfl⟩
    rw [hr2] at hq
    have hl := fun w2 (hb : Below w.heap.size w w2) => leads_any w2 t S T β (h.below hb) i ⟨x, hx⟩ path hp
    rw [hr2] at hl
    unfold leadsV ptrV at hf
    simp only at hf
    clear hr
    cases r2 with
    | error e =>
      have he := Abs.T.leads_ne0 hr2
      have he1 : ((e : Int) != 0) = true := by simpa using he
      simp only at hq
      subst hq
      clear hr2 he
      unfold leadsV at hl ⊢
      simp only at hl
      go_enter Tryz.func133, Tryz.ntmps133
      go_wp2_with (first | (go_at_call 163; refine hf.mono ?_; rintro e w' ⟨rfl, hb⟩) | (go_at_call 164; refine (hl _ hb).mono ?_; rintro e w2 ⟨rfl, hb2⟩))
      go_ret2
      exact ⟨rfl, hb.trans (hb2.mono hb.size)⟩
    | ok j =>
      obtain ⟨z, hz⟩ := h.wf.leads_live _ _ ⟨x, hx⟩ hr2
      obtain ⟨y, hy, by0, _, _, _, hyd, _, _, _, _⟩ := h.at_ hz
      have k3 : w.cell? ⟨β j, 3, none⟩ = some (.bool z.dir) := by rw [by0.cell 3, ← hyd]; rfl
      have lb := by0.lt
      have hdz : T.isDir j = z.dir := by simp [Abs.T.isDir, hz]
      simp only [hdz] at hq
      have hsf := fun w2 => Tryz.strings_HasSuffix path ⟨#[47]⟩ w2 (by omega)
      rw [slash_suffix] at hsf
      clear hx hxd hr2 hz hy by0 hyd hdz
      unfold leadsV ptrV at hl
      simp only at hl
      cases hs : Abs.slash path.data.toList with
      | false =>
        rw [hs] at hsf hq
        simp only [Bool.false_and, Bool.false_eq_true, if_false] at hq
        subst hq
        go_enter Tryz.func133, Tryz.ntmps133
        go_wp2_with (first | (go_at_call 163; refine hf.mono ?_; rintro e w' ⟨rfl, hb⟩) | (go_at_call 164; refine (hl _ hb).mono ?_; rintro e w2 ⟨rfl, hb2⟩; have k32 := (hb2.cell (p := ⟨β j, 3, none⟩) (Nat.lt_of_lt_of_le lb hb.size)).trans ((hb.cell (p := ⟨β j, 3, none⟩) lb).trans k3)) | (go_at_call 165; refine (hsf _).mono ?_; rintro e w3 ⟨rfl, rfl⟩))
        go_ret2
        exact ⟨rfl, hb.trans (hb2.mono hb.size)⟩
      | true =>
        rw [hs] at hsf hq
        simp only [Bool.true_and] at hq
        cases hd : z.dir with
        | true =>
          rw [hd] at k3 hq
          simp only [Bool.not_true, Bool.false_eq_true, if_false] at hq
          subst hq
          go_enter Tryz.func133, Tryz.ntmps133
          go_wp2_with (first | (go_at_call 163; refine hf.mono ?_; rintro e w' ⟨rfl, hb⟩) | (go_at_call 164; refine (hl _ hb).mono ?_; rintro e w2 ⟨rfl, hb2⟩; have k32 := (hb2.cell (p := ⟨β j, 3, none⟩) (Nat.lt_of_lt_of_le lb hb.size)).trans ((hb.cell (p := ⟨β j, 3, none⟩) lb).trans k3)) | (go_at_call 165; refine (hsf _).mono ?_; rintro e w3 ⟨rfl, rfl⟩))
          go_ret2
          exact ⟨rfl, hb.trans (hb2.mono hb.size)⟩
        | false =>
          rw [hd] at k3 hq
          simp only [Bool.not_false, if_true] at hq
          subst hq
          go_enter Tryz.func133, Tryz.ntmps133
          go_wp2_with (first | (go_at_call 163; refine hf.mono ?_; rintro e w' ⟨rfl, hb⟩) | (go_at_call 164; refine (hl _ hb).mono ?_; rintro e w2 ⟨rfl, hb2⟩; have k32 := (hb2.cell (p := ⟨β j, 3, none⟩) (Nat.lt_of_lt_of_le lb hb.size)).trans ((hb.cell (p := ⟨β j, 3, none⟩) lb).trans k3)) | (go_at_call 165; refine (hsf _).mono ?_; rintro e w3 ⟨rfl, rfl⟩))
          go_ret2
          exact ⟨rfl, hb.trans (hb2.mono hb.size)⟩

theorem Boxed6 {w w' : World} {t : TypeId} {cs : Array Value} (hb : Below (w.alloc (.cells cs t)).heap.size (w.alloc (.cells cs t)) w') : Blk w' w.heap.size t cs := (hb.block _ (by simp)).trans (Blk.new w t cs)

theorem blk6 {w : World} {g : Nat} {t : TypeId} {a0 a1 a2 a3 a4 a5 : Value} (h : Blk w g t #[a0, a1, a2, a3, a4, a5]) : Blk w g t #[a0, a1, a2, a3, a4, a5] ∧ w.cell? ⟨g, 0, none⟩ = some a0 ∧ w.cell? ⟨g, 1, none⟩ = some a1 ∧ w.cell? ⟨g, 2, none⟩ = some a2 ∧ w.cell? ⟨g, 3, none⟩ = some a3 ∧ w.cell? ⟨g, 4, none⟩ = some a4 ∧ w.cell? ⟨g, 5, none⟩ = some a5 ∧
    w.frozen? ⟨g, 0, none⟩ = false ∧ w.frozen? ⟨g, 1, none⟩ = false ∧ w.frozen? ⟨g, 2, none⟩ = false ∧ w.frozen? ⟨g, 3, none⟩ = false ∧ w.frozen? ⟨g, 4, none⟩ = false ∧ w.frozen? ⟨g, 5, none⟩ = false ∧ g < w.heap.size :=
  ⟨h, h.cell 0, h.cell 1, h.cell 2, h.cell 3, h.cell 4, h.cell 5, h.frozen 0, h.frozen 1, h.frozen 2, h.frozen 3, h.frozen 4, h.frozen 5, h.lt⟩
theorem set6 {w : World} {g : Nat} {t : TypeId} {a0 a1 a2 a3 a4 a5 : Value} (h : Blk w g t #[a0, a1, a2, a3, a4, a5]) (v0 v1 v2 v3 v4 v5 : Value) : Blk ((((((w.setCell ⟨g, 0, none⟩ v0).setCell ⟨g, 1, none⟩ v1).setCell ⟨g, 2, none⟩ v2).setCell ⟨g, 3, none⟩ v3).setCell ⟨g, 4, none⟩ v4).setCell ⟨g, 5, none⟩ v5) g t #[v0, v1, v2, v3, v4, v5] :=
  (((((h.set_ 0 v0).set_ 1 v1).set_ 2 v2).set_ 3 v3).set_ 4 v4).set_ 5 v5
theorem below_drewN' {B : Nat} {a w : World} (h : Below B a w) : Below B a w.drew := ⟨h.os, h.tape, h.output, h.size, h.block⟩
theorem below6 {B g : Nat} {a w : World} (h : Below B a w) (hg : B ≤ g) (v0 v1 v2 v3 v4 v5 : Value) : Below B a ((((((w.setCell ⟨g, 0, none⟩ v0).setCell ⟨g, 1, none⟩ v1).setCell ⟨g, 2, none⟩ v2).setCell ⟨g, 3, none⟩ v3).setCell ⟨g, 4, none⟩ v4).setCell ⟨g, 5, none⟩ v5) :=
  (((((h.setCell (p := ⟨g, 0, none⟩) hg _).setCell (p := ⟨g, 1, none⟩) hg _).setCell (p := ⟨g, 2, none⟩) hg _).setCell (p := ⟨g, 3, none⟩) hg _).setCell (p := ⟨g, 4, none⟩) hg _).setCell (p := ⟨g, 5, none⟩) hg _
/-- how what stands at a number is told -/
def statV (T : Abs.T) (i : Nat) : Value := match T.get i with
  | none => .agg #[.int .i64 0, .bool false, .int .i64 0, .int .i64 0, .int .i64 0, .int .i64 0]
  | some x => .agg #[.int .i64 (i : Int), .bool x.dir, .int .i64 x.mode, .int .i64 x.tick, .int .i64 (x.data.length : Int), .int .i64 (if x.dir then 1 else (T.links i : Int))]
def statR (T : Abs.T) : Except Nat Nat → Value
  | .ok j => .tuple #[statV T j, .int .i64 0]
  | .error e => .tuple #[.agg #[.int .i64 0, .bool false, .int .i64 0, .int .i64 0, .int .i64 0, .int .i64 0], .int .i64 (e : Int)]

set_option maxRecDepth 100000 in
set_option maxHeartbeats 2000000 in
theorem stat_any (w : World) (t : Nat) (S : TS) (T : Abs.T) (β : Nat → Nat) (h : TreeIs w t S T β) (cwd path : ByteArray) (hc : cwd.size < 1073741824) (hp : path.size < 1073741824) :
    Calls Tryz.prog 102 #[.pointer (some ⟨t, 0, none⟩), .string cwd, .string path] w fun e w' => e = .returned (statR T (T.look cwd.data.toList path.data.toList)) ∧ Below w.heap.size w w' := by
  have hl := fun w2 (hb : Below w.heap.size w w2) => look_any w2 t S T β (h.below hb) cwd path hc hp
  obtain ⟨r, hr⟩ : ∃ r, T.look cwd.data.toList path.data.toList = r := ⟨_, rfl⟩
  rw [hr] at hl ⊢
  have hA := fun o => (Below.refl w.heap.size w).alloc (Nat.le_refl _) o
  cases r with
  | error e =>
    have he := Abs.T.look_ne0 hr
    have he1 : ((e : Int) != 0) = true := by simpa using he
    clear hr he
    unfold leadsV at hl
    unfold statR
    go_enter Tryz.func102, Tryz.ntmps102
    go_wp2_with (go_at_call 133; refine (hl _ (hA _)).mono ?_; rintro e w' ⟨rfl, hb⟩; obtain ⟨bR, r0, r1, r2, r3, r4, r5, s0, s1, s2, s3, s4, s5, lR⟩ := blk6 (Boxed6 hb))
    obtain ⟨_, x0, x1, x2, x3, x4, x5, _⟩ := blk6 (set6 bR (.int .i64 0) (.bool false) (.int .i64 0) (.int .i64 0) (.int .i64 0) (.int .i64 0))
    refine bodyPost_ret (v := .tuple #[.agg #[.int .i64 0, .bool false, .int .i64 0, .int .i64 0, .int .i64 0, .int .i64 0], .int .i64 (e : Int)]) (by simp [results, Tryz.results102, go_sem, x0, x1, x2, x3, x4, x5]) rfl ?_
    exact ⟨rfl, below6 ((hA _).trans (hb.mono (by simp))) (Nat.le_refl _) _ _ _ _ _ _⟩
  | ok i =>
    obtain ⟨x, hx⟩ := h.wf.look_live hr
    obtain ⟨y, hy, by0, hin, hmo, hti, hyd, hda, _, hli, _⟩ := h.at_ hx
    unfold leadsV ptrV at hl
    have k0 : w.cell? ⟨β i, 0, none⟩ = some (.int .i64 (i : Int)) := by rw [by0.cell 0, ← hin]; rfl
    have k1 : w.cell? ⟨β i, 1, none⟩ = some (.int .i64 x.mode) := by rw [by0.cell 1, ← hmo]; rfl
    have k2 : w.cell? ⟨β i, 2, none⟩ = some (.int .i64 x.tick) := by rw [by0.cell 2, ← hti]; rfl
    have k3 : w.cell? ⟨β i, 3, none⟩ = some (.bool x.dir) := by rw [by0.cell 3, ← hyd]; rfl
    have k7 : w.cell? ⟨β i, 7, none⟩ = some (.int .i64 (T.links i : Int)) := by rw [by0.cell 7, ← hli]; rfl
    obtain ⟨A, cp, hdv, _, _⟩ := (h.mem.item _ _ hy).2.1.form
    have k4 : w.cell? ⟨β i, 4, none⟩ = some (.slice A x.data.length cp) := by rw [by0.cell 4, ← hda, ← hdv]; rfl
    have lb := by0.lt
    have hsv : statV T i = .agg #[.int .i64 (i : Int), .bool x.dir, .int .i64 x.mode, .int .i64 x.tick, .int .i64 (x.data.length : Int), .int .i64 (if x.dir then 1 else (T.links i : Int))] := by simp [statV, hx]
    unfold statR
    simp only [hsv]
    obtain ⟨nl, hnl⟩ : ∃ nl, T.links i = nl := ⟨_, rfl⟩
    rw [hnl] at k7 ⊢
    clear hr hx hy by0 hin hmo hti hyd hda hli hdv hsv hnl
    cases hd : x.dir with
    | true =>
      rw [hd] at k3
      go_enter Tryz.func102, Tryz.ntmps102
      go_wp2_with (go_at_call 133; refine (hl _ (hA _)).mono ?_; rintro e w' ⟨rfl, hb⟩; obtain ⟨bR, r0, r1, r2, r3, r4, r5, s0, s1, s2, s3, s4, s5, lR⟩ := blk6 (Boxed6 hb))
      have lb' : β i < w'.heap.size := Nat.lt_of_lt_of_le lb (Nat.le_trans (by simp) hb.size)
      have q0 := (show w'.cell? ⟨β i, 0, none⟩ = _ from ((hb.cell (p := ⟨β i, 0, none⟩) (by simp; omega)).trans (World.cell?_alloc_lt w _ ⟨β i, 0, none⟩ lb)).trans k0)
      have q1 := (show w'.cell? ⟨β i, 1, none⟩ = _ from ((hb.cell (p := ⟨β i, 1, none⟩) (by simp; omega)).trans (World.cell?_alloc_lt w _ ⟨β i, 1, none⟩ lb)).trans k1)
      have q2 := (show w'.cell? ⟨β i, 2, none⟩ = _ from ((hb.cell (p := ⟨β i, 2, none⟩) (by simp; omega)).trans (World.cell?_alloc_lt w _ ⟨β i, 2, none⟩ lb)).trans k2)
      have q3 := (show w'.cell? ⟨β i, 3, none⟩ = _ from ((hb.cell (p := ⟨β i, 3, none⟩) (by simp; omega)).trans (World.cell?_alloc_lt w _ ⟨β i, 3, none⟩ lb)).trans k3)
      have q4 := (show w'.cell? ⟨β i, 4, none⟩ = _ from ((hb.cell (p := ⟨β i, 4, none⟩) (by simp; omega)).trans (World.cell?_alloc_lt w _ ⟨β i, 4, none⟩ lb)).trans k4)
      have q7 := (show w'.cell? ⟨β i, 7, none⟩ = _ from ((hb.cell (p := ⟨β i, 7, none⟩) (by simp; omega)).trans (World.cell?_alloc_lt w _ ⟨β i, 7, none⟩ lb)).trans k7)
      have bR' : Blk w'.drew w.heap.size 161 _ := bR
      clear r0 r1 r2 r3 r4 r5 s0 s1 s2 s3 s4 s5
      go_region_held3 (fun W => W.cell? ⟨β i, 0, none⟩ = some (.int .i64 (i : Int)) ∧ W.cell? ⟨β i, 1, none⟩ = some (.int .i64 x.mode) ∧ W.cell? ⟨β i, 2, none⟩ = some (.int .i64 x.tick) ∧ W.cell? ⟨β i, 3, none⟩ = some (.bool true) ∧ W.cell? ⟨β i, 4, none⟩ = some (.slice A x.data.length cp)) (first | go_keep | (go_split_ands; refine ⟨?_, ?_, ?_, ?_, ?_⟩ <;> first | assumption | (rw [World.cell?_drew]; rw [World.cell?_alloc_lt _ _ _ (by first | exact lb' | (simp; exact lb'))]; assumption) | (rw [World.cell?_alloc_lt _ _ _ (by first | exact lb' | (simp; exact lb'))]; assumption))) (fail)
      all_goals
        go_wp2_with (first
          | (refine wpList_store_blk rfl 161 (.tmp 6) (.tmp 54) rfl w.heap.size 161 #[.int .i64 0, .bool false, .int .i64 0, .int .i64 0, .int .i64 0, .int .i64 0] #[.int .i64 (i : Int), .bool true, .int .i64 x.mode, .int .i64 x.tick, .int .i64 (x.data.length : Int), .int .i64 1] rfl rfl (show Blk _ _ _ _ from bR.alloc _) rfl (by kernel_rfl) (by kernel_rfl) ?_; intro w9 b9 g9)
          | (refine wpList_load_row rfl 161 (.tmp 10) rfl w'.heap.size rfl 161 #[.int .i64 (i : Int), .bool true, .int .i64 x.mode, .int .i64 x.tick, .int .i64 (x.data.length : Int), .int .i64 1] (0, 0) _ (World.alloc_heap_new w' _) Tryz.underlying161 rfl (by kernel_rfl) ?_))
        obtain ⟨_, x0, x1, x2, x3, x4, x5, _⟩ := blk6 b9
        refine bodyPost_ret (v := .tuple #[.agg #[.int .i64 (i : Int), .bool true, .int .i64 x.mode, .int .i64 x.tick, .int .i64 (x.data.length : Int), .int .i64 1], .int .i64 0]) (by simp [results, Tryz.results102, go_sem, x0, x1, x2, x3, x4, x5]) rfl ?_
        exact ⟨rfl, (below_drewN' ((((hA _).trans (hb.mono (by simp)))).alloc (by omega) _)).grown g9 (by simp; omega) (fun k e => by cases e; exact Nat.le_refl _)⟩
    | false =>
      rw [hd] at k3
      go_enter Tryz.func102, Tryz.ntmps102
      go_wp2_with (go_at_call 133; refine (hl _ (hA _)).mono ?_; rintro e w' ⟨rfl, hb⟩; obtain ⟨bR, r0, r1, r2, r3, r4, r5, s0, s1, s2, s3, s4, s5, lR⟩ := blk6 (Boxed6 hb))
      have lb' : β i < w'.heap.size := Nat.lt_of_lt_of_le lb (Nat.le_trans (by simp) hb.size)
      have q0 := (show w'.cell? ⟨β i, 0, none⟩ = _ from ((hb.cell (p := ⟨β i, 0, none⟩) (by simp; omega)).trans (World.cell?_alloc_lt w _ ⟨β i, 0, none⟩ lb)).trans k0)
      have q1 := (show w'.cell? ⟨β i, 1, none⟩ = _ from ((hb.cell (p := ⟨β i, 1, none⟩) (by simp; omega)).trans (World.cell?_alloc_lt w _ ⟨β i, 1, none⟩ lb)).trans k1)
      have q2 := (show w'.cell? ⟨β i, 2, none⟩ = _ from ((hb.cell (p := ⟨β i, 2, none⟩) (by simp; omega)).trans (World.cell?_alloc_lt w _ ⟨β i, 2, none⟩ lb)).trans k2)
      have q3 := (show w'.cell? ⟨β i, 3, none⟩ = _ from ((hb.cell (p := ⟨β i, 3, none⟩) (by simp; omega)).trans (World.cell?_alloc_lt w _ ⟨β i, 3, none⟩ lb)).trans k3)
      have q4 := (show w'.cell? ⟨β i, 4, none⟩ = _ from ((hb.cell (p := ⟨β i, 4, none⟩) (by simp; omega)).trans (World.cell?_alloc_lt w _ ⟨β i, 4, none⟩ lb)).trans k4)
      have q7 := (show w'.cell? ⟨β i, 7, none⟩ = _ from ((hb.cell (p := ⟨β i, 7, none⟩) (by simp; omega)).trans (World.cell?_alloc_lt w _ ⟨β i, 7, none⟩ lb)).trans k7)
      have bR' : Blk w'.drew w.heap.size 161 _ := bR
      clear r0 r1 r2 r3 r4 r5 s0 s1 s2 s3 s4 s5
      go_region_held3 (fun W => W.cell? ⟨β i, 0, none⟩ = some (.int .i64 (i : Int)) ∧ W.cell? ⟨β i, 1, none⟩ = some (.int .i64 x.mode) ∧ W.cell? ⟨β i, 2, none⟩ = some (.int .i64 x.tick) ∧ W.cell? ⟨β i, 3, none⟩ = some (.bool false) ∧ W.cell? ⟨β i, 4, none⟩ = some (.slice A x.data.length cp)) (first | go_keep | (go_split_ands; refine ⟨?_, ?_, ?_, ?_, ?_⟩ <;> first | assumption | (rw [World.cell?_drew]; rw [World.cell?_alloc_lt _ _ _ (by first | exact lb' | (simp; exact lb'))]; assumption) | (rw [World.cell?_alloc_lt _ _ _ (by first | exact lb' | (simp; exact lb'))]; assumption))) (fail)
      all_goals
        go_wp2_with (first
          | (refine wpList_store_blk rfl 161 (.tmp 6) (.tmp 54) rfl w.heap.size 161 #[.int .i64 0, .bool false, .int .i64 0, .int .i64 0, .int .i64 0, .int .i64 0] #[.int .i64 (i : Int), .bool false, .int .i64 x.mode, .int .i64 x.tick, .int .i64 (x.data.length : Int), .int .i64 (nl : Int)] rfl rfl (show Blk _ _ _ _ from bR.alloc _) rfl (by kernel_rfl) (by kernel_rfl) ?_; intro w9 b9 g9)
          | (refine wpList_load_row rfl 161 (.tmp 10) rfl w'.heap.size rfl 161 #[.int .i64 (i : Int), .bool false, .int .i64 x.mode, .int .i64 x.tick, .int .i64 (x.data.length : Int), .int .i64 (nl : Int)] (0, 0) _ (World.alloc_heap_new w' _) Tryz.underlying161 rfl (by kernel_rfl) ?_))
        obtain ⟨_, x0, x1, x2, x3, x4, x5, _⟩ := blk6 b9
        refine bodyPost_ret (v := .tuple #[.agg #[.int .i64 (i : Int), .bool false, .int .i64 x.mode, .int .i64 x.tick, .int .i64 (x.data.length : Int), .int .i64 (nl : Int)], .int .i64 0]) (by simp [results, Tryz.results102, go_sem, x0, x1, x2, x3, x4, x5]) rfl ?_
        exact ⟨rfl, (below_drewN' ((((hA _).trans (hb.mono (by simp)))).alloc (by omega) _)).grown g9 (by simp; omega) (fun k e => by cases e; exact Nat.le_refl _)⟩

end Go.Proofs.YtlhiadnolckoeaaGreatDoor
end

section
namespace Go.Proofs.YtlhiadnolckoeaaGreatDoor
open Go.RowKit Go.Maps

theorem statRoot (w : World) (t h : Nat) (hT : TreeOf w t (emptyT h)) : Calls Tryz.prog 102 #[ptrV t, .string ⟨#[]⟩, .string ⟨#[47]⟩] w fun e w' => e = .returned (.tuple #[.agg #[.int .i64 1, .bool true, .int .i64 493, .int .i64 0, .int .i64 0, .int .i64 1], .int .i64 0]) ∧ Below w.heap.size w w' :=
  (stat_any w t (emptyT h) Abs.emptyT (fun _ => h + 1) (emptyT_is hT) ⟨#[]⟩ ⟨#[47]⟩ (by decide) (by decide)).mono fun e w' ⟨he, hb⟩ => ⟨he.trans (by
    have : Abs.T.look Abs.emptyT (⟨#[]⟩ : ByteArray).data.toList (⟨#[47]⟩ : ByteArray).data.toList = .ok 1 := by rfl
    rw [this]; rfl), hb⟩
theorem dumpRoot (w : World) (t h : Nat) (hT : TreeOf w t (emptyT h)) : Calls Tryz.prog 87 #[ptrV t] w fun e w' => e = .returned (.slice none 0 0) ∧ Below w.heap.size w w' := by
  have e0 := hT.item (h + 1) (rootItem h) (by simp [emptyT])
  exact callsIn_wide.1 (dumpNone_wide w t (h + 1) h _ (hT.blk.cell 0) (e0.1.cell 5) (e0.2.2 rfl).1)

end Go.Proofs.YtlhiadnolckoeaaGreatDoor
end

section
namespace Go.Proofs.YtlhiadnolckoeaaGreatDoor
open Go.RowKit Go.Maps

/-- a job of no nodes, no faults, at the root, at tick 0 -/
def jobCells (av ev iv : Value) (buf line run : Int) : Array Value := #[av, ev, .string ⟨#[]⟩, iv, .slice none 0 0, .int .i64 buf, .int .i64 line, .int .i64 run, .slice none 0 0, .int .i64 0, .slice none 0 0]
/-- limits that may be -/
structure LimOk (buf line run : Int) : Prop where
  h1 : 1 ≤ buf
  h2 : 1 ≤ line
  h3 : line ≤ run
  h4 : buf ≤ 1099511627776
  h5 : run ≤ 1099511627776

theorem loadNone (w : World) : Calls Tryz.prog 101 #[.slice none 0 0] w fun e w' => ∃ t h, e = .returned (.tuple #[.pointer (some ⟨t, 0, none⟩), .int .i64 0]) ∧ w.heap.size ≤ t ∧ TreeOf w' t (emptyT h) ∧ Below w.heap.size w w' :=
  (treeLoadNil w).mono fun _ _ ⟨he, hT, hb⟩ => ⟨_, _, he, by omega, hT, hb⟩

set_option maxRecDepth 100000 in
set_option maxHeartbeats 2000000 in
theorem mayNil (w : World) (A : Option Addr) (n c : Nat) (ev iv : Value) (buf line run : Int) (hn : 1 ≤ n) (hl : LimOk buf line run) :
    Calls Tryz.prog 78 #[.agg (jobCells (.slice A n c) ev iv buf line run)] w fun e w' => ∃ t h, e = .returned (.tuple #[ptrV t, .bool true]) ∧ w.heap.size ≤ t ∧ TreeOf w' t (emptyT h) ∧ Below w.heap.size w w' := by
  have hv := hl.h1
  have hv2 := hl.h2
  have hv3 := hl.h3
  have hv4 := hl.h4
  have hv5 := hl.h5
  unfold jobCells
  go_enter Tryz.func78, Tryz.ntmps78
  have hw1 : ¬ (n : Int) < 1 := by omega
  have hmx : ¬ (1099511627776 : Int) < max buf run := by omega
  go_wp2_with (first
    | (go_at_call 101; refine (loadNone _).mono ?_; rintro e w1 ⟨t, ht0, rfl, hts, hT, hb1⟩
       have bx : Blk w1 w.heap.size 36 (jobCells (.slice A n c) ev iv buf line run) := Blk.on (Blk.new w _ _) hb1
       have x0 : w1.cell? ⟨w.heap.size, 0, none⟩ = some (.slice A n c) := bx.cell 0
       have x2 : w1.cell? ⟨w.heap.size, 2, none⟩ = some (.string ⟨#[]⟩) := bx.cell 2
       have x5 : w1.cell? ⟨w.heap.size, 5, none⟩ = some (.int .i64 buf) := bx.cell 5
       have x6 : w1.cell? ⟨w.heap.size, 6, none⟩ = some (.int .i64 line) := bx.cell 6
       have x7 : w1.cell? ⟨w.heap.size, 7, none⟩ = some (.int .i64 run) := bx.cell 7
       have x9 : w1.cell? ⟨w.heap.size, 9, none⟩ = some (.int .i64 0) := bx.cell 9)
    | (go_at_call 102; refine (statRoot _ _ _ hT).mono ?_; rintro e w2 ⟨rfl, hb2⟩))
  all_goals
    go_quiet (fail)
    go_wp2_with fail
    go_returns
    refine ⟨t, ht0, rfl, Nat.le_trans (by simp) hts, ?_, ?_⟩
    · exact (hT.below hb2).below (below_drewN (below_one w2 _) nq)
    · exact below_step (below_step (below_one w _) hb1 (Nat.le_refl _)) (below_step hb2 (below_drewN (below_one w2 _) nq) (Nat.le_refl _)) (Nat.le_refl _)

end Go.Proofs.YtlhiadnolckoeaaGreatDoor
end

section
namespace Go.Proofs.YtlhiadnolckoeaaGreatDoor
open Go.RowKit Go.Maps

theorem Tryz.infoInt : (Tryz.prog.info? 3).map (fun i => (i.zero, i.size, i.bytes)) = some (some (.int .i64 0), 1, 8) := by kernel_rfl
def intsC (l : List Nat) : List Value := l.map fun n : Nat => .int .i64 (n : Int)
theorem intsC_oneCell (l : List Nat) : ∀ u ∈ intsC l, u.oneCell' = true := by
  intro u hu
  obtain ⟨s, _, rfl⟩ := List.mem_map.1 hu
  rfl
def isNilV : Value → Bool
  | .nilIface => true
  | _ => false
/-- the descriptors below n that have something -/
def fdsOf (D : Nat → Value) (n : Nat) : List Nat := (List.range n).filter fun i => !isNilV (D i)
theorem fdsOf_succ (D : Nat → Value) (n : Nat) : fdsOf D (n + 1) = fdsOf D n ++ if isNilV (D n) then [] else [n] := by
  unfold fdsOf
  rw [List.range_succ, List.filter_append]
  cases h : isNilV (D n) <;> simp [h]
theorem fdsOf_le (D : Nat → Value) (n : Nat) : (fdsOf D n).length ≤ n := by
  have := List.length_filter_le (fun i => !isNilV (D i)) (List.range n)
  simpa [fdsOf] using this
theorem intsC_length (l : List Nat) : (intsC l).length = l.length := by simp [intsC]
/-- a row of one new cell -/
theorem row_one (w : World) (t : TypeId) (v : Value) : Reads (w.alloc (.cells #[v] t)) (w.heap.size + 1) 1 (some ⟨w.heap.size, 0, none⟩) 1 [v] := by
  refine ⟨rfl, fun _ => ⟨_, rfl, Nat.lt_succ_self _, fun j u hu => ?_⟩⟩
  have hj : j = 0 := by have := (List.getElem?_eq_some_iff.1 hu).1; simp at this; exact this
  subst hj
  have h0 := (Blk.new w t #[v]).cell 0
  simpa [Addr.add] using (h0.trans hu)

theorem Tryz.infoThing : (Tryz.prog.info? 178).map (fun i => (i.zero, i.size, i.bytes)) = some (some .nilIface, 1, 16) := by kernel_rfl
theorem idx16 (cs : List Value) (j : Nat) (v : Value) (hj : j < 16) (e : cs[j]? = some v) (W : World) : (Instr.index 180 (.agg cs.toArray) (.int .i64 (j : Int))).run Tryz.prog W = .ok v W := by
  obtain ⟨iT, hiT, hT0, hT1, hT2⟩ := info_parts Tryz.infoThing
  have hu : (underlying 180).run Tryz.prog W = .ok (.array 16 178) W := run_underlying Tryz.underlying180 W
  have h0 : (0 : Int) ≤ (j : Int) ∧ (j : Int) < 16 := by omega
  simp [Instr.index, asIntOf, hu, part, sizeOf, typeInfo, hiT, hT1, h0, hj, e]

set_option maxRecDepth 100000 in
set_option maxHeartbeats 2000000 in
theorem kFds (w : World) (b k : Nat) (D : Nat → Value) (h : TableOf w b k D) (hD : ∀ i, i < 16 → D i = .nilIface ∨ ∃ t x, D i = .iface t x) :
    Calls Tryz.prog 168 #[.pointer (some ⟨b, 0, none⟩)] w fun e w' => ∃ v, e = .returned v ∧ w'.ownsRow w.heap.size 3 1 v (fdsOf D 16).length (intsC (fdsOf D 16)) ∧ Below w.heap.size w w' := by
  have hra : w.rangeAt b 1 ((List.range 16).map D) := by
    intro j v hv
    have hj : j < 16 := by have := (List.getElem?_eq_some_iff.1 hv).1; simpa using this
    rw [Nat.add_comm, h.fd j hj]
    simpa [hj] using hv
  obtain ⟨cs, hcs⟩ : ∃ cs, (List.range 16).map D = cs := ⟨_, rfl⟩
  rw [hcs] at hra
  have hlen : cs.length = 16 := by rw [← hcs]; simp
  have hat : ∀ j, j < 16 → cs[j]? = some (D j) := by intro j hj; rw [← hcs]; simp [hj]
  have HLEN := Lib.hid hlen
  have HAT := Lib.hid hat
  have HD := Lib.hid hD
  clear hcs hlen hat hD
  obtain ⟨iI, hiI, hI0, hI1, hI2⟩ := info_parts Tryz.infoInt
  have HI := Lib.hid hiI
  have H0 := Lib.hid hI0
  have H1 := Lib.hid hI1
  have H2 := Lib.hid hI2
  clear hiI hI0 hI1 hI2
  go_enter Tryz.func168, Tryz.ntmps168
  go_wp2_with (first | (refine wpList_load_mid rfl _ _ rfl b 1 rfl cs _ hra Tryz.underlying180 rfl (by rw [HLEN.out]; kernel_rfl) ?_) | fail)
  go_loopw [3, 10] (fun o i W => ∃ (j : Nat), j ≤ 16 ∧ i = .int .i64 (j : Int) ∧ W.ownsRow w.heap.size 3 1 o (fdsOf D j).length (intsC (fdsOf D j)) ∧ Below w.heap.size w W) (fun _ i _ => 16 - (intOf i).toNat)
  case atStart => exact ⟨0, Nat.zero_le _, rfl, World.ownsRow_nil _ _ _ _, Below.refl _ _⟩
  case round =>
    obtain ⟨j, hj, rfl, hown, hbel⟩ := hrel
    have HB := Lib.hid hbel
    have HO := Lib.hid hown
    clear hbel hown
    obtain ⟨A, cp, rfl, _⟩ := own_slice HO.out
    by_cases hlt : j < 16
    · have e0 := HAT.out j hlt
      have hfs := fdsOf_succ D j
      have hfl := fdsOf_le D j
      rcases HD.out j hlt with hn | ⟨t, x, hn⟩
      · rw [hn] at e0
        have hix := idx16 cs j _ hlt e0
        rw [hn] at hfs
        simp only [isNilV, if_true, List.append_nil] at hfs
        have HFS := Lib.hid hfs
        clear hfs hfl hn
        go_wp2_with fail
        go_roundw
        case rel => exact ⟨j + 1, by omega, by go_num, by rw [HFS.out]; exact HO.out, HB.out⟩
        case measure => simp [intOf]; omega
      · rw [hn] at e0
        have hix := idx16 cs j _ hlt e0
        rw [hn] at hfs
        simp only [isNilV, Bool.false_eq_true, if_false] at hfs
        have HFS := Lib.hid hfs
        have HFL := Lib.hid hfl
        clear hfs hfl hn
        go_wp2_with (at_builtin; refine wpList_append_any _ rfl _ _ 34 rfl w.heap.size 3 iI (.int .i64 0) 1 8 Tryz.underlying34 HI.out H0.out H1.out H2.out rfl (by decide) (.slice A (fdsOf D j).length cp) (fdsOf D j).length (intsC (fdsOf D j)) rfl ((HO.out).alloc _) (wr.heap.size + 1) (some ⟨wr.heap.size, 0, none⟩) 1 1 [.int .i64 (j : Int)] rfl (row_one wr 3 _) (by simp [Value.oneCell']) (by have := HFL.out; simp only [maxLen]; omega) (by have := HFL.out; omega) (by have := HB.out.size; simp; omega) ?_; intro v1 w1 hown1 hg1 hat1)
        go_roundw
        case rel =>
          refine ⟨j + 1, by omega, by go_num, ?_, HB.out.alloc HB.out.size _ |>.grown hg1 (by have := HB.out.size; simp; omega) (fun r hr => (HO.out.lt r hr).1)⟩
          rw [HFS.out, List.length_append]
          simpa [intsC] using hown1
        case measure => simp [intOf]; omega
    · have he : j = 16 := by omega
      subst he
      go_wp2_with fail
      go_returns
      exact ⟨_, rfl, HO.out, HB.out⟩

/-- of a table of sources and sinks -/
def Plain (D : Nat → Value) : Prop := ∀ i, i < 16 → D i = .nilIface ∨ (∃ s, D i = sourceV s) ∨ ∃ s, D i = sinkV s
theorem Plain.iface {D : Nat → Value} (h : Plain D) : ∀ i, i < 16 → D i = .nilIface ∨ ∃ t x, D i = .iface t x := by
  intro i hi
  rcases h i hi with h | ⟨s, h⟩ | ⟨s, h⟩
  · exact .inl h
  · exact .inr ⟨_, _, h⟩
  · exact .inr ⟨_, _, h⟩
theorem TableOf.congr {w : World} {b k : Nat} {D D' : Nat → Value} (h : TableOf w b k D) (hD : ∀ i, i < 16 → D i = D' i) : TableOf w b k D' := by
  unfold TableOf at h ⊢
  have e : tableCells k D = tableCells k D' := by
    unfold tableCells
    congr 2
    exact List.map_congr_left fun i hi => hD i (List.mem_range.1 hi)
  rwa [e] at h

set_option maxRecDepth 100000 in
set_option maxHeartbeats 2000000 in
theorem kFree (w : World) (b k : Nat) (D : Nat → Value) (h : TableOf w b k D) (hD : Plain D) :
    Calls Tryz.prog 138 #[.pointer (some ⟨b, 0, none⟩)] w fun e w' => e = .returned (.tuple #[]) ∧ TableOf w' b k (fun _ => .nilIface) ∧ Turns [b] w w' := by
  have hfd := kFds w b k D h hD.iface
  obtain ⟨fl, hfl⟩ : ∃ fl, fdsOf D 16 = fl := ⟨_, rfl⟩
  rw [hfl] at hfd
  have hmem : ∀ i, i ∈ fl → i < 16 ∧ isNilV (D i) = false := by
    intro i hi
    rw [← hfl] at hi
    have := List.mem_filter.1 hi
    exact ⟨List.mem_range.1 this.1, by simpa using this.2⟩
  have hall : ∀ i, i < 16 → i ∉ fl → D i = .nilIface := by
    intro i hi hn
    rcases hD i hi with e | ⟨s, e⟩ | ⟨s, e⟩
    · exact e
    all_goals
      exfalso
      apply hn
      rw [← hfl]
      exact List.mem_filter.2 ⟨List.mem_range.2 hi, by rw [e]; rfl⟩
  have hnd : fl.Nodup := by rw [← hfl]; exact List.Pairwise.filter _ List.nodup_range
  have hlen : fl.length ≤ 16 := by rw [← hfl]; exact fdsOf_le D 16
  have hlt := Blk.lt h
  have HM := Lib.hid hmem
  have HA := Lib.hid hall
  have HN := Lib.hid hnd
  have HL := Lib.hid hlen
  have HT := Lib.hid h
  have HD := Lib.hid hD
  clear hfl hmem hall hnd hlen h hD
  go_enter Tryz.func138, Tryz.ntmps138
  go_wp2_with (go_at_call 168; refine hfd.mono ?_; rintro e w1 ⟨v, rfl, hown, hbel⟩; obtain ⟨A, cp, rfl, hcp⟩ := own_slice hown)
  have HO := Lib.hid hown
  have HB := Lib.hid hbel
  clear hown hbel
  go_loopw [7] (fun i W => ∃ (j : Nat), j ≤ fl.length ∧ i = .int .i64 (j : Int) ∧ TableOf W b k (fun i => if i ∈ fl.take j then .nilIface else D i) ∧ Turns [b] w1 W) (fun i _ => fl.length - (intOf i).toNat)
  case atStart => exact ⟨0, Nat.zero_le _, rfl, TableOf.congr (D := D) (Blk.on HT.out HB.out) (fun i _ => by simp), Turns.refl _ _⟩
  case round =>
    obtain ⟨j, hj, rfl, hT, hTu⟩ := hrel
    have hbA : ∀ ad, A = some ad → ad.block ∉ [b] := by
      intro ad hA hm
      rw [List.mem_singleton] at hm
      rcases HO.out.2 with ⟨e, _⟩ | ⟨g, cap, cur, e, hg, _⟩
      · simp only [Value.slice.injEq] at e; rw [hA] at e; exact absurd e.1 (by simp)
      · simp only [Value.slice.injEq] at e; rw [hA] at e; have := e.1; cases this; simp at hm; omega
    have hR := hcp.2.2.turns hTu (Nat.le_refl _) hbA
    have hj16 : j ≤ 16 := Nat.le_trans hj HL.out
    by_cases hlt2 : j < fl.length
    · obtain ⟨ad, u, rfl, _, hu, hcell⟩ := hR.at_ hlt2
      obtain ⟨i0, hi0⟩ : ∃ i0, fl[j]? = some i0 := ⟨_, List.getElem?_eq_getElem hlt2⟩
      have hui : u = .int .i64 (i0 : Int) := by
        rw [intsC, List.getElem?_map, hi0] at hu
        simpa using hu.symm
      subst hui
      have hmi := HM.out i0 (List.mem_of_getElem? hi0)
      have hnt : i0 ∉ fl.take j := by
        intro hm
        obtain ⟨q, hq⟩ := List.getElem?_of_mem hm
        rw [List.getElem?_take] at hq
        split at hq
        · have := (List.getElem?_inj (i := q) (j := j) (by omega) HN.out).1 (by rw [hq, hi0])
          omega
        · cases hq
      have hset : Calls Tryz.prog 106 #[.pointer (some ⟨b, 0, none⟩), .int .i64 (i0 : Int), .nilIface] wr fun e w' => e = .returned (.tuple #[]) ∧ w' = wr.setCell ⟨b, i0 + 1, none⟩ .nilIface := by
        rcases HD.out i0 hmi.1 with e | ⟨s, e⟩ | ⟨s, e⟩
        · rw [e] at hmi; exact absurd hmi.2 (by simp [isNilV])
        · exact setNil wr b k _ hT i0 hmi.1 _ _ (by simp only [if_neg hnt]; rw [e]; rfl) _ (leftSource _ k s)
        · exact setNil wr b k _ hT i0 hmi.1 _ _ (by simp only [if_neg hnt]; rw [e]; rfl) _ (leftSink _ k s)
      have hT2 : TableOf (wr.setCell ⟨b, i0 + 1, none⟩ .nilIface) b k (fun i => if i ∈ fl.take (j + 1) then .nilIface else D i) := by
        refine (hT.set i0 hmi.1 .nilIface).congr fun i hi => ?_
        rw [List.take_add_one, hi0]
        by_cases e : i = i0
        · simp [e]
        · simp [e]
      have HT2 := Lib.hid hT2
      have HTU := Lib.hid hTu
      have HSET := Lib.hid hset
      clear hT2 hTu hset hT hnt hmi hu hi0 hbA hR
      go_wp2_with (go_at_call 106; refine HSET.out.mono ?_; rintro e w2 ⟨rfl, rfl⟩)
      go_roundw
      case rel => exact ⟨j + 1, by omega, by go_num, HT2.out, HTU.out.setCell _ _ (fun _ => List.mem_singleton.2 rfl)⟩
      case measure => simp [intOf]; omega
    · have he : j = fl.length := by omega
      subst he
      have HT2 := Lib.hid hT
      have HTU := Lib.hid hTu
      clear hT hTu hR
      go_wp2_with fail
      go_returns
      refine ⟨rfl, HT2.out.congr fun i hi => ?_, ((Turns.of_below HB.out).more (by simp)).trans HTU.out⟩
      rw [List.take_length]
      by_cases e : i ∈ fl
      · simp [e]
      · simp [e, HA.out i hi e]

end Go.Proofs.YtlhiadnolckoeaaGreatDoor
end

section
namespace Go.Proofs.YtlhiadnolckoeaaGreatDoor
open Go.RowKit Go.Maps

/-- a machine -/
abbrev MachAt (w : World) (m p : Nat) (f : Value) (done : Bool) (st : Int) : Prop := Blk w m 144 #[.pointer (some ⟨p, 0, none⟩), f, .bool done, .int .i64 st]

/-- a process that has ended -/
def PS.over (J : PS) : PS := { J with held := 0, lv := .slice none 0 0, log := [] }

set_option maxRecDepth 100000 in
set_option maxHeartbeats 2000000 in
theorem ended_any (w : World) (m p : Nat) (J : PS) (D : Nat → Value) (f : Value) (st : Int) (hm : MachAt w m p f false st) (hp : ProcOf w p J) (ht : TableOf w J.tb J.k D) (hD : Plain D) :
    Calls Tryz.prog 110 #[.pointer (some ⟨m, 0, none⟩)] w fun e w' => e = .returned (.tuple #[]) ∧ MachAt w' m p f true st ∧ ProcOf w' p J.over ∧ TableOf w' J.tb J.k (fun _ => .nilIface) ∧ Turns [m, p, J.tb] w w' := by
  have hb := hp.blk
  have c0 : w.cell? ⟨m, 0, none⟩ = some (.pointer (some ⟨p, 0, none⟩)) := hm.cell 0
  have c2 : w.cell? ⟨m, 2, none⟩ = some (.bool false) := hm.cell 2
  have f2 : w.frozen? ⟨m, 2, none⟩ = false := hm.frozen 2
  have hmp : m ≠ p := Blk.ne_ hm hb (by decide)
  have b2 : Blk (w.setCell ⟨m, 2, none⟩ (.bool true)) m 144 #[.pointer (some ⟨p, 0, none⟩), f, .bool true, .int .i64 st] := hm.set_ 2 _
  obtain ⟨W, hW⟩ : ∃ W, w.setCell ⟨m, 2, none⟩ (.bool true) = W := ⟨_, rfl⟩
  have pW : Blk W p 132 (procCells J) := by rw [← hW]; exact hb.far (by show p ≠ m; omega) _
  have TW : Turns [m, p, J.tb] w W := by rw [← hW]; exact (Turns.refl _ w).setCell _ _ (by simp)
  have hWb : Blk W m 144 #[.pointer (some ⟨p, 0, none⟩), f, .bool true, .int .i64 st] := by rw [← hW]; exact b2
  have d0 : W.cell? ⟨m, 0, none⟩ = some (.pointer (some ⟨p, 0, none⟩)) := hWb.cell 0
  have g8 : W.frozen? ⟨p, 8, none⟩ = false := pW.frozen 8
  have g10 : W.frozen? ⟨p, 10, none⟩ = false := pW.frozen 10
  have k8 : W.cell? ⟨p, 8, none⟩ = some (.int .i64 J.held) := pW.cell 8
  have k10 : W.cell? ⟨p, 10, none⟩ = some J.lv := pW.cell 10
  have k1 : W.cell? ⟨p, 1, none⟩ = some (.pointer (some ⟨J.tb, 0, none⟩)) := pW.cell 1
  obtain ⟨A, cp, hlv, _⟩ := own_slice hp.log
  rw [hlv] at k10
  go_enter Tryz.func110, Tryz.ntmps110
  go_wp2_with fail
  have HW := Lib.hid hW
  clear hW
  go_region
  obtain ⟨Y, hY⟩ : ∃ Y, ((W.setCell ⟨p, 8, none⟩ (.int .i64 0)).setCell ⟨p, 10, none⟩ (.slice none 0 0)).drew = Y := ⟨_, rfl⟩
  have pY : Blk Y p 132 (procCells J.over) := by
    rw [← hY]
    exact ((pW.set_ 8 (.int .i64 0)).set_ 10 (.slice none 0 0)).drew
  have TY : Turns [p] W Y := by rw [← hY]; exact (((Turns.refl _ W).setCell ⟨p, 8, none⟩ _ (fun _ => List.mem_singleton.2 rfl)).setCell ⟨p, 10, none⟩ _ (fun _ => List.mem_singleton.2 rfl)).drew
  have mY : MachAt Y m p f true st := (TY.block m hWb.lt (by rw [List.mem_singleton]; exact hmp)).trans hWb
  have tY : TableOf Y J.tb J.k D := (TY.block _ (Nat.lt_of_lt_of_le (Blk.lt ht) TW.size) (by rw [List.mem_singleton]; exact Blk.ne_ ht hb (by decide))).trans ((by rw [← HW.out]; exact Blk.far ht (by show J.tb ≠ m; exact Blk.ne_ ht hm (by decide)) _ : TableOf W J.tb J.k D))
  have y0 : Y.cell? ⟨m, 0, none⟩ = some (.pointer (some ⟨p, 0, none⟩)) := mY.cell 0
  have y1 : Y.cell? ⟨p, 1, none⟩ = some (.pointer (some ⟨J.tb, 0, none⟩)) := pY.cell 1
  have hfree := kFree Y J.tb J.k D tY hD
  have T0 : Turns [m, p, J.tb] w Y := TW.trans (TY.more (by simp))
  have PY : ProcOf Y p J.over := by
    refine ⟨pY, ownsRow_same hp.args fun g hg => ?_, ownsRow_same hp.env fun g hg => ?_, World.ownsRow_nil _ _ _ _⟩
    · refine T0.block g (hp.args.lt g hg).2 ?_
      simp only [List.mem_cons, List.not_mem_nil, or_false, not_or]
      exact ⟨fun e => own_blk_ne hp.args hm (by decide) (e ▸ hg), fun e => own_blk_ne hp.args hb (by decide) (e ▸ hg), fun e => own_blk_ne hp.args ht (by decide) (e ▸ hg)⟩
    · refine T0.block g (hp.env.lt g hg).2 ?_
      simp only [List.mem_cons, List.not_mem_nil, or_false, not_or]
      exact ⟨fun e => own_blk_ne hp.env hm (by decide) (e ▸ hg), fun e => own_blk_ne hp.env hb (by decide) (e ▸ hg), fun e => own_blk_ne hp.env ht (by decide) (e ▸ hg)⟩
  have htp : J.tb ∉ J.over.foot p := PY.off tY (by decide) (by decide) (by decide)
  have htm : m ≠ J.tb := Blk.ne_ hm ht (by decide)
  clear d0 g8 g10 k8 k10 k1 c0 f2
  go_wp2_with (go_at_call 138; refine hfree.mono ?_; rintro e w4 ⟨rfl, hT4, hTu4⟩)
  go_returns
  exact ⟨rfl, (hTu4.block m mY.lt (by rw [List.mem_singleton]; exact htm)).trans mY, PY.turns hTu4 (fun g hg hm' => htp ((List.mem_singleton.1 hm') ▸ hg)), hT4, T0.trans (hTu4.more (by simp))⟩

set_option maxHeartbeats 2000000 in
theorem catch_idle (a b : Addr) (w : World) :
    CallsD Tryz.prog 137 #[.pointer (some a), .pointer (some b)] .returning w fun e u' w' => e = .returned (.tuple #[]) ∧ u' = .returning ∧ w' = w := by
  refine callsD_of_wpS Tryz.func137 rfl fun c₀ cs hu => ?_
  apply wpS_seq
  apply wpS_region
  simp [wpOpsS, go_sem, recoverD, hu, Tryz.ntmps137, Exit.thenS]
  refine wpS_of_wp ?_
  rw [show (#[Value.pointer (some a), Value.pointer (some b)] ++ (Array.replicate 16 undef).setIfInBounds 4 Value.nilIface) = #[Value.pointer (some a), Value.pointer (some b), undef, undef, undef, undef, Value.nilIface, undef, undef, undef, undef, undef, undef, undef, undef, undef, undef, undef] from rfl]
  go_wp2_with fail
  cases c₀
  simp_all [bodyPostS, results, Tryz.results137]

/-- what a main function does to a job that begins at w -/
def MainDoes (w : World) (X : Job) (F : Flow) (id : FuncId) (caps : Array Value) (R : Int → Flow → Prop) : Prop :=
  ∀ W, Turns [X.p] w W → JobOf W X F → Calls Tryz.prog id (#[.pointer (some ⟨X.p, 0, none⟩)] ++ caps) W fun e w' => ∃ n F', e = .returned (.int .i64 n) ∧ JobOf w' X F' ∧ Went X F F' W w' ∧ R n F'

set_option maxRecDepth 100000 in
set_option maxHeartbeats 2000000 in
theorem attempt_top (w : World) (m : Nat) (X : Job) (F : Flow) (id : FuncId) (caps : Array Value) (R : Int → Flow → Prop) (st : Int) (hm : MachAt w m X.p (.func (.func id) #[] caps) false st) (hX : JobOf w X F)
    (hen : ∀ args W, (callFunc id args).run Tryz.prog W = .ok (.enter id args) W) (hmain : MainDoes w X F id caps R) :
    Calls Tryz.prog 109 #[.pointer (some ⟨m, 0, none⟩)] w fun e w' => e = .returned (.bool true) ∧ ∃ n F', JobOf w' X F' ∧ R n F' ∧ MachAt w' m X.p (.func (.func id) #[] caps) false n ∧
      Turns ([m] ++ X.foot F) w w' ∧ (∀ g ∈ X.foot F', g ∈ X.foot F ∨ w.heap.size ≤ g) := by
  have hmf : ∀ (fn : Fn) (first cap : Array Value) (w : World), (Instr.makeFunc fn first cap).run Tryz.prog w = .ok (.func fn first cap) w := fun _ _ _ _ => rfl
  have HEN := Lib.hid hen
  have HM := Lib.hid hmain
  clear hen hmain
  go_enter_defers Tryz.func109, Tryz.ntmps109
  go_wp2_with fail
  obtain ⟨W, hW⟩ : ∃ W, (w.alloc (.cells #[.pointer (some ⟨m, 0, none⟩)] 140)).alloc (.cells #[.bool false] 4) = W := ⟨_, rfl⟩
  rw [hW]
  have hbW : Below w.heap.size w W := by rw [← hW]; exact below_box (below_one w _) (Nat.le_refl _) _
  have kb : Blk W w.heap.size 140 #[.pointer (some ⟨m, 0, none⟩)] := by rw [← hW]; exact (Blk.new w _ _).alloc _
  have ko : Blk W (w.heap.size + 1) 4 #[.bool false] := by rw [← hW]; exact Blk.newNext w _ _ _
  have km : MachAt W m X.p (.func (.func id) #[] caps) false st := Blk.on hm hbW
  have kX := hX.below hbW
  have vm : MachAt W.drew m X.p (.func (.func id) #[] caps) false st := km
  have vX : JobOf W.drew X F := kX.same fun _ _ => rfl
  have vT : Turns [X.p] w W.drew := ((Turns.of_below hbW).more (by simp)).drew
  have b0 : W.cell? ⟨w.heap.size, 0, none⟩ = some (.pointer (some ⟨m, 0, none⟩)) := kb.cell 0
  have m0 : W.cell? ⟨m, 0, none⟩ = some (.pointer (some ⟨X.p, 0, none⟩)) := km.cell 0
  have m1 : W.cell? ⟨m, 1, none⟩ = some (.func (.func id) #[] caps) := km.cell 1
  have hcall := HM.out W.drew vT vX
  have hVs : w.heap.size + 1 < W.heap.size := ko.lt
  have hml : m < w.heap.size := hm.lt
  have am : m ∉ X.foot F := kX.off km (by decide) (by decide) (by decide) (by decide) (by decide) (by decide) (by decide) (by decide) (by decide)
  have ab : w.heap.size ∉ X.foot F := kX.off kb (by decide) (by decide) (by decide) (by decide) (by decide) (by decide) (by decide) (by decide) (by decide)
  have ao : w.heap.size + 1 ∉ X.foot F := kX.off ko (by decide) (by decide) (by decide) (by decide) (by decide) (by decide) (by decide) (by decide) (by decide)
  have AM := Lib.hid am
  have AB := Lib.hid ab
  have AO := Lib.hid ao
  have KM := Lib.hid km
  have KB := Lib.hid kb
  have KO := Lib.hid ko
  have HC := Lib.hid hcall
  have hen2 := HEN.out
  clear am ab ao hW km kb ko vm hcall
  go_region_held3 (fun Z => Z.cell? ⟨w.heap.size, 0, none⟩ = some (.pointer (some ⟨m, 0, none⟩)) ∧ Z.cell? ⟨m, 0, none⟩ = some (.pointer (some ⟨X.p, 0, none⟩)) ∧ Z.cell? ⟨m, 1, none⟩ = some (.func (.func id) #[] caps))
    (first | (refine ⟨?_, ?_, ?_⟩ <;> assumption) | (refine ⟨?_, ?_, ?_⟩ <;> (rw [World.cell?_setCell_other _ _ _ _ (by first | (simp; done) | (simp; omega))]; assumption)) | go_keep)
    (first | (refine HC.out.mono ?_; rintro e w1 ⟨n, F', rfl, hJ1, hW1, hR1⟩
              have q := (hW1.away KM.out.lt AM.out).1.trans KM.out
              have qb := (hW1.away KB.out.lt AB.out).1.trans KB.out
              have q0 : w1.cell? ⟨m, 0, none⟩ = some (.pointer (some ⟨X.p, 0, none⟩)) := Blk.cell q 0
              have q1 : w1.cell? ⟨m, 1, none⟩ = some (.func (.func id) #[] caps) := Blk.cell q 1
              have q3 : w1.cell? ⟨m, 3, none⟩ = some (.int .i64 st) := Blk.cell q 3
              have r3 : w1.frozen? ⟨m, 3, none⟩ = false := Blk.frozen q 3
              have p0 : w1.cell? ⟨w.heap.size, 0, none⟩ = some (.pointer (some ⟨m, 0, none⟩)) := Blk.cell qb 0))
  have qo := (hW1.away KO.out.lt AO.out).1.trans KO.out
  have o0 : w1.cell? ⟨w.heap.size + 1, 0, none⟩ = some (.bool false) := Blk.cell qo 0
  have o1 : w1.frozen? ⟨w.heap.size + 1, 0, none⟩ = false := Blk.frozen qo 0
  have hne : ¬ m = w.heap.size + 1 := by omega
  go_wp2_with fail
  refine leaves_cons (f := 137) (args := #[.pointer (some ⟨w.heap.size + 1, 0, none⟩), .pointer (some ⟨w.heap.size, 0, none⟩)]) (by simp) (by simp [go_sem]) ?_
  refine (catch_idle ⟨w.heap.size + 1, 0, none⟩ ⟨w.heap.size, 0, none⟩ _).mono ?_
  rintro e u' w'' ⟨rfl, rfl, rfl⟩
  have z0 : ((w1.setCell ⟨m, 3, none⟩ (.int .i64 n)).setCell ⟨w.heap.size + 1, 0, none⟩ (.bool true)).cell? ⟨w.heap.size + 1, 0, none⟩ = some (.bool true) := Blk.cell ((Blk.far qo (by show w.heap.size + 1 ≠ m; omega) _).set_ 0 (.bool true)) 0
  simp [Leaves, settle, results, Tryz.results109, go_sem, z0]
  have hTm : Turns [m, w.heap.size + 1] w1 ((w1.setCell ⟨m, 3, none⟩ (.int .i64 n)).setCell ⟨w.heap.size + 1, 0, none⟩ (.bool true)) := ((Turns.refl _ w1).setCell _ _ (by simp)).setCell _ _ (by simp)
  have TW := Turns.of_below hbW
  refine ⟨n, F', hJ1.turns hTm ?_, hR1, ?_, ?_, ?_⟩
  · intro g hg hm'
    simp only [List.mem_cons, List.not_mem_nil, or_false] at hm'
    rcases hm' with rfl | rfl
    · exact (hW1.away KM.out.lt AM.out).2 hg
    · exact (hW1.away KO.out.lt AO.out).2 hg
  · exact Blk.far (Blk.set_ q 3 _) (by show m ≠ w.heap.size + 1; omega) _
  · refine (((TW.more (S' := m :: X.foot F) (by simp)).drew.trans (hW1.turns.more (by intro g hg; exact List.mem_cons_of_mem _ hg))).setCell _ _ (by simp)).setCell _ _ (fun hlt => ?_)
    exact absurd hlt (by show ¬ w.heap.size + 1 < w.heap.size; omega)
  · intro g hg
    rcases hW1.news g hg with h1 | h1
    · exact .inl h1
    · exact .inr (Nat.le_trans hbW.size h1)

end Go.Proofs.YtlhiadnolckoeaaGreatDoor
end
