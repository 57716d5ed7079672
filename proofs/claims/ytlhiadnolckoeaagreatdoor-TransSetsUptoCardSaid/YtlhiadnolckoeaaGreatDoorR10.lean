/-
  Parts that the claims share: What Read of a job's input does to the job; What Hold, Drop and Lim of a process do to a job; Walks over a reader of a job's input: New, drop, fill, Chunk; A walk over Chunk of a reader of a job's input; What mains of jobs want: their arguments, proc.Go, what they tell; What the listed tables give; Walks over strconv.ParseInt at the bases eight and ten, where every byte is a digit of the base; Walks over text.based, Number and Octal.
-/
import Derived.Test.YtlhiadnolckoeaaGreatDoorR03
import Derived.Test.YtlhiadnolckoeaaGreatDoorR08
import Derived.Test.YtlhiadnolckoeaaGreatDoorR09
import Derived.Deep.RegionWith
import Derived.Deep.RegionHeld3
import Derived.LoopN
import Derived.Test.YtlhiadnolckoeaaGreatDoorR07
import Derived.Test.YtlhiadnolckoeaaGreatDoorR04
import Derived.WalkSmall
import Derived.Lib.IfaceNeq

section
namespace Go.Proofs.YtlhiadnolckoeaaGreatDoor
open Go.RowKit Go.Maps

/-- a flow that has read n bytes -/
def Flow.read (F : Flow) (n : Nat) (v : Value) : Flow := { F with steps := F.steps + 1, sv := v, inb := F.inb.drop n }

set_option maxRecDepth 100000 in
set_option maxHeartbeats 2000000 in
theorem jobRead (w : World) (X : Job) (F : Flow) (h : JobOf w X F) (hst : F.steps < 4611686018427387904) (most : Int) (hm1 : 1 ≤ most) (hm2 : most ≤ 9223372036854775807) (hl : F.inb.length ≤ 140737488355328)
    (n : Nat) (hn : min most (F.inb.length : Int) = (n : Int)) :
    Calls Tryz.prog 186 #[.pointer (some ⟨X.p, 0, none⟩), .int .i64 0, .int .i64 most] w fun e w' => ∃ A c, e = .returned (.tuple #[.slice A n c, .int .i64 0]) ∧
      w'.ownsRow w.heap.size 5 1 (.slice A n c) n (bytesC (F.inb.take n)) ∧ ∃ v, JobOf w' X (F.read n v) ∧ Went X F (F.read n v) w w' ∧ (∀ g ∈ X.foot (F.read n v), g ∈ X.foot F) := by
  have hnl : n ≤ F.inb.length := by omega
  obtain ⟨SA, sc, hsv, hsc, hsr⟩ := h.inp.form
  have hS : ∀ g ∈ [X.B.k, X.src], g < w.heap.size := by
    intro g hg
    simp only [List.mem_cons, List.not_mem_nil, or_false] at hg
    rcases hg with rfl | rfl
    · exact h.kern.blk.lt
    · exact h.src.lt
  have hoff : ∀ g ∈ X.B.foot X.p, g ∉ [X.B.k, X.src] := by
    intro g hg hm
    have hp : g ∈ (X.J F).foot X.p := hg
    simp only [List.mem_cons, List.not_mem_nil, or_false] at hm
    rcases hm with rfl | rfl
    · exact h.proc.off h.kern.blk (by decide) (by decide) (by decide) hp
    · exact h.proc.off h.src (by decide) (by decide) (by decide) hp
  obtain ⟨v', hv'⟩ : ∃ v', Value.slice (cutA SA sc n 1) (F.inb.length - n) (sc - n) = v' := ⟨_, rfl⟩
  have hown : ∀ g, v'.ownBlock = some g → F.sv.ownBlock = some g := by
    intro g hg
    rw [hsv]
    rw [← hv'] at hg
    cases SA with
    | none => simp [cutA, Value.ownBlock] at hg
    | some ad =>
      by_cases hc : sc = n
      · simpa [cutA, hc, Value.ownBlock] using hg
      · have e1 : (ad.add n).block = ad.block := by unfold Addr.add; split <;> rfl
        simpa [cutA, hc, Value.ownBlock, e1] using hg
  refine (procRead_top w X.p (X.J F) h.proc h.may h.top h.at_ h.log hst (.int .i64 0) (.int .i64 most) rfl rfl n 0 rfl [X.B.k, X.src] hS hoff
    (fun W A c w4 => w.heap.size ≤ W.heap.size ∧ w4.ownsRow W.heap.size 5 1 (.slice A n c) n (bytesC (F.inb.take n)) ∧ KernOf w4 X.B.k X.K ∧ Blk w4 X.src 192 #[v']) ?_).mono ?_
  · intro W hPW hTW
    have hpf : ∀ g ∈ X.K.foot X.B.k, g ∉ [X.p] := fun g hg hm => h.kern.off h.proc.blk (by decide) (by decide) ((List.mem_singleton.1 hm) ▸ hg)
    have hKW := h.kern.turns hTW hpf
    have hTb : TableOf W X.B.tb X.B.k X.D := (hTW.block _ (Blk.lt h.table) (by rw [List.mem_singleton]; exact Blk.ne_ h.table h.proc.blk (by decide))).trans h.table
    have hsW : Blk W X.src 192 #[.slice SA F.inb.length sc] := by rw [← hsv]; exact (hTW.block _ h.src.lt (by rw [List.mem_singleton]; exact Blk.ne_ h.src h.proc.blk (by decide))).trans h.src
    have hrW : OffRow W 0 5 (.slice SA F.inb.length sc) F.inb.length (bytesC F.inb) := by
      rw [← hsv]
      exact h.inp.same fun g hg => hTW.block g (h.inp.lt hg).2 (by rw [List.mem_singleton]; rintro rfl; exact h.inp.blk_ne h.proc.blk (by decide) hg)
    have hnx := KS.next_free h.free
    refine (readSource W X.B.tb X.B.k X.K X.D hKW hTb 0 (by decide) X.src rfl 0 SA sc F.inb hsW hrW most hm1 hm2 (by rw [hnx]; decide) (by rw [hnx]; decide) hl n (by rw [hnx]; exact hn)).mono ?_
    rintro e w4 ⟨u, rfl, hu, hK4, hs4, hT4⟩
    rw [KS.took_free h.free] at hK4
    rw [hv'] at hs4
    obtain ⟨A, c, rfl, _⟩ := own_slice hu
    exact ⟨A, c, rfl, hT4, hTW.size, hu, hK4, hs4⟩
  · rintro e w' ⟨A, c, rfl, hP', W, w4, N, ⟨hsW, hu, hK4, hs4⟩, hN, hT4', hTw4⟩
    have hTall : Turns ([X.p] ++ [X.B.k, X.src]) w w' := hTw4.then hT4' fun g hg hlt => by have := (hN g hg).1; omega
    have hsub : ∀ g ∈ [X.p] ++ [X.B.k, X.src], g ∈ X.foot F := by
      intro g hg
      simp only [List.mem_append, List.mem_cons, List.not_mem_nil, or_false] at hg
      simp only [Job.foot, PS.foot, KS.foot, List.mem_append, List.mem_cons, List.not_mem_nil, or_false, Option.mem_toList]
      rcases hg with rfl | rfl | rfl <;> simp
    have hkeep : ∀ g, g < w.heap.size → g ≠ X.p → g ≠ X.B.k → g ≠ X.src → w'.heap[g]? = w.heap[g]? := by
      intro g hg h1 h2 h3
      refine hTall.block g hg ?_
      simp only [List.mem_append, List.mem_cons, List.not_mem_nil, or_false, not_or]
      exact ⟨h1, h2, h3⟩
    have hold : ∀ g, g ∉ N → g < w4.heap.size → w'.heap[g]? = w4.heap[g]? := fun g h1 h2 => hT4'.block g h2 h1
    have hNold : ∀ g, g < w.heap.size → g ∉ N := fun g hg hm => by have := (hN g hm).1; omega
    have hK' : KernOf w' X.B.k X.K := hK4.same fun g hg => hold g (hNold g (h.kern.foot_lt g hg)) (hK4.foot_lt g hg)
    have hs' : Blk w' X.src 192 #[v'] := (hold _ (hNold _ h.src.lt) hs4.lt).trans hs4
    have hu' : w'.ownsRow W.heap.size 5 1 (.slice A n c) n (bytesC (F.inb.take n)) := ownsRow_same hu fun g hg => by
      have h1 := hu.lt g hg
      refine hold g ?_ h1.2
      intro hm
      have := (hN g hm).2
      omega
    have hbk : ∀ {t : TypeId} {cs : Array Value} {g : Nat}, Blk w g t cs → t ≠ 132 → t ≠ 174 → t ≠ 192 → w'.heap[g]? = w.heap[g]? := fun hg h1 h2 h3 =>
      hkeep _ hg.lt (Blk.ne_ hg h.proc.blk h1) (Blk.ne_ hg h.kern.blk h2) (Blk.ne_ hg h.src h3)
    have hrow : ∀ {n : Nat} {v : Value} {xs : List Value}, OffRow w 0 5 v n xs → OffRow w' 0 5 v n xs := fun hv => hv.same fun g hg =>
      hkeep g (hv.lt hg).2 (fun e => hv.blk_ne h.proc.blk (by decide) (e ▸ hg)) (fun e => hv.blk_ne h.kern.blk (by decide) (e ▸ hg)) (fun e => hv.blk_ne h.src (by decide) (e ▸ hg))
    have hinp : OffRow w' 0 5 v' (F.inb.drop n).length (bytesC (F.inb.drop n)) := by
      have h1 : OffRow w' 0 5 (.slice SA F.inb.length sc) F.inb.length (bytesC F.inb) := by rw [← hsv]; exact hrow h.inp
      have h2 := h1.cut hnl
      rw [hv'] at h2
      rw [List.length_drop, show bytesC (F.inb.drop n) = (bytesC F.inb).drop n by simp [bytesC, List.map_drop]]
      exact h2
    have hfoot : ∀ g ∈ X.foot (F.read n v'), g ∈ X.foot F := by
      intro g hg
      simp only [Job.foot, List.mem_append, Option.mem_toList] at hg
      rcases hg with hg | (hg | hg) | hg
      · simp only [Job.foot, List.mem_append]; exact .inl hg
      · simp only [Job.foot, List.mem_append, Option.mem_toList]; exact .inr (.inl (.inl (hown g hg)))
      · simp only [Job.foot, List.mem_append, Option.mem_toList]; exact .inr (.inl (.inr hg))
      · simp only [Job.foot, List.mem_append, Option.mem_toList]; exact .inr (.inr hg)
    refine ⟨A, c, rfl, ?_, v', ?_, ⟨hTall.more hsub, fun g hg => .inl (hfoot g hg)⟩, hfoot⟩
    · refine ⟨hu'.1, hu'.2.imp id ?_⟩
      rintro ⟨g, cap, cur, h1, h2, h3⟩
      exact ⟨g, cap, cur, h1, Nat.le_trans hsW h2, h3⟩
    · exact {
        proc := hP', kern := hK', may := h.may, top := h.top, at_ := h.at_, log := h.log, sinks := h.sinks, free := h.free, thing := h.thing
        table := (hbk h.table (by decide) (by decide) (by decide)).trans h.table
        src := hs'
        inp := hinp
        sink := fun b => (hbk (h.sink b) (by decide) (by decide) (by decide)).trans (h.sink b)
        row := fun b => hrow (h.row b)
        rows := h.rows
        inrow := fun b g hg => h.inrow b g (hown g hg) }

end Go.Proofs.YtlhiadnolckoeaaGreatDoor
end

section
namespace Go.Proofs.YtlhiadnolckoeaaGreatDoor
open Go.RowKit Go.Maps

/-- a flow that holds so much -/
def Flow.holds (F : Flow) (h m : Int) : Flow := { F with held := h, peak := m }
theorem JobOf.holds {w w' : World} {X : Job} {F : Flow} (h : JobOf w X F) (hd m : Int) (ht : Turns [X.p] w w') (hb : Blk w' X.p 132 (procCells (X.J (F.holds hd m)))) : JobOf w' X (F.holds hd m) ∧ Went X F (F.holds hd m) w w' := by
  have hbk : ∀ {t : TypeId} {cs : Array Value} {g : Nat}, Blk w g t cs → t ≠ 132 → w'.heap[g]? = w.heap[g]? := fun hg h1 => ht.block _ hg.lt (by rw [List.mem_singleton]; exact Blk.ne_ hg h.proc.blk h1)
  have hrow : ∀ {n : Nat} {v : Value} {xs : List Value}, OffRow w 0 5 v n xs → OffRow w' 0 5 v n xs := fun hv => hv.same fun g hg => ht.block g (hv.lt hg).2 (by rw [List.mem_singleton]; exact fun e => hv.blk_ne h.proc.blk (by decide) (e ▸ hg))
  refine ⟨?_, ht.more (by simp [Job.foot, PS.foot]), fun g hg => .inl hg⟩
  exact {
    proc := ⟨hb, ownsRow_same h.proc.args fun g hg => ht.block g (h.proc.args.lt g hg).2 (by rw [List.mem_singleton]; rintro rfl; exact own_blk_ne h.proc.args h.proc.blk (by decide) hg),
      ownsRow_same h.proc.env fun g hg => ht.block g (h.proc.env.lt g hg).2 (by rw [List.mem_singleton]; rintro rfl; exact own_blk_ne h.proc.env h.proc.blk (by decide) hg),
      ownsRow_same h.proc.log fun g hg => ht.block g (h.proc.log.lt g hg).2 (by rw [List.mem_singleton]; rintro rfl; exact own_blk_ne h.proc.log h.proc.blk (by decide) hg)⟩
    kern := h.kern.turns ht fun g hg hm => h.kern.off h.proc.blk (by decide) (by decide) ((List.mem_singleton.1 hm) ▸ hg)
    table := (hbk h.table (by decide)).trans h.table
    may := h.may, top := h.top, at_ := h.at_, log := h.log, sinks := h.sinks, free := h.free, thing := h.thing
    src := (hbk h.src (by decide)).trans h.src
    inp := hrow h.inp
    sink := fun b => (hbk (h.sink b) (by decide)).trans (h.sink b)
    row := fun b => hrow (h.row b)
    rows := h.rows
    inrow := h.inrow }

theorem JobOf.setHolds {w : World} {X : Job} {F : Flow} (h : JobOf w X F) (a b : Int) : JobOf (((w.setCell ⟨X.p, 8, none⟩ (.int .i64 a)).setCell ⟨X.p, 9, none⟩ (.int .i64 b)).drew) X (F.holds a b) ∧ Went X F (F.holds a b) w (((w.setCell ⟨X.p, 8, none⟩ (.int .i64 a)).setCell ⟨X.p, 9, none⟩ (.int .i64 b)).drew) := by
  have b1 : Blk ((w.setCell ⟨X.p, 8, none⟩ (.int .i64 a)).setCell ⟨X.p, 9, none⟩ (.int .i64 b)) X.p 132 _ := (h.proc.blk.set_ 8 (.int .i64 a)).set_ 9 (.int .i64 b)
  refine h.holds a b ((((Turns.refl [X.p] w).setCell ⟨X.p, 8, none⟩ _ (fun _ => List.mem_singleton.2 rfl)).setCell ⟨X.p, 9, none⟩ _ (fun _ => List.mem_singleton.2 rfl)).drew) ?_
  rw [show procCells (X.J (F.holds a b)) = ((procCells (X.J F)).setIfInBounds 8 (.int .i64 a)).setIfInBounds 9 (.int .i64 b) by simp [procCells, Job.J, Flow.holds]]
  exact b1
theorem JobOf.setHeld {w : World} {X : Job} {F : Flow} (h : JobOf w X F) (a : Int) : JobOf ((w.setCell ⟨X.p, 8, none⟩ (.int .i64 a)).drew) X (F.holds a F.peak) ∧ Went X F (F.holds a F.peak) w ((w.setCell ⟨X.p, 8, none⟩ (.int .i64 a)).drew) := by
  have b1 : Blk (w.setCell ⟨X.p, 8, none⟩ (.int .i64 a)) X.p 132 _ := h.proc.blk.set_ 8 (.int .i64 a)
  refine h.holds a F.peak (((Turns.refl [X.p] w).setCell ⟨X.p, 8, none⟩ _ (fun _ => List.mem_singleton.2 rfl)).drew) ?_
  rw [show procCells (X.J (F.holds a F.peak)) = (procCells (X.J F)).setIfInBounds 8 (.int .i64 a) by simp [procCells, Job.J, Flow.holds]]
  exact b1

set_option maxRecDepth 100000 in
set_option maxHeartbeats 1000000 in
theorem jobHold (w : World) (X : Job) (F : Flow) (h : JobOf w X F) (n k : Nat) (hk : F.held = (k : Int)) (hb : k + n < 4611686018427387904) (m : Int) (hm : max F.peak ((k + n : Nat) : Int) = m) :
    Calls Tryz.prog 188 #[.pointer (some ⟨X.p, 0, none⟩), .int .i64 (n : Int)] w fun e w' => e = .returned (.tuple #[]) ∧ JobOf w' X (F.holds ((k + n : Nat) : Int) m) ∧ Went X F (F.holds ((k + n : Nat) : Int) m) w w' := by
  have hB := h.proc.blk
  have c8 : w.cell? ⟨X.p, 8, none⟩ = some (.int .i64 (k : Int)) := by rw [hB.cell 8, ← hk]; rfl
  have c9 : w.cell? ⟨X.p, 9, none⟩ = some (.int .i64 F.peak) := by rw [hB.cell 9]; rfl
  have f8 : w.frozen? ⟨X.p, 8, none⟩ = false := hB.frozen 8
  have f9 : w.frozen? ⟨X.p, 9, none⟩ = false := hB.frozen 9
  have lp := hB.lt
  have hx : max (0 : Int) (n : Int) = (n : Int) := by omega
  have hw : wrap64 ((k : Int) + (n : Int)) = ((k + n : Nat) : Int) := by rw [w64 _ (by omega)]; omega
  have fin : ∀ a b : Int, a = (k : Int) + (n : Int) → b = m → JobOf (((w.setCell ⟨X.p, 8, none⟩ (.int .i64 a)).setCell ⟨X.p, 9, none⟩ (.int .i64 b)).drew) X (F.holds ((k : Int) + (n : Int)) m) ∧ Went X F (F.holds ((k : Int) + (n : Int)) m) w (((w.setCell ⟨X.p, 8, none⟩ (.int .i64 a)).setCell ⟨X.p, 9, none⟩ (.int .i64 b)).drew) := by
    rintro a b rfl rfl
    exact h.setHolds _ _
  rw [Int.natCast_add] at hm
  go_enter Tryz.func188, Tryz.ntmps188
  go_wp2_with fail
  all_goals go_region
  all_goals go_wp2_with fail
  all_goals
    go_end0
    exact ⟨rfl, fin _ _ (by omega) (by omega)⟩

set_option maxRecDepth 100000 in
set_option maxHeartbeats 1000000 in
theorem jobDrop (w : World) (X : Job) (F : Flow) (h : JobOf w X F) (n : Nat) (hk : F.held = (n : Int)) (hb : n < 4611686018427387904) :
    Calls Tryz.prog 185 #[.pointer (some ⟨X.p, 0, none⟩), .int .i64 (n : Int)] w fun e w' => e = .returned (.tuple #[]) ∧ JobOf w' X (F.holds 0 F.peak) ∧ Went X F (F.holds 0 F.peak) w w' := by
  have hB := h.proc.blk
  have c8 : w.cell? ⟨X.p, 8, none⟩ = some (.int .i64 (n : Int)) := by rw [hB.cell 8, ← hk]; rfl
  have f8 : w.frozen? ⟨X.p, 8, none⟩ = false := hB.frozen 8
  have lp := hB.lt
  have h0 : n = 0 → JobOf w X (F.holds 0 F.peak) ∧ Went X F (F.holds 0 F.peak) w w := fun hn => by
    have : F.holds 0 F.peak = F := by
      cases F
      simp only [Flow.holds] at hk ⊢
      subst hk
      simp [hn]
    rw [this]
    exact ⟨h, Went.refl _ _ _⟩
  have hs := h.setHeld 0
  go_enter Tryz.func185, Tryz.ntmps185
  go_wp2_with fail
  · go_region
    go_wp2_with fail
    go_end0
    exact ⟨rfl, hs⟩
  · go_end0
    exact ⟨rfl, h0 (by omega)⟩

set_option maxRecDepth 100000 in
set_option maxHeartbeats 1000000 in
theorem jobLim (w : World) (X : Job) (F : Flow) (h : JobOf w X F) :
    Calls Tryz.prog 187 #[.pointer (some ⟨X.p, 0, none⟩)] w fun e w' => e = .returned (.agg #[.int .i64 X.B.buf, .int .i64 X.B.line, .int .i64 X.B.run]) ∧ Below w.heap.size w w' := by
  have hB := h.proc.blk
  have c5 : w.cell? ⟨X.p, 5, none⟩ = some (.int .i64 X.B.buf) := by rw [hB.cell 5]; rfl
  have c6 : w.cell? ⟨X.p, 6, none⟩ = some (.int .i64 X.B.line) := by rw [hB.cell 6]; rfl
  have c7 : w.cell? ⟨X.p, 7, none⟩ = some (.int .i64 X.B.run) := by rw [hB.cell 7]; rfl
  have lp := hB.lt
  go_enter Tryz.func187, Tryz.ntmps187
  go_wp2_with fail
  go_returns
  exact ⟨rfl, (Below.refl _ w).alloc (Nat.le_refl _) _⟩

end Go.Proofs.YtlhiadnolckoeaaGreatDoor
end

section
namespace Go.Proofs.YtlhiadnolckoeaaGreatDoor
open Go.RowKit Go.Maps

def rdCells (X : Job) (bv : Value) (out : Int) (over : Bool) : Array Value := #[.pointer (some ⟨X.p, 0, none⟩), .int .i64 0, bv, .int .i64 out, .bool false, .bool over]
/-- a reader of descriptor 0 -/
def RdAt (w : World) (r : Nat) (X : Job) (bv : Value) (out : Int) (over : Bool) : Prop := Blk w r 247 (rdCells X bv out over)
theorem RdAt.off {w : World} {r : Nat} {X : Job} {bv : Value} {out : Int} {over : Bool} {F : Flow} (hr : RdAt w r X bv out over) (h : JobOf w X F) : r ∉ X.foot F := h.off hr (by decide) (by decide) (by decide) (by decide) (by decide) (by decide) (by decide) (by decide) (by decide)
theorem RdAt.went {w w' : World} {r : Nat} {X : Job} {bv : Value} {out : Int} {over : Bool} {F F' : Flow} (hr : RdAt w r X bv out over) (h : JobOf w X F) (hw : Went X F F' w w') : RdAt w' r X bv out over := (hw.away (Blk.lt hr) (hr.off h)).1.trans hr
/-- what a job turns, and its reader -/
structure Gone (X : Job) (r : Nat) (F F' : Flow) (w w' : World) : Prop where
  turns : Turns (r :: X.foot F) w w'
  news : ∀ g ∈ X.foot F', g ∈ X.foot F ∨ w.heap.size ≤ g
theorem Gone.refl (X : Job) (r : Nat) (F : Flow) (w : World) : Gone X r F F w w := ⟨Turns.refl _ w, fun _ h => .inl h⟩
theorem Gone.of_went {X : Job} {r : Nat} {F F' : Flow} {w w' : World} (h : Went X F F' w w') : Gone X r F F' w w' := ⟨h.turns.more (fun g hg => by simp [hg]), h.news⟩
theorem Gone.trans {X : Job} {r : Nat} {F F' F'' : Flow} {w w' w'' : World} (h : Gone X r F F' w w') (h' : Gone X r F' F'' w' w'') : Gone X r F F'' w w'' := by
  refine ⟨h.turns.then h'.turns fun g hg hlt => ?_, fun g hg => ?_⟩
  · simp only [List.mem_cons] at hg ⊢
    rcases hg with rfl | hg
    · exact .inl rfl
    · rcases h.news g hg with h1 | h1
      · exact .inr h1
      · omega
  · rcases h'.news g hg with h1 | h1
    · exact h.news g h1
    · exact .inr (Nat.le_trans h.turns.size h1)
theorem Gone.of_set {X : Job} {r : Nat} {F : Flow} {w w' : World} (h : Turns [r] w w') : Gone X r F F w w' := ⟨h.more (by simp), fun _ h => .inl h⟩
theorem Gone.went {X : Job} {r : Nat} {F F' : Flow} {w w' : World} (h : Gone X r F F' w w') {w0 : World} (h0 : Turns [] w0 w) (hr : w0.heap.size ≤ r) : Went X F F' w0 w' := by
  refine ⟨(h0.more (by simp)).then h.turns fun g hg hlt => ?_, fun g hg => ?_⟩
  · simp only [List.mem_cons] at hg
    rcases hg with rfl | hg
    · omega
    · exact hg
  · rcases h.news g hg with h1 | h1
    · exact .inl h1
    · exact .inr (Nat.le_trans h0.size h1)
theorem Gone.rd {X : Job} {r : Nat} {F F' : Flow} {w w' : World} (h : Gone X r F F' w w') {g : Nat} (hg : g < w.heap.size) (h1 : g ≠ r) (h2 : g ∉ X.foot F) : w'.heap[g]? = w.heap[g]? := h.turns.block g hg (by simp [h1, h2])

set_option maxHeartbeats 400000 in
theorem rdNew (w : World) (X : Job) :
    Calls Tryz.prog 117 #[.pointer (some ⟨X.p, 0, none⟩), .int .i64 0] w fun e w' => e = .returned (.pointer (some ⟨w.heap.size, 0, none⟩)) ∧ RdAt w' w.heap.size X (.slice none 0 0) 0 false ∧ Below w.heap.size w w' := by
  have hb := Blk.new w 247 (rdCells X (.slice none 0 0) 0 false)
  go_enter Tryz.func117, Tryz.ntmps117
  go_wp2_with fail
  go_returns
  exact ⟨rfl, hb, (Below.refl _ w).alloc (Nat.le_refl _) _⟩

theorem RdAt.set_out {w : World} {r : Nat} {X : Job} {bv : Value} {out o2 : Int} {over : Bool} {F : Flow} (hr : RdAt w r X bv out over) (h : JobOf w X F) :
    RdAt (w.setCell ⟨r, 3, none⟩ (.int .i64 o2)) r X bv o2 over ∧ JobOf (w.setCell ⟨r, 3, none⟩ (.int .i64 o2)) X F ∧ Gone X r F F w (w.setCell ⟨r, 3, none⟩ (.int .i64 o2)) := by
  have hT : Turns [r] w (w.setCell ⟨r, 3, none⟩ (.int .i64 o2)) := (Turns.refl _ w).setCell ⟨r, 3, none⟩ _ (fun _ => List.mem_singleton.2 rfl)
  refine ⟨?_, h.turns hT fun g hg hm => hr.off h ((List.mem_singleton.1 hm) ▸ hg), .of_set hT⟩
  have b1 : Blk (w.setCell ⟨r, 3, none⟩ (.int .i64 o2)) r 247 _ := Blk.set_ hr 3 (.int .i64 o2)
  exact b1
theorem RdAt.set_over {w : World} {r : Nat} {X : Job} {bv : Value} {out : Int} {over : Bool} {F : Flow} (hr : RdAt w r X bv out over) (h : JobOf w X F) :
    RdAt (w.setCell ⟨r, 5, none⟩ (.bool true)) r X bv out true ∧ JobOf (w.setCell ⟨r, 5, none⟩ (.bool true)) X F ∧ Gone X r F F w (w.setCell ⟨r, 5, none⟩ (.bool true)) := by
  have hT : Turns [r] w (w.setCell ⟨r, 5, none⟩ (.bool true)) := (Turns.refl _ w).setCell ⟨r, 5, none⟩ _ (fun _ => List.mem_singleton.2 rfl)
  refine ⟨?_, h.turns hT fun g hg hm => hr.off h ((List.mem_singleton.1 hm) ▸ hg), .of_set hT⟩
  have b1 : Blk (w.setCell ⟨r, 5, none⟩ (.bool true)) r 247 _ := Blk.set_ hr 5 (.bool true)
  exact b1
theorem RdAt.set_buf {w : World} {r : Nat} {X : Job} {bv b2 : Value} {out : Int} {over : Bool} {F : Flow} (hr : RdAt w r X bv out over) (h : JobOf w X F) :
    RdAt (w.setCell ⟨r, 2, none⟩ b2) r X b2 out over ∧ JobOf (w.setCell ⟨r, 2, none⟩ b2) X F ∧ Gone X r F F w (w.setCell ⟨r, 2, none⟩ b2) := by
  have hT : Turns [r] w (w.setCell ⟨r, 2, none⟩ b2) := (Turns.refl _ w).setCell ⟨r, 2, none⟩ _ (fun _ => List.mem_singleton.2 rfl)
  refine ⟨?_, h.turns hT fun g hg hm => hr.off h ((List.mem_singleton.1 hm) ▸ hg), .of_set hT⟩
  have b1 : Blk (w.setCell ⟨r, 2, none⟩ b2) r 247 _ := Blk.set_ hr 2 b2
  exact b1

set_option maxRecDepth 100000 in
set_option maxHeartbeats 1000000 in
theorem rdDrop (w : World) (X : Job) (F : Flow) (h : JobOf w X F) (r : Nat) (n : Nat) (bv : Value) (over : Bool) (hr : RdAt w r X bv (n : Int) over) (hk : F.held = (n : Int)) (hb : n < 4611686018427387904) :
    Calls Tryz.prog 149 #[.pointer (some ⟨r, 0, none⟩)] w fun e w' => e = .returned (.tuple #[]) ∧ JobOf w' X (F.holds 0 F.peak) ∧ RdAt w' r X bv 0 over ∧ Gone X r F (F.holds 0 F.peak) w w' := by
  have lr := Blk.lt hr
  have c0 : w.cell? ⟨r, 0, none⟩ = some (.pointer (some ⟨X.p, 0, none⟩)) := Blk.cell hr 0
  have c3 : w.cell? ⟨r, 3, none⟩ = some (.int .i64 (n : Int)) := Blk.cell hr 3
  have hdr := fun W (hW : JobOf W X F) => jobDrop W X F hW n hk hb
  have hd : JobOf w.drew X F := h.same fun _ _ => rfl
  have hrd : RdAt w.drew r X bv (n : Int) over := hr
  have hT : Turns [] w w.drew := (Turns.refl _ w).drew
  go_enter Tryz.func149, Tryz.ntmps149
  go_wp2_with fail
  go_region_with ((refine (hdr _ hd).mono ?_; rintro e w1 ⟨rfl, hJ1, hW1⟩; have hr1 := hrd.went hd hW1; have lr1 := Blk.lt hr1; have f3 : w1.frozen? ⟨r, 3, none⟩ = false := Blk.frozen hr1 3; have q3 : w1.cell? ⟨r, 3, none⟩ = some (.int .i64 (n : Int)) := Blk.cell hr1 3))
  all_goals go_wp2_with fail
  all_goals
    go_end0
    obtain ⟨s1, s2, s3⟩ := hr1.set_out (o2 := 0) hJ1
    exact ⟨rfl, s2, s1, (Gone.of_went ((Went.of_turns X F hT).trans hW1)).trans s3⟩

set_option maxRecDepth 100000 in
set_option maxHeartbeats 2000000 in
theorem rdFill (w : World) (X : Job) (F : Flow) (h : JobOf w X F) (hst : F.steps < 4611686018427387904) (r : Nat) (bv : Value) (out : Int) (hr : RdAt w r X bv out false) (hk : F.held = 0) (hb1 : 1 ≤ X.B.buf) (hb2 : X.B.buf ≤ 9223372036854775807) (hl : F.inb.length ≤ 140737488355328)
    (n : Nat) (hn : min X.B.buf (F.inb.length : Int) = (n : Int)) :
    Calls Tryz.prog 150 #[.pointer (some ⟨r, 0, none⟩)] w fun e w' => e = .returned (.int .i64 0) ∧ ∃ A c v, w'.ownsRow w.heap.size 5 1 (.slice A n c) n (bytesC (F.inb.take n)) ∧
      JobOf w' X ((F.read n v).holds (n : Int) (max F.peak (n : Int))) ∧ RdAt w' r X (.slice A n c) out (n == 0) ∧ Gone X r F ((F.read n v).holds (n : Int) (max F.peak (n : Int))) w w' ∧ (∀ g ∈ X.foot (F.read n v), g ∈ X.foot F) := by
  have hnl : n ≤ F.inb.length := by omega
  have lr := Blk.lt hr
  have c0 : w.cell? ⟨r, 0, none⟩ = some (.pointer (some ⟨X.p, 0, none⟩)) := Blk.cell hr 0
  have c1 : w.cell? ⟨r, 1, none⟩ = some (.int .i64 0) := Blk.cell hr 1
  have c5 : w.cell? ⟨r, 5, none⟩ = some (.bool false) := Blk.cell hr 5
  have hlim := fun W (hW : JobOf W X F) => jobLim W X F hW
  have hrd := fun W (hW : JobOf W X F) => jobRead W X F hW hst X.B.buf hb1 hb2 hl n hn
  have hho : ∀ W v, JobOf W X (F.read n v) → Calls Tryz.prog 188 #[.pointer (some ⟨X.p, 0, none⟩), .int .i64 (n : Int)] W fun e w' => e = .returned (.tuple #[]) ∧ JobOf w' X ((F.read n v).holds (n : Int) (max F.peak (n : Int))) ∧ Went X (F.read n v) ((F.read n v).holds (n : Int) (max F.peak (n : Int))) W w' := fun W v hW => by
    have h := jobHold W X (F.read n v) hW n 0 hk (by omega) _ rfl
    rw [Nat.zero_add] at h
    exact h
  go_enter Tryz.func150, Tryz.ntmps150
  go_wp2_with fail
  refine wp_loop_rounds 1 ?_
  rw [rounds_succ]
  go_wp2_with fail
  have hd : JobOf w.drew X F := h.same fun _ _ => rfl
  have hrr : RdAt w.drew r X bv out false := hr
  have hT : Turns [] w w.drew := (Turns.refl _ w).drew
  have hfi : ∀ (b : Int) W, (Instr.field 28 (.agg #[.int .i64 b, .int .i64 X.B.line, .int .i64 X.B.run]) 0).run Tryz.prog W = .ok (.int .i64 b) W := fun _ _ => rfl
  go_region_held3 (fun W => W.cell? ⟨r, 0, none⟩ = some (.pointer (some ⟨X.p, 0, none⟩)) ∧ W.cell? ⟨r, 1, none⟩ = some (.int .i64 0) ∧ (Instr.field 28 (.agg #[.int .i64 X.B.buf, .int .i64 X.B.line, .int .i64 X.B.run]) 0).run Tryz.prog W = .ok (.int .i64 X.B.buf) W)
    (first | exact ⟨c0, c1, hfi _ _⟩ | exact ⟨Blk.cell hr1 0, Blk.cell hr1 1, hfi _ _⟩ | exact ⟨Blk.cell hr2 0, Blk.cell hr2 1, hfi _ _⟩)
    (first
    | (go_at_call 187; refine (hlim _ hd).mono ?_; rintro e w1 ⟨rfl, hb1⟩; have hJ1 : JobOf w1 X F := hd.below hb1; have hr1 : RdAt w1 r X bv out false := hrr.went hd (.of_below X F hb1))
    | (go_at_call 186; refine (hrd _ hJ1).mono ?_; rintro e w2 ⟨A, c, rfl, hown, v, hJ2, hW2, hft⟩; have hr2 : RdAt w2 r X bv out false := hr1.went hJ1 hW2))
  have lr2 := Blk.lt hr2
  have f5 : w2.frozen? ⟨r, 5, none⟩ = false := Blk.frozen hr2 5
  have q5 : w2.cell? ⟨r, 5, none⟩ = some (.bool false) := Blk.cell hr2 5
  have q0 : w2.cell? ⟨r, 0, none⟩ = some (.pointer (some ⟨X.p, 0, none⟩)) := Blk.cell hr2 0
  have hG2 : Gone X r F (F.read n v) w w2 := Gone.of_went (((Went.of_turns X F hT).trans (.of_below X F hb1)).trans hW2)
  have hown2 : w2.ownsRow w.heap.size 5 1 (.slice A n c) n (bytesC (F.inb.take n)) := ⟨hown.1, hown.2.imp id fun ⟨g, cap, cur, h1, h2, h3⟩ => ⟨g, cap, cur, h1, Nat.le_trans hb1.size h2, h3⟩⟩
  have hrow : ∀ F' W, Gone X r (F.read n v) F' w2 W → W.ownsRow w.heap.size 5 1 (.slice A n c) n (bytesC (F.inb.take n)) := fun F' W hW => ownsRow_same hown2 fun g hg => by
    have h1 := hown2.lt g hg
    exact hW.rd h1.2 (by omega) (fun hm => by have := h.foot_lt g (hft g hm); omega)
  clear c0 c1 c5 hrr hd hrd hlim hown
  obtain ⟨s1, s2, s3⟩ := hr2.set_over hJ2
  rcases Nat.eq_zero_or_pos n with h0 | h0
  · subst h0
    go_wp2_with ((refine (hho _ v s2).mono ?_; rintro e w3 ⟨rfl, hJ3, hW3⟩; have hr3 := s1.went s2 hW3; have lr3 := Blk.lt hr3; have f2 : w3.frozen? ⟨r, 2, none⟩ = false := Blk.frozen hr3 2; have q2 : w3.cell? ⟨r, 2, none⟩ = some bv := Blk.cell hr3 2))
    go_returns
    obtain ⟨t1, t2, t3⟩ := hr3.set_buf (b2 := .slice A 0 c) hJ3
    have hG3 := (s3.trans (Gone.of_went hW3)).trans t3
    exact ⟨rfl, A, c, v, hrow _ _ hG3, t2, t1, hG2.trans hG3, hft⟩
  · have h0i : ((n : Int) == 0) = false := by simp; omega
    go_wp2_with ((refine (hho _ v hJ2).mono ?_; rintro e w3 ⟨rfl, hJ3, hW3⟩; have hr3 := hr2.went hJ2 hW3; have lr3 := Blk.lt hr3; have f2 : w3.frozen? ⟨r, 2, none⟩ = false := Blk.frozen hr3 2; have q2 : w3.cell? ⟨r, 2, none⟩ = some bv := Blk.cell hr3 2))
    go_returns
    obtain ⟨t1, t2, t3⟩ := hr3.set_buf (b2 := .slice A n c) hJ3
    have hG3 := (Gone.of_went hW3).trans t3
    rw [show (n == 0) = false by simp; omega]
    exact ⟨rfl, A, c, v, hrow _ _ hG3, t2, t1, hG2.trans hG3, hft⟩

end Go.Proofs.YtlhiadnolckoeaaGreatDoor
end

section
namespace Go.Proofs.YtlhiadnolckoeaaGreatDoor
open Go.RowKit Go.Maps

/-- a flow that was handed a chunk -/
structure Chunked (F F' : Flow) (n : Nat) : Prop where
  inb : F'.inb = F.inb.drop n
  held : F'.held = (n : Int)
  steps : F'.steps = F.steps + 1
  said : F'.said = F.said
  val : F'.val = F.val

set_option maxRecDepth 100000 in
set_option maxHeartbeats 2000000 in
theorem rdChunk (w : World) (X : Job) (F : Flow) (h : JobOf w X F) (hst : F.steps < 4611686018427387904) (r : Nat) (k : Nat) (hr : RdAt w r X (.slice none 0 0) (k : Int) false) (hk : F.held = (k : Int)) (hkb : k < 4611686018427387904) (hb1 : 1 ≤ X.B.buf) (hb2 : X.B.buf ≤ 9223372036854775807) (hl : F.inb.length ≤ 140737488355328)
    (n : Nat) (hn : min X.B.buf (F.inb.length : Int) = (n : Int)) :
    Calls Tryz.prog 118 #[.pointer (some ⟨r, 0, none⟩)] w fun e w' => ∃ A c F', e = .returned (.tuple #[.slice A n c, .int .i64 0]) ∧ w'.ownsRow w.heap.size 5 1 (.slice A n c) n (bytesC (F.inb.take n)) ∧
      JobOf w' X F' ∧ Chunked F F' n ∧ RdAt w' r X (.slice none 0 0) (n : Int) (n == 0) ∧ Gone X r F F' w w' ∧ (∀ g ∈ X.foot F', g ∈ X.foot F) := by
  have lr := Blk.lt hr
  have hd := rdDrop w X F h r k (.slice none 0 0) false hr hk hkb
  have hfi := fun W (hW : JobOf W X (F.holds 0 F.peak)) (hR : RdAt W r X (.slice none 0 0) 0 false) => rdFill W X (F.holds 0 F.peak) hW hst r _ _ hR rfl hb1 hb2 hl n hn
  clear hr
  go_enter Tryz.func118, Tryz.ntmps118
  go_wp2_with (first
    | (go_at_call 149; refine hd.mono ?_; rintro e w1 ⟨rfl, hJ1, hr1, hG1⟩; have lr1 := Blk.lt hr1; have c2 : w1.cell? ⟨r, 2, none⟩ = some (.slice none 0 0) := Blk.cell hr1 2)
    | (go_at_call 150; refine (hfi w1 hJ1 hr1).mono ?_; rintro e w2 ⟨rfl, A, c, v, hown, hJ2, hr2, hG2, hft⟩; have lr2 := Blk.lt hr2; have d2 : w2.cell? ⟨r, 2, none⟩ = some (.slice A n c) := Blk.cell hr2 2; have d3 : w2.cell? ⟨r, 3, none⟩ = some (.int .i64 0) := Blk.cell hr2 3; have e2 : w2.frozen? ⟨r, 2, none⟩ = false := Blk.frozen hr2 2; have e3 : w2.frozen? ⟨r, 3, none⟩ = false := Blk.frozen hr2 3))
  go_returns
  obtain ⟨t1, t2, t3⟩ := hr2.set_buf (b2 := .slice none 0 0) hJ2
  obtain ⟨u1, u2, u3⟩ := t1.set_out (o2 := (n : Int)) t2
  have hG3 := t3.trans u3
  have hs1 := hG1.turns.size
  refine ⟨A, c, _, rfl, ?_, u2, ⟨rfl, rfl, rfl, rfl, rfl⟩, u1, (hG1.trans hG2).trans hG3, hft⟩
  have h2 : w2.ownsRow w.heap.size 5 1 (.slice A n c) n (bytesC (F.inb.take n)) := ⟨hown.1, hown.2.imp id fun ⟨g, cap, cur, h1, h2, h3⟩ => ⟨g, cap, cur, h1, Nat.le_trans hs1 h2, h3⟩⟩
  exact ownsRow_same h2 fun g hg => by
    have h1 := h2.lt g hg
    exact hG3.rd h1.2 (by omega) (fun hm => by have := h.foot_lt g (hft g hm); omega)

end Go.Proofs.YtlhiadnolckoeaaGreatDoor
end

section
namespace Go.Proofs.YtlhiadnolckoeaaGreatDoor
open Go.RowKit Go.Maps

/-- the arguments of a process, its name cut off -/
theorem cutOne (g cap : Nat) : ∃ o, cutA (some ⟨g, 0, none⟩) cap 1 1 = some ⟨g, o, none⟩ ∧ (cap ≠ 1 → o = 1) := by
  unfold cutA
  split
  · exact ⟨0, rfl, fun h => absurd (by assumption) h⟩
  · exact ⟨1, rfl, fun _ => rfl⟩
theorem procArgs1 (w : World) (X : Job) (F : Flow) (h : JobOf w X F) (tag : ByteArray) (rest : List ByteArray) (ha : X.B.args = tag :: rest) (n : Nat) (hn : rest.length = n) (hl : n < 2097152) :
    Calls Tryz.prog 89 #[.pointer (some ⟨X.p, 0, none⟩)] w fun e w' => ∃ g cap o, e = .returned (.slice (some ⟨g, 0, none⟩) (n + 1) cap) ∧ n + 1 ≤ cap ∧ w.heap.size ≤ g ∧ g < w'.heap.size ∧ Below w.heap.size w w' ∧ JobOf w' X F ∧
      w'.cell? ⟨g, 0, none⟩ = some (.string tag) ∧ (∀ j x, rest[j]? = some x → w'.cell? ⟨g, o + j, none⟩ = some (.string x)) ∧
      (∀ W, (Instr.slice 31 (.slice (some ⟨g, 0, none⟩) (n + 1) cap) (some (.int .i64 1)) none none).run Tryz.prog W = .ok (.slice (some ⟨g, o, none⟩) n (cap - 1)) W) := by
  subst hn
  have hj : (X.J F).args = tag :: rest := ha
  refine (procArgs w X.p (X.J F) h.proc (by rw [hj]; simp; omega)).mono ?_
  rintro e w' ⟨v, rfl, hown, hb⟩
  rw [hj] at hown
  rcases hown.2 with ⟨_, h0⟩ | ⟨g, cap, cur, rfl, hg, hblk, hn, hc, hcur⟩
  · simp at h0
  · obtain ⟨o, ho, hoc⟩ := cutOne g cap
    obtain ⟨iS, hiS, hS0, hS1, hS2⟩ := info_parts Tryz.infoStrC
    have hcell : ∀ j x, (tag :: rest)[j]? = some x → w'.cell? ⟨g, j, none⟩ = some (.string x) := fun j x hx => by
      obtain ⟨A, cp, e1, _, _, hr⟩ := own_slice hown
      cases e1
      obtain ⟨ad, e2, _, hcl⟩ := hr.2 (by simp)
      cases e2
      have := hcl j (.string x) (by simp only [strsC, List.getElem?_map, hx, Option.map_some])
      have e0 : (⟨g, 0, none⟩ : Addr).add j = ⟨g, j, none⟩ := by unfold Addr.add; split <;> simp_all
      rwa [e0] at this
    refine ⟨g, cap, o, rfl, by simpa using hn, hg, (Array.getElem?_eq_some_iff.1 hblk).1, hb, h.below hb, hcell 0 tag rfl, fun j x hx => ?_, fun W => ?_⟩
    · have hrl : 0 < rest.length := by
        have := (List.getElem?_eq_some_iff.1 hx).1
        omega
      have hn' : rest.length + 1 ≤ cap := by simpa using hn
      rw [hoc (by omega), Nat.add_comm]
      exact hcell (j + 1) x (by simpa using hx)
    · have := run_cut (P := Tryz.prog) 31 9 iS 1 Tryz.underlying31 hiS hS1 (some ⟨g, 0, none⟩) (rest.length + 1) cap .i64 1 1 rfl (by omega) W
      rw [ho] at this
      simpa using this

theorem wrote_first {F F' : Flow} {b : Bool} {bs : List UInt8} (h : Wrote F F' b bs) (h0 : F.said = fun _ => []) : F'.said b = bs ∧ F'.said (!b) = [] := by
  refine ⟨by rw [h.said, if_pos rfl, h0]; rfl, by rw [h.said, if_neg (by cases b <;> decide), h0]⟩

theorem cell_same {w w' : World} {a : Addr} (h : w'.heap[a.block]? = w.heap[a.block]?) : w'.cell? a = w.cell? a := by unfold World.cell?; rw [h]

set_option maxRecDepth 100000 in
set_option maxHeartbeats 1000000 in
theorem goTop (w : World) (X : Job) (F : Flow) (hX : JobOf w X F) (id : FuncId) (caps : Array Value) :
    Calls Tryz.prog 90 #[.pointer (some ⟨X.p, 0, none⟩), .func (.func id) #[] caps] w fun e w' => ∃ m, e = .returned (.pointer (some ⟨m, 0, none⟩)) ∧ MachAt w' m X.p (.func (.func id) #[] caps) false 0 ∧ w.heap.size ≤ m ∧ Below w.heap.size w w' := by
  have hb := hX.proc.blk
  obtain ⟨W, hW⟩ : ∃ W, w.alloc (.cells #[.pointer (some ⟨X.p, 0, none⟩), .func (.func id) #[] caps, .bool false, .int .i64 0] 144) = W := ⟨_, rfl⟩
  have c13 : W.cell? ⟨X.p, 13, none⟩ = some (.bool true) := by
    rw [← hW, (hb.alloc _).cell 13]
    simp [procCells, Job.J, hX.top]
  have hm : MachAt W w.heap.size X.p (.func (.func id) #[] caps) false 0 := by rw [← hW]; exact Blk.new w _ _
  have hbl : Below w.heap.size w W := by rw [← hW]; exact below_one w _
  go_enter Tryz.func90, Tryz.ntmps90
  go_wp2_with fail
  go_returns
  exact ⟨_, rfl, hm, Nat.le_refl _, hbl⟩

/-- what a job came to -/
def Came (out err : List UInt8) (st : Int) : Int → Flow → Prop := fun n F' => n = st ∧ F'.said true = out ∧ F'.said false = err

theorem own_down {w : World} {base base' : Nat} {e : TypeId} {size n : Nat} {v : Value} {xs : List Value} (h : w.ownsRow base e size v n xs) (hB : base' ≤ base) : w.ownsRow base' e size v n xs := by
  refine ⟨h.1, h.2.imp id ?_⟩
  rintro ⟨g, cap, cur, rfl, h1, h2, h3⟩
  exact ⟨g, cap, cur, rfl, Nat.le_trans hB h1, h2, h3⟩
/-- a main that tells this of its input, from any world behind this one -/
def TellsFrom (w : World) (id : FuncId) (args : List ByteArray) (inb : List UInt8) (buf : Int) (out err : List UInt8) (st : Int) : Prop :=
  ∀ W X F, Below w.heap.size w W → (∀ g ∈ X.foot F, w.heap.size ≤ g) → JobOf W X F → X.B.args = args → X.B.buf = buf → F.steps = 0 → F.held = 0 → F.inb = inb → F.said = (fun _ => []) →
    Calls Tryz.prog id #[.pointer (some ⟨X.p, 0, none⟩)] W fun e w' => e = .returned (.int .i64 st) ∧ ∃ F', JobOf w' X F' ∧ Went X F F' W w' ∧ F'.said true = out ∧ F'.said false = err

end Go.Proofs.YtlhiadnolckoeaaGreatDoor
end

section
namespace Go.Proofs.YtlhiadnolckoeaaGreatDoor
open Go.RowKit

/-- what the tables hold -/
structure Tabs (w : World) : Prop where
  tz8 : w.cell? ⟨7, 7, none⟩ = some (.int .u8 3)
  tz16 : w.cell? ⟨7, 15, none⟩ = some (.int .u8 4)
  pow : Lib.TabIs Tryz.prog w "internal/strconv.uint64pow10" .u64 Lib.pow10Tab
  errS : ∃ tp p, w.cell? ⟨3, 0, none⟩ = some (.iface tp p)
  errR : ∃ tp p, w.cell? ⟨4, 0, none⟩ = some (.iface tp p)
  /-- the library's own bound holds some number -/
  maxL : ∃ m, w.cell? ⟨0, 0, none⟩ = some (.int .i64 m)

theorem cell_lt {w : World} {a : Addr} {v : Value} (h : w.cell? a = some v) : a.block < w.heap.size := World.block_lt_of_cell? w _ h
theorem Tabs.below {w w' : World} (h : Tabs w) (hb : Below w.heap.size w w') : Tabs w' where
  tz8 := (hb.cell (cell_lt h.tz8)).trans h.tz8
  tz16 := (hb.cell (cell_lt h.tz16)).trans h.tz16
  pow := var?_below (g := 5) hb (by kernel_rfl) (by have : 7 < w.heap.size := cell_lt h.tz8; omega) h.pow
  errS := by obtain ⟨tp, p, h1⟩ := h.errS; exact ⟨tp, p, (hb.cell (cell_lt h1)).trans h1⟩
  errR := by obtain ⟨tp, p, h1⟩ := h.errR; exact ⟨tp, p, (hb.cell (cell_lt h1)).trans h1⟩
  maxL := by obtain ⟨m, h1⟩ := h.maxL; exact ⟨m, (hb.cell (cell_lt h1)).trans h1⟩

theorem below_growN (w : World) (k : Nat) (os : Array Obj) : Below w.heap.size w (Sort.grow (w.drewN k) os) :=
  ⟨rfl, rfl, rfl, by simp [Sort.grow], fun j hj => by
    show (w.heap ++ os)[j]? = w.heap[j]?
    rw [Array.getElem?_append_left hj]⟩

end Go.Proofs.YtlhiadnolckoeaaGreatDoor
end

section
namespace Go.Proofs.YtlhiadnolckoeaaGreatDoor
open Go.RowKit

namespace Pl
/-- what digits say to a base -/
def val (b : Nat) (l : List UInt8) : Nat := l.foldl (fun n c => n * b + (c.toNat - 48)) 0
def isDig (b : Nat) (c : UInt8) : Bool := decide (48 ≤ c.toNat ∧ c.toNat < 48 + b)
theorem val_snoc (b : Nat) (l : List UInt8) (c : UInt8) : val b (l ++ [c]) = val b l * b + (c.toNat - 48) := by simp [val]
theorem val_take {b : Nat} {l : List UInt8} {k : Nat} {c : UInt8} (h : l[k]? = some c) : val b (l.take (k + 1)) = val b (l.take k) * b + (c.toNat - 48) := by
  rw [List.take_add_one, h, Option.toList_some, val_snoc]
theorem foldl_le (b : Nat) (hb : 1 ≤ b) : ∀ (l : List UInt8) (n : Nat), n ≤ l.foldl (fun n c => n * b + (c.toNat - 48)) n
  | [], n => Nat.le_refl n
  | c :: l, n => by
    rw [List.foldl_cons]
    refine Nat.le_trans ?_ (foldl_le b hb l _)
    have := Nat.mul_le_mul_left n hb
    omega
theorem val_mono (b : Nat) (hb : 1 ≤ b) (l : List UInt8) (k : Nat) : val b (l.take k) ≤ val b l := by
  have h : val b l = (l.drop k).foldl (fun n c => n * b + (c.toNat - 48)) (val b (l.take k)) := by
    unfold val
    rw [← List.foldl_append, List.take_append_drop]
  rw [h]
  exact foldl_le b hb _ _
end Pl

/-- what ParseUint answers: a value, or the greatest one and an error -/
def uintRes (v : Nat) : Value := if v < 18446744073709551616 then .tuple #[.int .u64 v, .nilIface] else .tuple #[.int .u64 18446744073709551615, .iface 257 (.int .i64 1)]
/-- what ParseInt answers -/
def intRes (v : Nat) : Value := if v ≤ 9223372036854775807 then .tuple #[.int .i64 v, .nilIface] else .tuple #[.int .i64 9223372036854775807, .iface 257 (.int .i64 1)]
theorem intRes_of {v : Nat} (h : v ≤ 9223372036854775807) : intRes v = .tuple #[.int .i64 v, .nilIface] := if_pos h
theorem intRes_over {v : Nat} (h : 9223372036854775808 ≤ v) : intRes v = .tuple #[.int .i64 9223372036854775807, .iface 257 (.int .i64 1)] := if_neg (by omega)
theorem Tryz.compErr : (Tryz.prog.info? 257).map (·.comparable) = some true := by kernel_rfl
theorem uintRes_of {v : Nat} (h : v < 18446744073709551616) : uintRes v = .tuple #[.int .u64 v, .nilIface] := if_pos h
theorem uintRes_over {v : Nat} (h : 18446744073709551616 ≤ v) : uintRes v = .tuple #[.int .u64 18446744073709551615, .iface 257 (.int .i64 1)] := if_neg (by omega)

set_option maxRecDepth 100000 in
set_option maxHeartbeats 2000000 in
theorem puint8 (s : ByteArray) (w : World) (hs : s.size ≤ 140737488351232) (hpos : 0 < s.size) (hdig : ∀ c ∈ s.data.toList, Pl.isDig 8 c = true) :
    Calls Tryz.prog 154 #[.string s, .int .i64 8, .int .i64 64] w fun e w' => e = .returned (uintRes (Pl.val 8 s.data.toList)) ∧ Below w.heap.size w w' := by
  have hconv := fun W => Lib.run_convert_string_bytes (P := Tryz.prog) W 9 23 5 s Tryz.underlying9 Tryz.underlying23 Tryz.underlying5
  have hne : s.toList.isEmpty = false := by
    rw [ByteArray.toList_eq, List.isEmpty_eq_false_iff]
    intro e
    have : s.data.toList.length = s.size := Array.length_toList
    rw [e, List.length_nil] at this
    omega
  have hD := Lib.hid hdig
  clear hdig
  obtain ⟨R, hR'⟩ : ∃ R, uintRes (Pl.val 8 s.data.toList) = R := ⟨_, rfl⟩
  rw [hR']
  have hR := Lib.hid hR'
  clear hR'
  have hw1 : IntKind.u64.wrap 18446744073709551616 = 0 := by decide
  have hw2 : IntKind.u64.wrap (-1) = 18446744073709551615 := by decide
  go_enter Tryz.func154, Tryz.ntmps154
  go_wp2
  clear hconv hne hw1 hw2
  go_loop [12, 13, 101] (fun us n i => ∃ (k : Nat) (v : Int), k ≤ s.size ∧ 0 ≤ v ∧ v ≤ 18446744073709551615 ∧ Hid (v = (Pl.val 8 (s.data.toList.take k) : Nat)) ∧ us = .bool false ∧ n = .int .u64 v ∧ i = .int .i64 k) (fun _ _ i => s.size - (intOf i).toNat)
  case atStart => exact ⟨0, 0, by omega, by omega, by omega, Lib.hid (by simp [Pl.val]), rfl, rfl, rfl⟩
  case round =>
    obtain ⟨k, v, hk, hv0, hv, hval, rfl, rfl, rfl⟩ := hrel
    by_cases hlt : k < s.size
    · have hlt' : k < s.data.toList.length := by simpa using hlt
      obtain ⟨c, hc⟩ : ∃ c, s.data.toList[k]? = some c := ⟨_, List.getElem?_eq_getElem hlt'⟩
      have hdc : Pl.isDig 8 c = true := hD.out c (List.mem_of_getElem? hc)
      have hcr := of_decide_eq_true hdc
      obtain ⟨d, hd⟩ : ∃ d : Int, (c.toNat : Int) = d + 48 := ⟨(c.toNat : Int) - 48, by omega⟩
      have hd0 : 0 ≤ d := by omega
      have hdb : d < 8 := by omega
      have hcell : (Lib.bytesWorld w 5 s).cell? ⟨w.heap.size, k, none⟩ = some (.int .u8 (d + 48)) := by
        rw [Lib.bytesWorld_cell w _ s k hlt, List.getD_eq_getElem?_getD, hc, Option.getD_some, hd]
      have hstep : v * 8 + d = (Pl.val 8 (s.data.toList.take (k + 1)) : Nat) := by
        rw [Pl.val_take hc, Int.natCast_add, Int.natCast_mul, ← hval.out]
        omega
      have hmono := Pl.val_mono 8 (by omega) s.data.toList (k + 1)
      have hu : (d + 48 == 95) = false := by rw [beq_eq_false_iff_ne]; omega
      have HS := Lib.hid hstep
      clear hc hdc hcr hd hlt'
      by_cases hcut : 2305843009213693952 ≤ v
      · have HR : Hid (R = .tuple #[.int .u64 18446744073709551615, .iface 257 (.int .i64 1)]) := Lib.hid (by rw [← hR.out, uintRes_over (by omega)])
        clear hmono hR hstep
        go_wp2
        go_ret2
        exact ⟨congrArg Ending.returned HR.out.symm, below_bytesWorld w _ s⟩
      · have hcut' : v < 2305843009213693952 := by omega
        clear hcut
        by_cases hov : v * 8 + d ≤ 18446744073709551615
        · clear hmono hv hstep
          go_wp2
          go_round
          case rel => exact ⟨k + 1, v * 8 + d, by omega, by omega, by omega, HS, rfl, rfl, by go_num⟩
          case measure => simp [intOf]; omega
        · have HR : Hid (R = .tuple #[.int .u64 18446744073709551615, .iface 257 (.int .i64 1)]) := Lib.hid (by rw [← hR.out, uintRes_over (by omega)])
          obtain ⟨x, hx⟩ : ∃ x : Int, v * 8 + d = x + 18446744073709551616 := ⟨v * 8 + d - 18446744073709551616, by omega⟩
          have hwr : IntKind.u64.wrap (v * 8 + d) = x := by
            have h1 : IntKind.u64.wrap (v * 8 + d) = (v * 8 + d) % 18446744073709551616 := rfl
            omega
          have hxv : x < v * 8 := by omega
          clear hmono hR hx hov hv hstep
          go_wp2
          go_ret2
          exact ⟨congrArg Ending.returned HR.out.symm, below_bytesWorld w _ s⟩
    · have hk' : k = s.size := by omega
      have hval2 : v = (Pl.val 8 s.data.toList : Nat) := by
        have h2 : s.data.toList.take k = s.data.toList := List.take_of_length_le (by simp; omega)
        rw [hval.out, h2]
      have HR : Hid (R = .tuple #[.int .u64 v, .nilIface]) := Lib.hid (by
        rw [← hR.out, uintRes_of (by omega), hval2])
      clear hk' hR hval2
      go_wp2
      go_ret2
      exact ⟨congrArg Ending.returned HR.out.symm, below_bytesWorld w _ s⟩

set_option maxRecDepth 100000 in
set_option maxHeartbeats 2000000 in
theorem pint8 (s : ByteArray) (w : World) (hs : s.size ≤ 140737488351232) (hpos : 0 < s.size) (hdig : ∀ c ∈ s.data.toList, Pl.isDig 8 c = true) :
    Calls Tryz.prog 126 #[.string s, .int .i64 8, .int .i64 64] w fun e w' => e = .returned (intRes (Pl.val 8 s.data.toList)) ∧ Below w.heap.size w w' := by
  have hne : s.toList.isEmpty = false := by
    rw [ByteArray.toList_eq, List.isEmpty_eq_false_iff]
    intro e
    have : s.data.toList.length = s.size := Array.length_toList
    rw [e, List.length_nil] at this
    omega
  have hq1 : ∀ W, (binOp .neq 153 (.iface 257 (.int .i64 1)) (.iface 257 (.int .i64 1))).run Tryz.prog W = .ok (.bool false) W := fun W => Lib.run_neq_iface_int W 1 1 Tryz.underlying153 Tryz.compErr Tryz.underlying257
  obtain ⟨c, hc⟩ : ∃ c, c = s[0]'hpos := ⟨_, rfl⟩
  have hcd : Pl.isDig 8 c = true := hdig c (by rw [hc]; exact Array.getElem_mem_toList hpos)
  have hcr := of_decide_eq_true hcd
  have h43 : ((c.toNat : Int) == 43) = false := by rw [beq_eq_false_iff_ne]; omega
  have h45 : ((c.toNat : Int) == 45) = false := by rw [beq_eq_false_iff_ne]; omega
  have hcall := puint8 s w hs hpos hdig
  obtain ⟨V, hV⟩ : ∃ V : Int, V = (Pl.val 8 s.data.toList : Nat) := ⟨_, rfl⟩
  obtain ⟨R, hR'⟩ : ∃ R, intRes (Pl.val 8 s.data.toList) = R := ⟨_, rfl⟩
  rw [hR']
  have hV0 : 0 ≤ V := by omega
  rw [hc] at h43 h45
  clear hdig hcd hcr hc
  by_cases h1 : V ≤ 9223372036854775807
  · have hu : uintRes (Pl.val 8 s.data.toList) = .tuple #[.int .u64 V, .nilIface] := by rw [uintRes_of (by omega), hV]
    have HR : Hid (R = .tuple #[.int .i64 V, .nilIface]) := Lib.hid (by rw [← hR', intRes_of (by omega), hV])
    rw [hu] at hcall
    clear hu hR' hV
    go_enter Tryz.func126, Tryz.ntmps126
    go_wp2_with (go_at_call 154; refine hcall.mono ?_; rintro e w' ⟨rfl, hb⟩)
    go_ret2
    exact ⟨congrArg Ending.returned HR.out.symm, hb⟩
  · have HR : Hid (R = .tuple #[.int .i64 9223372036854775807, .iface 257 (.int .i64 1)]) := Lib.hid (by rw [← hR', intRes_over (by omega)])
    by_cases h2 : V < 18446744073709551616
    · have hu : uintRes (Pl.val 8 s.data.toList) = .tuple #[.int .u64 V, .nilIface] := by rw [uintRes_of (by omega), hV]
      have h3 : 9223372036854775808 ≤ V := by omega
      rw [hu] at hcall
      clear hu hR' hV h1
      go_enter Tryz.func126, Tryz.ntmps126
      go_wp2_with (go_at_call 154; refine hcall.mono ?_; rintro e w' ⟨rfl, hb⟩)
      go_ret2
      exact ⟨congrArg Ending.returned HR.out.symm, hb⟩
    · have hu : uintRes (Pl.val 8 s.data.toList) = .tuple #[.int .u64 18446744073709551615, .iface 257 (.int .i64 1)] := uintRes_over (by omega)
      rw [hu] at hcall
      clear hu hR' hV h1 h2
      go_enter Tryz.func126, Tryz.ntmps126
      go_wp2_with (go_at_call 154; refine hcall.mono ?_; rintro e w' ⟨rfl, hb⟩)
      go_ret2
      exact ⟨congrArg Ending.returned HR.out.symm, hb⟩

theorem pub8_ok (s : ByteArray) (w : World) (hs : s.size ≤ 140737488351232) (hpos : 0 < s.size) (hdig : ∀ c ∈ s.data.toList, Pl.isDig 8 c = true) (hv : Pl.val 8 s.data.toList ≤ 9223372036854775807) :
    Calls Tryz.prog 97 #[.string s, .int .i64 8, .int .i64 64] w fun e w' => e = .returned (.tuple #[.int .i64 (Pl.val 8 s.data.toList : Nat), .nilIface]) ∧ Below w.heap.size w w' := by
  have hcall := pint8 s w hs hpos hdig
  rw [intRes_of hv] at hcall
  obtain ⟨V, hV⟩ : ∃ V : Int, (Pl.val 8 s.data.toList : Nat) = V := ⟨_, rfl⟩
  rw [hV] at hcall ⊢
  clear hv hdig hV
  go_enter Tryz.func97, Tryz.ntmps97
  go_wp2_with (go_at_call 126; refine hcall.mono ?_; rintro e w' ⟨rfl, hb⟩)
  go_ret2
  exact ⟨rfl, hb⟩

set_option maxHeartbeats 1000000 in
theorem pub8_over (s : ByteArray) (w : World) (hs : s.size ≤ 140737488351232) (hpos : 0 < s.size) (hdig : ∀ c ∈ s.data.toList, Pl.isDig 8 c = true) (hv : 9223372036854775808 ≤ Pl.val 8 s.data.toList) (ht : Tabs w) :
    Calls Tryz.prog 97 #[.string s, .int .i64 8, .int .i64 64] w fun e w' => ∃ N, e = .returned (.tuple #[.int .i64 9223372036854775807, .iface 261 (.pointer (some ⟨N, 0, none⟩))]) ∧ Below w.heap.size w w' := by
  have hcall := pint8 s w hs hpos hdig
  rw [intRes_over hv] at hcall
  have hT : ∀ w', Below w.heap.size w w' → Calls Tryz.prog 127 #[.string ⟨#[80, 97, 114, 115, 101, 73, 110, 116]⟩, .string s, .int .i64 8, .int .i64 64, .iface 257 (.int .i64 1)] w' fun e w2 => ∃ N, e = .returned (.iface 261 (.pointer (some ⟨N, 0, none⟩))) ∧ Below w'.heap.size w' w2 := fun w' hb => by
    obtain ⟨tp, p, hp⟩ := (ht.below hb).errR
    exact (Tryz.strconv_toError_range ⟨#[80, 97, 114, 115, 101, 73, 110, 116]⟩ s 8 64 _ w' (by omega) hp (.inr ⟨tp, p, rfl⟩)).mono fun e w2 ⟨N, h1, _, _, h4⟩ => ⟨N, h1, h4⟩
  clear hv hdig ht
  go_enter Tryz.func97, Tryz.ntmps97
  go_wp2_with (first | (go_at_call 126; refine hcall.mono ?_; rintro e w' ⟨rfl, hb⟩) | (go_at_call 127; refine (hT _ (by assumption)).mono ?_; rintro e w2 ⟨N, rfl, hb2⟩))
  go_ret2
  exact ⟨N, rfl, hb.trans (hb2.mono hb.size)⟩

theorem pint8_empty (w : World) : Calls Tryz.prog 126 #[.string ⟨#[]⟩, .int .i64 8, .int .i64 64] w fun e w' => e = .returned (.tuple #[.int .i64 0, .iface 257 (.int .i64 2)]) ∧ w' = w := by
  go_enter Tryz.func126, Tryz.ntmps126
  go_wp2
  go_ret2
  exact ⟨rfl, rfl⟩
set_option maxHeartbeats 1000000 in
theorem pub8_empty (w : World) (ht : Tabs w) :
    Calls Tryz.prog 97 #[.string ⟨#[]⟩, .int .i64 8, .int .i64 64] w fun e w' => ∃ N, e = .returned (.tuple #[.int .i64 0, .iface 261 (.pointer (some ⟨N, 0, none⟩))]) ∧ Below w.heap.size w w' := by
  have hT : Calls Tryz.prog 127 #[.string ⟨#[80, 97, 114, 115, 101, 73, 110, 116]⟩, .string ⟨#[]⟩, .int .i64 8, .int .i64 64, .iface 257 (.int .i64 2)] w fun e w2 => ∃ N, e = .returned (.iface 261 (.pointer (some ⟨N, 0, none⟩))) ∧ Below w.heap.size w w2 := by
    obtain ⟨tp, p, hp⟩ := ht.errS
    exact (Tryz.strconv_toError_syntax ⟨#[80, 97, 114, 115, 101, 73, 110, 116]⟩ ⟨#[]⟩ 8 64 _ w (by decide) hp (.inr ⟨tp, p, rfl⟩)).mono fun e w2 ⟨N, h1, _, _, h4⟩ => ⟨N, h1, h4⟩
  clear ht
  go_enter Tryz.func97, Tryz.ntmps97
  go_wp2_with (first | (go_at_call 126; refine (pint8_empty _).mono ?_; rintro e w' ⟨rfl, rfl⟩) | (go_at_call 127; refine hT.mono ?_; rintro e w2 ⟨N, rfl, hb2⟩))
  go_ret2
  exact ⟨N, rfl, hb2⟩

set_option maxRecDepth 100000 in
set_option maxHeartbeats 2000000 in
theorem puint10 (s : ByteArray) (w : World) (hs : s.size ≤ 140737488351232) (hpos : 0 < s.size) (hdig : ∀ c ∈ s.data.toList, Pl.isDig 10 c = true) :
    Calls Tryz.prog 154 #[.string s, .int .i64 10, .int .i64 64] w fun e w' => e = .returned (uintRes (Pl.val 10 s.data.toList)) ∧ Below w.heap.size w w' := by
  have hconv := fun W => Lib.run_convert_string_bytes (P := Tryz.prog) W 9 23 5 s Tryz.underlying9 Tryz.underlying23 Tryz.underlying5
  have hne : s.toList.isEmpty = false := by
    rw [ByteArray.toList_eq, List.isEmpty_eq_false_iff]
    intro e
    have : s.data.toList.length = s.size := Array.length_toList
    rw [e, List.length_nil] at this
    omega
  have hD := Lib.hid hdig
  clear hdig
  obtain ⟨R, hR'⟩ : ∃ R, uintRes (Pl.val 10 s.data.toList) = R := ⟨_, rfl⟩
  rw [hR']
  have hR := Lib.hid hR'
  clear hR'
  have hw1 : IntKind.u64.wrap 18446744073709551616 = 0 := by decide
  have hw2 : IntKind.u64.wrap (-1) = 18446744073709551615 := by decide
  go_enter Tryz.func154, Tryz.ntmps154
  go_wp2
  clear hconv hne hw1 hw2
  go_loop [12, 13, 101] (fun us n i => ∃ (k : Nat) (v : Int), k ≤ s.size ∧ 0 ≤ v ∧ v ≤ 18446744073709551615 ∧ Hid (v = (Pl.val 10 (s.data.toList.take k) : Nat)) ∧ us = .bool false ∧ n = .int .u64 v ∧ i = .int .i64 k) (fun _ _ i => s.size - (intOf i).toNat)
  case atStart => exact ⟨0, 0, by omega, by omega, by omega, Lib.hid (by simp [Pl.val]), rfl, rfl, rfl⟩
  case round =>
    obtain ⟨k, v, hk, hv0, hv, hval, rfl, rfl, rfl⟩ := hrel
    by_cases hlt : k < s.size
    · have hlt' : k < s.data.toList.length := by simpa using hlt
      obtain ⟨c, hc⟩ : ∃ c, s.data.toList[k]? = some c := ⟨_, List.getElem?_eq_getElem hlt'⟩
      have hdc : Pl.isDig 10 c = true := hD.out c (List.mem_of_getElem? hc)
      have hcr := of_decide_eq_true hdc
      obtain ⟨d, hd⟩ : ∃ d : Int, (c.toNat : Int) = d + 48 := ⟨(c.toNat : Int) - 48, by omega⟩
      have hd0 : 0 ≤ d := by omega
      have hdb : d < 10 := by omega
      have hcell : (Lib.bytesWorld w 5 s).cell? ⟨w.heap.size, k, none⟩ = some (.int .u8 (d + 48)) := by
        rw [Lib.bytesWorld_cell w _ s k hlt, List.getD_eq_getElem?_getD, hc, Option.getD_some, hd]
      have hstep : v * 10 + d = (Pl.val 10 (s.data.toList.take (k + 1)) : Nat) := by
        rw [Pl.val_take hc, Int.natCast_add, Int.natCast_mul, ← hval.out]
        omega
      have hmono := Pl.val_mono 10 (by omega) s.data.toList (k + 1)
      have hu : (d + 48 == 95) = false := by rw [beq_eq_false_iff_ne]; omega
      have HS := Lib.hid hstep
      clear hc hdc hcr hd hlt'
      by_cases hcut : 1844674407370955162 ≤ v
      · have HR : Hid (R = .tuple #[.int .u64 18446744073709551615, .iface 257 (.int .i64 1)]) := Lib.hid (by rw [← hR.out, uintRes_over (by omega)])
        clear hmono hR hstep
        go_wp2
        go_ret2
        exact ⟨congrArg Ending.returned HR.out.symm, below_bytesWorld w _ s⟩
      · have hcut' : v < 1844674407370955162 := by omega
        clear hcut
        by_cases hov : v * 10 + d ≤ 18446744073709551615
        · clear hmono hv hstep
          go_wp2
          go_round
          case rel => exact ⟨k + 1, v * 10 + d, by omega, by omega, by omega, HS, rfl, rfl, by go_num⟩
          case measure => simp [intOf]; omega
        · have HR : Hid (R = .tuple #[.int .u64 18446744073709551615, .iface 257 (.int .i64 1)]) := Lib.hid (by rw [← hR.out, uintRes_over (by omega)])
          obtain ⟨x, hx⟩ : ∃ x : Int, v * 10 + d = x + 18446744073709551616 := ⟨v * 10 + d - 18446744073709551616, by omega⟩
          have hwr : IntKind.u64.wrap (v * 10 + d) = x := by
            have h1 : IntKind.u64.wrap (v * 10 + d) = (v * 10 + d) % 18446744073709551616 := rfl
            omega
          have hxv : x < v * 10 := by omega
          clear hmono hR hx hov hv hstep
          go_wp2
          go_ret2
          exact ⟨congrArg Ending.returned HR.out.symm, below_bytesWorld w _ s⟩
    · have hk' : k = s.size := by omega
      have hval2 : v = (Pl.val 10 s.data.toList : Nat) := by
        have h2 : s.data.toList.take k = s.data.toList := List.take_of_length_le (by simp; omega)
        rw [hval.out, h2]
      have HR : Hid (R = .tuple #[.int .u64 v, .nilIface]) := Lib.hid (by
        rw [← hR.out, uintRes_of (by omega), hval2])
      clear hk' hR hval2
      go_wp2
      go_ret2
      exact ⟨congrArg Ending.returned HR.out.symm, below_bytesWorld w _ s⟩

set_option maxRecDepth 100000 in
set_option maxHeartbeats 2000000 in
theorem pint10 (s : ByteArray) (w : World) (hs : s.size ≤ 140737488351232) (hpos : 0 < s.size) (hdig : ∀ c ∈ s.data.toList, Pl.isDig 10 c = true) :
    Calls Tryz.prog 126 #[.string s, .int .i64 10, .int .i64 64] w fun e w' => e = .returned (intRes (Pl.val 10 s.data.toList)) ∧ Below w.heap.size w w' := by
  have hne : s.toList.isEmpty = false := by
    rw [ByteArray.toList_eq, List.isEmpty_eq_false_iff]
    intro e
    have : s.data.toList.length = s.size := Array.length_toList
    rw [e, List.length_nil] at this
    omega
  have hq1 : ∀ W, (binOp .neq 153 (.iface 257 (.int .i64 1)) (.iface 257 (.int .i64 1))).run Tryz.prog W = .ok (.bool false) W := fun W => Lib.run_neq_iface_int W 1 1 Tryz.underlying153 Tryz.compErr Tryz.underlying257
  obtain ⟨c, hc⟩ : ∃ c, c = s[0]'hpos := ⟨_, rfl⟩
  have hcd : Pl.isDig 10 c = true := hdig c (by rw [hc]; exact Array.getElem_mem_toList hpos)
  have hcr := of_decide_eq_true hcd
  have h43 : ((c.toNat : Int) == 43) = false := by rw [beq_eq_false_iff_ne]; omega
  have h45 : ((c.toNat : Int) == 45) = false := by rw [beq_eq_false_iff_ne]; omega
  have hcall := puint10 s w hs hpos hdig
  obtain ⟨V, hV⟩ : ∃ V : Int, V = (Pl.val 10 s.data.toList : Nat) := ⟨_, rfl⟩
  obtain ⟨R, hR'⟩ : ∃ R, intRes (Pl.val 10 s.data.toList) = R := ⟨_, rfl⟩
  rw [hR']
  have hV0 : 0 ≤ V := by omega
  rw [hc] at h43 h45
  clear hdig hcd hcr hc
  by_cases h1 : V ≤ 9223372036854775807
  · have hu : uintRes (Pl.val 10 s.data.toList) = .tuple #[.int .u64 V, .nilIface] := by rw [uintRes_of (by omega), hV]
    have HR : Hid (R = .tuple #[.int .i64 V, .nilIface]) := Lib.hid (by rw [← hR', intRes_of (by omega), hV])
    rw [hu] at hcall
    clear hu hR' hV
    go_enter Tryz.func126, Tryz.ntmps126
    go_wp2_with (go_at_call 154; refine hcall.mono ?_; rintro e w' ⟨rfl, hb⟩)
    go_ret2
    exact ⟨congrArg Ending.returned HR.out.symm, hb⟩
  · have HR : Hid (R = .tuple #[.int .i64 9223372036854775807, .iface 257 (.int .i64 1)]) := Lib.hid (by rw [← hR', intRes_over (by omega)])
    by_cases h2 : V < 18446744073709551616
    · have hu : uintRes (Pl.val 10 s.data.toList) = .tuple #[.int .u64 V, .nilIface] := by rw [uintRes_of (by omega), hV]
      have h3 : 9223372036854775808 ≤ V := by omega
      rw [hu] at hcall
      clear hu hR' hV h1
      go_enter Tryz.func126, Tryz.ntmps126
      go_wp2_with (go_at_call 154; refine hcall.mono ?_; rintro e w' ⟨rfl, hb⟩)
      go_ret2
      exact ⟨congrArg Ending.returned HR.out.symm, hb⟩
    · have hu : uintRes (Pl.val 10 s.data.toList) = .tuple #[.int .u64 18446744073709551615, .iface 257 (.int .i64 1)] := uintRes_over (by omega)
      rw [hu] at hcall
      clear hu hR' hV h1 h2
      go_enter Tryz.func126, Tryz.ntmps126
      go_wp2_with (go_at_call 154; refine hcall.mono ?_; rintro e w' ⟨rfl, hb⟩)
      go_ret2
      exact ⟨congrArg Ending.returned HR.out.symm, hb⟩

theorem pub10_ok (s : ByteArray) (w : World) (hs : s.size ≤ 140737488351232) (hpos : 0 < s.size) (hdig : ∀ c ∈ s.data.toList, Pl.isDig 10 c = true) (hv : Pl.val 10 s.data.toList ≤ 9223372036854775807) :
    Calls Tryz.prog 97 #[.string s, .int .i64 10, .int .i64 64] w fun e w' => e = .returned (.tuple #[.int .i64 (Pl.val 10 s.data.toList : Nat), .nilIface]) ∧ Below w.heap.size w w' := by
  have hcall := pint10 s w hs hpos hdig
  rw [intRes_of hv] at hcall
  obtain ⟨V, hV⟩ : ∃ V : Int, (Pl.val 10 s.data.toList : Nat) = V := ⟨_, rfl⟩
  rw [hV] at hcall ⊢
  clear hv hdig hV
  go_enter Tryz.func97, Tryz.ntmps97
  go_wp2_with (go_at_call 126; refine hcall.mono ?_; rintro e w' ⟨rfl, hb⟩)
  go_ret2
  exact ⟨rfl, hb⟩

set_option maxHeartbeats 1000000 in
theorem pub10_over (s : ByteArray) (w : World) (hs : s.size ≤ 140737488351232) (hpos : 0 < s.size) (hdig : ∀ c ∈ s.data.toList, Pl.isDig 10 c = true) (hv : 9223372036854775808 ≤ Pl.val 10 s.data.toList) (ht : Tabs w) :
    Calls Tryz.prog 97 #[.string s, .int .i64 10, .int .i64 64] w fun e w' => ∃ N, e = .returned (.tuple #[.int .i64 9223372036854775807, .iface 261 (.pointer (some ⟨N, 0, none⟩))]) ∧ Below w.heap.size w w' := by
  have hcall := pint10 s w hs hpos hdig
  rw [intRes_over hv] at hcall
  have hT : ∀ w', Below w.heap.size w w' → Calls Tryz.prog 127 #[.string ⟨#[80, 97, 114, 115, 101, 73, 110, 116]⟩, .string s, .int .i64 10, .int .i64 64, .iface 257 (.int .i64 1)] w' fun e w2 => ∃ N, e = .returned (.iface 261 (.pointer (some ⟨N, 0, none⟩))) ∧ Below w'.heap.size w' w2 := fun w' hb => by
    obtain ⟨tp, p, hp⟩ := (ht.below hb).errR
    exact (Tryz.strconv_toError_range ⟨#[80, 97, 114, 115, 101, 73, 110, 116]⟩ s 10 64 _ w' (by omega) hp (.inr ⟨tp, p, rfl⟩)).mono fun e w2 ⟨N, h1, _, _, h4⟩ => ⟨N, h1, h4⟩
  clear hv hdig ht
  go_enter Tryz.func97, Tryz.ntmps97
  go_wp2_with (first | (go_at_call 126; refine hcall.mono ?_; rintro e w' ⟨rfl, hb⟩) | (go_at_call 127; refine (hT _ (by assumption)).mono ?_; rintro e w2 ⟨N, rfl, hb2⟩))
  go_ret2
  exact ⟨N, rfl, hb.trans (hb2.mono hb.size)⟩

theorem pint10_empty (w : World) : Calls Tryz.prog 126 #[.string ⟨#[]⟩, .int .i64 10, .int .i64 64] w fun e w' => e = .returned (.tuple #[.int .i64 0, .iface 257 (.int .i64 2)]) ∧ w' = w := by
  go_enter Tryz.func126, Tryz.ntmps126
  go_wp2
  go_ret2
  exact ⟨rfl, rfl⟩
set_option maxHeartbeats 1000000 in
theorem pub10_empty (w : World) (ht : Tabs w) :
    Calls Tryz.prog 97 #[.string ⟨#[]⟩, .int .i64 10, .int .i64 64] w fun e w' => ∃ N, e = .returned (.tuple #[.int .i64 0, .iface 261 (.pointer (some ⟨N, 0, none⟩))]) ∧ Below w.heap.size w w' := by
  have hT : Calls Tryz.prog 127 #[.string ⟨#[80, 97, 114, 115, 101, 73, 110, 116]⟩, .string ⟨#[]⟩, .int .i64 10, .int .i64 64, .iface 257 (.int .i64 2)] w fun e w2 => ∃ N, e = .returned (.iface 261 (.pointer (some ⟨N, 0, none⟩))) ∧ Below w.heap.size w w2 := by
    obtain ⟨tp, p, hp⟩ := ht.errS
    exact (Tryz.strconv_toError_syntax ⟨#[80, 97, 114, 115, 101, 73, 110, 116]⟩ ⟨#[]⟩ 10 64 _ w (by decide) hp (.inr ⟨tp, p, rfl⟩)).mono fun e w2 ⟨N, h1, _, _, h4⟩ => ⟨N, h1, h4⟩
  clear ht
  go_enter Tryz.func97, Tryz.ntmps97
  go_wp2_with (first | (go_at_call 126; refine (pint10_empty _).mono ?_; rintro e w' ⟨rfl, rfl⟩) | (go_at_call 127; refine hT.mono ?_; rintro e w2 ⟨N, rfl, hb2⟩))
  go_ret2
  exact ⟨N, rfl, hb2⟩

end Go.Proofs.YtlhiadnolckoeaaGreatDoor
end

section
namespace Go.Proofs.YtlhiadnolckoeaaGreatDoor
open Go.RowKit

namespace Pl
def allDig (b : Nat) (l : List UInt8) : Bool := l.all (isDig b)
/-- is it a number to the base, and at most so great? -/
def okNum (b : Nat) (most : Int) (l : List UInt8) : Bool := !l.isEmpty && allDig b l && decide ((val b l : Int) ≤ most)
end Pl
/-- what reading a number answers -/
def numRes (b : Nat) (most : Int) (l : List UInt8) : Value := if Pl.okNum b most l = true then .tuple #[.int .i64 (Pl.val b l : Nat), .bool true] else .tuple #[.int .i64 0, .bool false]
theorem numRes_yes {b : Nat} {most : Int} {l : List UInt8} (hne : l ≠ []) (hd : Pl.allDig b l = true) (hm : (Pl.val b l : Int) ≤ most) : numRes b most l = .tuple #[.int .i64 (Pl.val b l : Nat), .bool true] := by
  unfold numRes Pl.okNum
  rw [if_pos]
  simp [hd, hm, hne]
theorem numRes_no {b : Nat} {most : Int} {l : List UInt8} (h : l = [] ∨ Pl.allDig b l = false ∨ most < (Pl.val b l : Int)) : numRes b most l = .tuple #[.int .i64 0, .bool false] := by
  unfold numRes Pl.okNum
  rw [if_neg]
  rcases h with h | h | h
  · simp [h]
  · simp [h]
  · simp; intro _ _; omega

set_option maxRecDepth 100000 in
set_option maxHeartbeats 2000000 in
theorem based8_bad (s : ByteArray) (most : Int) (w : World) (hs : s.size ≤ 140737488351232) (hbad : Pl.allDig 8 s.data.toList = false) :
    Calls Tryz.prog 70 #[.string s, .int .i64 most, .int .i64 8] w fun e w' => e = .returned (.tuple #[.int .i64 0, .bool false]) ∧ Below w.heap.size w w' := by
  have hconv := fun W => Lib.run_convert_string_bytes (P := Tryz.prog) W 9 23 5 s Tryz.underlying9 Tryz.underlying23 Tryz.underlying5
  have hB := Lib.hid hbad
  clear hbad
  go_enter Tryz.func70, Tryz.ntmps70
  go_wp2
  clear hconv
  go_loop [9, 15] (fun _ i => ∃ k : Nat, k ≤ s.size ∧ Hid (∀ c ∈ s.data.toList.take k, Pl.isDig 8 c = true) ∧ i = .int .i64 k) (fun _ i => s.size - (intOf i).toNat)
  case atStart => exact ⟨0, by omega, Lib.hid (by simp), rfl⟩
  case round =>
    obtain ⟨k, hk, hpre, rfl⟩ := hrel
    by_cases hlt : k < s.size
    · have hlt' : k < s.data.toList.length := by simpa using hlt
      obtain ⟨c, hc⟩ : ∃ c, s.data.toList[k]? = some c := ⟨_, List.getElem?_eq_getElem hlt'⟩
      have hcell : (Lib.bytesWorld w 5 s).cell? ⟨w.heap.size, k, none⟩ = some (.int .u8 c.toNat) := by
        rw [Lib.bytesWorld_cell w _ s k hlt, List.getD_eq_getElem?_getD, hc, Option.getD_some]
      by_cases hlo : c.toNat < 48
      · have hlo' : (c.toNat : Int) < 48 := by omega
        clear hc hpre hlt'
        go_wp2
        go_ret2
        exact ⟨rfl, below_bytesWorld w _ s⟩
      · obtain ⟨d, hd⟩ : ∃ d : Int, (c.toNat : Int) = d + 48 := ⟨(c.toNat : Int) - 48, by omega⟩
        have hd0 : 0 ≤ d := by omega
        have hd1 : d < 208 := by have := c.toNat_lt; omega
        rw [hd] at hcell
        by_cases hhi : d < 8
        · have hcd : Pl.isDig 8 c = true := decide_eq_true (by omega)
          have hnext : Hid (∀ c ∈ s.data.toList.take (k + 1), Pl.isDig 8 c = true) := Lib.hid (by
            rw [List.take_add_one, hc]
            intro x hx
            rcases List.mem_append.1 hx with h | h
            · exact hpre.out x h
            · simp at h; rw [h]; exact hcd)
          clear hc hpre hlt' hd hcd hlo
          go_wp2
          go_round
          case rel => exact ⟨k + 1, by omega, hnext, by go_num⟩
          case measure => simp [intOf]; omega
        · have hhi' : 8 ≤ d := by omega
          clear hc hpre hlt' hd hlo hhi
          go_wp2
          go_ret2
          exact ⟨rfl, below_bytesWorld w _ s⟩
    · exfalso
      have h1 := hB.out
      have h2 : s.data.toList.take k = s.data.toList := List.take_of_length_le (by simp; omega)
      have h3 := hpre.out
      rw [h2] at h3
      have h4 : Pl.allDig 8 s.data.toList = true := List.all_eq_true.2 h3
      rw [h4] at h1
      cases h1

set_option maxRecDepth 100000 in
set_option maxHeartbeats 2000000 in
theorem based8_all (s : ByteArray) (most : Int) (w : World) (hs : s.size ≤ 140737488351232) (hmm : most ≤ 9223372036854775807) (hall : Pl.allDig 8 s.data.toList = true) (ht : Tabs w) :
    Calls Tryz.prog 70 #[.string s, .int .i64 most, .int .i64 8] w fun e w' => e = .returned (numRes 8 most s.data.toList) ∧ Below w.heap.size w w' := by
  have hconv := fun W => Lib.run_convert_string_bytes (P := Tryz.prog) W 9 23 5 s Tryz.underlying9 Tryz.underlying23 Tryz.underlying5
  have hdig : ∀ c ∈ s.data.toList, Pl.isDig 8 c = true := List.all_eq_true.1 hall
  have hD := Lib.hid hdig
  have hA := Lib.hid hall
  have hT := Lib.hid (ht.below (below_bytesWorld w 5 s))
  have hbw := below_bytesWorld w 5 s
  have hsz := hbw.size
  clear hdig hall ht
  obtain ⟨R, hR'⟩ : ∃ R, numRes 8 most s.data.toList = R := ⟨_, rfl⟩
  rw [hR']
  have hR := Lib.hid hR'
  clear hR'
  go_enter Tryz.func70, Tryz.ntmps70
  go_wp2
  clear hconv
  go_loop [9, 15] (fun _ i => ∃ k : Nat, k ≤ s.size ∧ i = .int .i64 k) (fun _ i => s.size - (intOf i).toNat)
  case atStart => exact ⟨0, by omega, rfl⟩
  case round =>
    obtain ⟨k, hk, rfl⟩ := hrel
    by_cases hlt : k < s.size
    · have hlt' : k < s.data.toList.length := by simpa using hlt
      obtain ⟨c, hc⟩ : ∃ c, s.data.toList[k]? = some c := ⟨_, List.getElem?_eq_getElem hlt'⟩
      have hcd : Pl.isDig 8 c = true := hD.out c (List.mem_of_getElem? hc)
      have hcr := of_decide_eq_true hcd
      obtain ⟨d, hd⟩ : ∃ d : Int, (c.toNat : Int) = d + 48 := ⟨(c.toNat : Int) - 48, by omega⟩
      have hd0 : 0 ≤ d := by omega
      have hdb : d < 8 := by omega
      have hcell : (Lib.bytesWorld w 5 s).cell? ⟨w.heap.size, k, none⟩ = some (.int .u8 (d + 48)) := by
        rw [Lib.bytesWorld_cell w _ s k hlt, List.getD_eq_getElem?_getD, hc, Option.getD_some, hd]
      clear hc hlt' hd hcd hcr
      go_wp2
      go_round
      case rel => exact ⟨k + 1, by omega, by go_num⟩
      case measure => simp [intOf]; omega
    · clear hk
      by_cases h0 : s.size = 0
      · have hs0 : s = ⟨#[]⟩ := by cases s with | mk d => congr 1; exact Array.eq_empty_of_size_eq_zero h0
        have HR : Hid (R = .tuple #[.int .i64 0, .bool false]) := Lib.hid (by rw [← hR.out]; exact numRes_no (.inl (by rw [hs0])))
        subst hs0
        have hcall := pub8_empty _ hT.out
        clear h0 hR
        go_wp2_with (go_at_call 97; refine hcall.mono ?_; rintro e w2 ⟨N, rfl, hb⟩)
        go_ret2
        exact ⟨congrArg Ending.returned HR.out.symm, hbw.trans (hb.mono hsz)⟩
      · have hpos : 0 < s.size := by omega
        have hne : s.data.toList ≠ [] := fun e => by
          have : s.data.toList.length = s.size := Array.length_toList
          rw [e, List.length_nil] at this
          omega
        by_cases hv : Pl.val 8 s.data.toList ≤ 9223372036854775807
        · have hcall := pub8_ok s (Lib.bytesWorld w 5 s) hs hpos hD.out hv
          obtain ⟨V, hV⟩ : ∃ V : Int, (Pl.val 8 s.data.toList : Nat) = V := ⟨_, rfl⟩
          rw [hV] at hcall
          have hV0 : 0 ≤ V := by omega
          have hV1 : V ≤ 9223372036854775807 := by omega
          by_cases hm : V ≤ most
          · have HR : Hid (R = .tuple #[.int .i64 V, .bool true]) := Lib.hid (by rw [← hR.out, numRes_yes hne hA.out (by omega), hV])
            clear hR hV hv h0 hne
            go_wp2_with (go_at_call 97; refine hcall.mono ?_; rintro e w2 ⟨rfl, hb⟩)
            go_ret2
            exact ⟨congrArg Ending.returned HR.out.symm, hbw.trans (hb.mono hsz)⟩
          · have HR : Hid (R = .tuple #[.int .i64 0, .bool false]) := Lib.hid (by rw [← hR.out]; exact numRes_no (.inr (.inr (by omega))))
            have hm' : most < V := by omega
            clear hR hV hv h0 hne hm
            go_wp2_with (go_at_call 97; refine hcall.mono ?_; rintro e w2 ⟨rfl, hb⟩)
            go_ret2
            exact ⟨congrArg Ending.returned HR.out.symm, hbw.trans (hb.mono hsz)⟩
        · have hcall := pub8_over s (Lib.bytesWorld w 5 s) hs hpos hD.out (by omega) hT.out
          have HR : Hid (R = .tuple #[.int .i64 0, .bool false]) := Lib.hid (by rw [← hR.out]; exact numRes_no (.inr (.inr (by omega))))
          clear hR hv h0 hne
          go_wp2_with (go_at_call 97; refine hcall.mono ?_; rintro e w2 ⟨N, rfl, hb⟩)
          go_ret2
          exact ⟨congrArg Ending.returned HR.out.symm, hbw.trans (hb.mono hsz)⟩

theorem based8_any (s : ByteArray) (most : Int) (w : World) (hs : s.size ≤ 140737488351232) (hmm : most ≤ 9223372036854775807) (ht : Tabs w) :
    Calls Tryz.prog 70 #[.string s, .int .i64 most, .int .i64 8] w fun e w' => e = .returned (numRes 8 most s.data.toList) ∧ Below w.heap.size w w' := by
  cases hall : Pl.allDig 8 s.data.toList with
  | true => exact based8_all s most w hs hmm hall ht
  | false => rw [numRes_no (.inr (.inl hall))]; exact based8_bad s most w hs hall

theorem text8_any (s : ByteArray) (most : Int) (w : World) (hs : s.size ≤ 140737488351232) (hmm : most ≤ 9223372036854775807) (ht : Tabs w) :
    Calls Tryz.prog 32 #[.string s, .int .i64 most] w fun e w' => e = .returned (numRes 8 most s.data.toList) ∧ Below w.heap.size w w' := by
  have hcall := based8_any s most w hs hmm ht
  clear ht
  unfold numRes at hcall ⊢
  split at hcall
  · rename_i h
    rw [if_pos h]
    clear h
    go_enter Tryz.func32, Tryz.ntmps32
    go_wp2_with (go_at_call 70; refine hcall.mono ?_; rintro e w2 ⟨rfl, hb⟩)
    go_ret2
    exact ⟨rfl, hb⟩
  · rename_i h
    rw [if_neg h]
    clear h
    go_enter Tryz.func32, Tryz.ntmps32
    go_wp2_with (go_at_call 70; refine hcall.mono ?_; rintro e w2 ⟨rfl, hb⟩)
    go_ret2
    exact ⟨rfl, hb⟩

set_option maxRecDepth 100000 in
set_option maxHeartbeats 2000000 in
theorem based10_bad (s : ByteArray) (most : Int) (w : World) (hs : s.size ≤ 140737488351232) (hbad : Pl.allDig 10 s.data.toList = false) :
    Calls Tryz.prog 70 #[.string s, .int .i64 most, .int .i64 10] w fun e w' => e = .returned (.tuple #[.int .i64 0, .bool false]) ∧ Below w.heap.size w w' := by
  have hconv := fun W => Lib.run_convert_string_bytes (P := Tryz.prog) W 9 23 5 s Tryz.underlying9 Tryz.underlying23 Tryz.underlying5
  have hB := Lib.hid hbad
  clear hbad
  go_enter Tryz.func70, Tryz.ntmps70
  go_wp2
  clear hconv
  go_loop [9, 15] (fun _ i => ∃ k : Nat, k ≤ s.size ∧ Hid (∀ c ∈ s.data.toList.take k, Pl.isDig 10 c = true) ∧ i = .int .i64 k) (fun _ i => s.size - (intOf i).toNat)
  case atStart => exact ⟨0, by omega, Lib.hid (by simp), rfl⟩
  case round =>
    obtain ⟨k, hk, hpre, rfl⟩ := hrel
    by_cases hlt : k < s.size
    · have hlt' : k < s.data.toList.length := by simpa using hlt
      obtain ⟨c, hc⟩ : ∃ c, s.data.toList[k]? = some c := ⟨_, List.getElem?_eq_getElem hlt'⟩
      have hcell : (Lib.bytesWorld w 5 s).cell? ⟨w.heap.size, k, none⟩ = some (.int .u8 c.toNat) := by
        rw [Lib.bytesWorld_cell w _ s k hlt, List.getD_eq_getElem?_getD, hc, Option.getD_some]
      by_cases hlo : c.toNat < 48
      · have hlo' : (c.toNat : Int) < 48 := by omega
        clear hc hpre hlt'
        go_wp2
        go_ret2
        exact ⟨rfl, below_bytesWorld w _ s⟩
      · obtain ⟨d, hd⟩ : ∃ d : Int, (c.toNat : Int) = d + 48 := ⟨(c.toNat : Int) - 48, by omega⟩
        have hd0 : 0 ≤ d := by omega
        have hd1 : d < 208 := by have := c.toNat_lt; omega
        rw [hd] at hcell
        by_cases hhi : d < 10
        · have hcd : Pl.isDig 10 c = true := decide_eq_true (by omega)
          have hnext : Hid (∀ c ∈ s.data.toList.take (k + 1), Pl.isDig 10 c = true) := Lib.hid (by
            rw [List.take_add_one, hc]
            intro x hx
            rcases List.mem_append.1 hx with h | h
            · exact hpre.out x h
            · simp at h; rw [h]; exact hcd)
          clear hc hpre hlt' hd hcd hlo
          go_wp2
          go_round
          case rel => exact ⟨k + 1, by omega, hnext, by go_num⟩
          case measure => simp [intOf]; omega
        · have hhi' : 10 ≤ d := by omega
          clear hc hpre hlt' hd hlo hhi
          go_wp2
          go_ret2
          exact ⟨rfl, below_bytesWorld w _ s⟩
    · exfalso
      have h1 := hB.out
      have h2 : s.data.toList.take k = s.data.toList := List.take_of_length_le (by simp; omega)
      have h3 := hpre.out
      rw [h2] at h3
      have h4 : Pl.allDig 10 s.data.toList = true := List.all_eq_true.2 h3
      rw [h4] at h1
      cases h1

set_option maxRecDepth 100000 in
set_option maxHeartbeats 2000000 in
theorem based10_all (s : ByteArray) (most : Int) (w : World) (hs : s.size ≤ 140737488351232) (hmm : most ≤ 9223372036854775807) (hall : Pl.allDig 10 s.data.toList = true) (ht : Tabs w) :
    Calls Tryz.prog 70 #[.string s, .int .i64 most, .int .i64 10] w fun e w' => e = .returned (numRes 10 most s.data.toList) ∧ Below w.heap.size w w' := by
  have hconv := fun W => Lib.run_convert_string_bytes (P := Tryz.prog) W 9 23 5 s Tryz.underlying9 Tryz.underlying23 Tryz.underlying5
  have hdig : ∀ c ∈ s.data.toList, Pl.isDig 10 c = true := List.all_eq_true.1 hall
  have hD := Lib.hid hdig
  have hA := Lib.hid hall
  have hT := Lib.hid (ht.below (below_bytesWorld w 5 s))
  have hbw := below_bytesWorld w 5 s
  have hsz := hbw.size
  clear hdig hall ht
  obtain ⟨R, hR'⟩ : ∃ R, numRes 10 most s.data.toList = R := ⟨_, rfl⟩
  rw [hR']
  have hR := Lib.hid hR'
  clear hR'
  go_enter Tryz.func70, Tryz.ntmps70
  go_wp2
  clear hconv
  go_loop [9, 15] (fun _ i => ∃ k : Nat, k ≤ s.size ∧ i = .int .i64 k) (fun _ i => s.size - (intOf i).toNat)
  case atStart => exact ⟨0, by omega, rfl⟩
  case round =>
    obtain ⟨k, hk, rfl⟩ := hrel
    by_cases hlt : k < s.size
    · have hlt' : k < s.data.toList.length := by simpa using hlt
      obtain ⟨c, hc⟩ : ∃ c, s.data.toList[k]? = some c := ⟨_, List.getElem?_eq_getElem hlt'⟩
      have hcd : Pl.isDig 10 c = true := hD.out c (List.mem_of_getElem? hc)
      have hcr := of_decide_eq_true hcd
      obtain ⟨d, hd⟩ : ∃ d : Int, (c.toNat : Int) = d + 48 := ⟨(c.toNat : Int) - 48, by omega⟩
      have hd0 : 0 ≤ d := by omega
      have hdb : d < 10 := by omega
      have hcell : (Lib.bytesWorld w 5 s).cell? ⟨w.heap.size, k, none⟩ = some (.int .u8 (d + 48)) := by
        rw [Lib.bytesWorld_cell w _ s k hlt, List.getD_eq_getElem?_getD, hc, Option.getD_some, hd]
      clear hc hlt' hd hcd hcr
      go_wp2
      go_round
      case rel => exact ⟨k + 1, by omega, by go_num⟩
      case measure => simp [intOf]; omega
    · clear hk
      by_cases h0 : s.size = 0
      · have hs0 : s = ⟨#[]⟩ := by cases s with | mk d => congr 1; exact Array.eq_empty_of_size_eq_zero h0
        have HR : Hid (R = .tuple #[.int .i64 0, .bool false]) := Lib.hid (by rw [← hR.out]; exact numRes_no (.inl (by rw [hs0])))
        subst hs0
        have hcall := pub10_empty _ hT.out
        clear h0 hR
        go_wp2_with (go_at_call 97; refine hcall.mono ?_; rintro e w2 ⟨N, rfl, hb⟩)
        go_ret2
        exact ⟨congrArg Ending.returned HR.out.symm, hbw.trans (hb.mono hsz)⟩
      · have hpos : 0 < s.size := by omega
        have hne : s.data.toList ≠ [] := fun e => by
          have : s.data.toList.length = s.size := Array.length_toList
          rw [e, List.length_nil] at this
          omega
        by_cases hv : Pl.val 10 s.data.toList ≤ 9223372036854775807
        · have hcall := pub10_ok s (Lib.bytesWorld w 5 s) hs hpos hD.out hv
          obtain ⟨V, hV⟩ : ∃ V : Int, (Pl.val 10 s.data.toList : Nat) = V := ⟨_, rfl⟩
          rw [hV] at hcall
          have hV0 : 0 ≤ V := by omega
          have hV1 : V ≤ 9223372036854775807 := by omega
          by_cases hm : V ≤ most
          · have HR : Hid (R = .tuple #[.int .i64 V, .bool true]) := Lib.hid (by rw [← hR.out, numRes_yes hne hA.out (by omega), hV])
            clear hR hV hv h0 hne
            go_wp2_with (go_at_call 97; refine hcall.mono ?_; rintro e w2 ⟨rfl, hb⟩)
            go_ret2
            exact ⟨congrArg Ending.returned HR.out.symm, hbw.trans (hb.mono hsz)⟩
          · have HR : Hid (R = .tuple #[.int .i64 0, .bool false]) := Lib.hid (by rw [← hR.out]; exact numRes_no (.inr (.inr (by omega))))
            have hm' : most < V := by omega
            clear hR hV hv h0 hne hm
            go_wp2_with (go_at_call 97; refine hcall.mono ?_; rintro e w2 ⟨rfl, hb⟩)
            go_ret2
            exact ⟨congrArg Ending.returned HR.out.symm, hbw.trans (hb.mono hsz)⟩
        · have hcall := pub10_over s (Lib.bytesWorld w 5 s) hs hpos hD.out (by omega) hT.out
          have HR : Hid (R = .tuple #[.int .i64 0, .bool false]) := Lib.hid (by rw [← hR.out]; exact numRes_no (.inr (.inr (by omega))))
          clear hR hv h0 hne
          go_wp2_with (go_at_call 97; refine hcall.mono ?_; rintro e w2 ⟨N, rfl, hb⟩)
          go_ret2
          exact ⟨congrArg Ending.returned HR.out.symm, hbw.trans (hb.mono hsz)⟩

theorem based10_any (s : ByteArray) (most : Int) (w : World) (hs : s.size ≤ 140737488351232) (hmm : most ≤ 9223372036854775807) (ht : Tabs w) :
    Calls Tryz.prog 70 #[.string s, .int .i64 most, .int .i64 10] w fun e w' => e = .returned (numRes 10 most s.data.toList) ∧ Below w.heap.size w w' := by
  cases hall : Pl.allDig 10 s.data.toList with
  | true => exact based10_all s most w hs hmm hall ht
  | false => rw [numRes_no (.inr (.inl hall))]; exact based10_bad s most w hs hall

theorem text10_any (s : ByteArray) (most : Int) (w : World) (hs : s.size ≤ 140737488351232) (hmm : most ≤ 9223372036854775807) (ht : Tabs w) :
    Calls Tryz.prog 33 #[.string s, .int .i64 most] w fun e w' => e = .returned (numRes 10 most s.data.toList) ∧ Below w.heap.size w w' := by
  have hcall := based10_any s most w hs hmm ht
  clear ht
  unfold numRes at hcall ⊢
  split at hcall
  · rename_i h
    rw [if_pos h]
    clear h
    go_enter Tryz.func33, Tryz.ntmps33
    go_wp2_with (go_at_call 70; refine hcall.mono ?_; rintro e w2 ⟨rfl, hb⟩)
    go_ret2
    exact ⟨rfl, hb⟩
  · rename_i h
    rw [if_neg h]
    clear h
    go_enter Tryz.func33, Tryz.ntmps33
    go_wp2_with (go_at_call 70; refine hcall.mono ?_; rintro e w2 ⟨rfl, hb⟩)
    go_ret2
    exact ⟨rfl, hb⟩

end Go.Proofs.YtlhiadnolckoeaaGreatDoor
end
