/-
  Parts of the proof: What Read of a job's input does to the job.
-/
import Derived.Test.YtlncmknikjloeaaGreatDoorV10
import Derived.Test.YtlncmknikjloeaaGreatDoorV17
import Derived.Test.YtlncmknikjloeaaGreatDoorV18

section
namespace Go.Proofs.YtlncmknikjloeaaGreatDoor
open Go.RowKit Go.Maps

/-- a flow that has read n bytes -/
def Flow.read (F : Flow) (X : Job) (n : Nat) (v : Value) : Flow := { F with steps := F.steps + 1, sv := v, inb := F.inb.drop n, used := F.took X }

set_option maxRecDepth 100000 in
set_option maxHeartbeats 2000000 in
theorem jobRead (w : World) (X : Job) (F : Flow) (h : JobOf w X F) (hst : F.steps < 4611686018427387904) (most : Int) (hm1 : 1 ≤ most) (hm2 : most ≤ 9223372036854775807) (hl : F.inb.length ≤ 140737488355328)
    (hf : (X.kF F).next.1 ≠ 2) (hf4 : (X.kF F).next.1 ≠ 4) (n : Nat) (hn : shortN (min most (F.inb.length : Int)) (X.kF F).next = (n : Int)) :
    Calls Tryz.prog 67 #[.pointer (some ⟨X.p, 0, none⟩), .int .i64 0, .int .i64 most] w fun e w' => ∃ A c, e = .returned (.tuple #[.slice A n c, .int .i64 0]) ∧
      w'.ownsRow w.heap.size 5 1 (.slice A n c) n (bytesC (F.inb.take n)) ∧ ∃ v, JobOf w' X (F.read X n v) ∧ Went X F (F.read X n v) w w' ∧ (∀ g ∈ X.foot (F.read X n v), g ∈ X.foot F) := by
  have hnl : n ≤ F.inb.length := by
    have := (shortN_le (m := min most (F.inb.length : Int)) (f := (X.kF F).next) (by omega)).2
    omega
  obtain ⟨SA, sc, hsv, hsc, hsr⟩ := h.inp.form
  have hS : ∀ g ∈ [X.B.k, X.src], g < w.heap.size := by
    intro g hg
    simp only [List.mem_cons, List.not_mem_nil, or_false] at hg
    rcases hg with rfl | rfl
    · exact h.kern.blk.lt
    · exact h.src.lt
  have hoff : ∀ g ∈ X.B.foot X.p, g ∉ [X.B.k, X.src] := by
    intro g hg hm
    have hp : g ∈ (X.J F).foot X.p := hg
    simp only [List.mem_cons, List.not_mem_nil, or_false] at hm
    rcases hm with rfl | rfl
    · exact h.proc.off h.kern.blk (by decide) (by decide) (by decide) hp
    · exact h.proc.off h.src (by decide) (by decide) (by decide) hp
  obtain ⟨v', hv'⟩ : ∃ v', Value.slice (cutA SA sc n 1) (F.inb.length - n) (sc - n) = v' := ⟨_, rfl⟩
  have hown : ∀ g, v'.ownBlock = some g → F.sv.ownBlock = some g := by
    intro g hg
    rw [hsv]
    rw [← hv'] at hg
    cases SA with
    | none => simp [cutA, Value.ownBlock] at hg
    | some ad =>
      by_cases hc : sc = n
      · simpa [cutA, hc, Value.ownBlock] using hg
      · have e1 : (ad.add n).block = ad.block := by unfold Addr.add; split <;> rfl
        simpa [cutA, hc, Value.ownBlock, e1] using hg
  refine (procRead_top w X.p (X.J F) h.proc h.may h.top h.at_ h.log hst (.int .i64 0) (.int .i64 most) rfl rfl n 0 rfl [X.B.k, X.src] hS hoff
    (fun W A c w4 => w.heap.size ≤ W.heap.size ∧ w4.ownsRow W.heap.size 5 1 (.slice A n c) n (bytesC (F.inb.take n)) ∧ KernOf w4 X.B.k { X.K with used := F.took X } ∧ Blk w4 X.src 153 #[v']) ?_).mono ?_
  · intro W hPW hTW
    have hpf : ∀ g ∈ X.K.foot X.B.k, g ∉ [X.p] := fun g hg hm => h.kern.off h.proc.blk (by decide) (by decide) ((List.mem_singleton.1 hm) ▸ hg)
    have hKW := h.kern.turns hTW hpf
    have hTb : TableOf W X.B.tb X.B.k X.D := (hTW.block _ (Blk.lt h.table) (by rw [List.mem_singleton]; exact Blk.ne_ h.table h.proc.blk (by decide))).trans h.table
    have hsW : Blk W X.src 153 #[.slice SA F.inb.length sc] := by rw [← hsv]; exact (hTW.block _ h.src.lt (by rw [List.mem_singleton]; exact Blk.ne_ h.src h.proc.blk (by decide))).trans h.src
    have hrW : OffRow W 0 5 (.slice SA F.inb.length sc) F.inb.length (bytesC F.inb) := by
      rw [← hsv]
      exact h.inp.same fun g hg => hTW.block g (h.inp.lt hg).2 (by rw [List.mem_singleton]; rintro rfl; exact h.inp.blk_ne h.proc.blk (by decide) hg)
    refine (readSource W X.B.tb X.B.k (X.kF F) X.D hKW hTb 0 (by decide) X.src rfl 0 SA sc F.inb hsW hrW most hm1 hm2 hf hf4 hl n hn).mono ?_
    rintro e w4 ⟨u, rfl, hu, hK4, hs4, hT4⟩
    rw [Job.took] at hK4
    rw [hv'] at hs4
    obtain ⟨A, c, rfl, _⟩ := own_slice hu
    exact ⟨A, c, rfl, hT4, hTW.size, hu, hK4, hs4⟩
  · rintro e w' ⟨A, c, rfl, hP', W, w4, N, ⟨hsW, hu, hK4, hs4⟩, hN, hT4', hTw4⟩
    have hTall : Turns ([X.p] ++ [X.B.k, X.src]) w w' := hTw4.then hT4' fun g hg hlt => by have := (hN g hg).1; omega
    have hsub : ∀ g ∈ [X.p] ++ [X.B.k, X.src], g ∈ X.foot F := by
      intro g hg
      simp only [List.mem_append, List.mem_cons, List.not_mem_nil, or_false] at hg
      simp only [Job.foot, PS.foot, KS.foot, List.mem_append, List.mem_cons, List.not_mem_nil, or_false, Option.mem_toList]
      rcases hg with rfl | rfl | rfl <;> simp
    have hkeep : ∀ g, g < w.heap.size → g ≠ X.p → g ≠ X.B.k → g ≠ X.src → w'.heap[g]? = w.heap[g]? := by
      intro g hg h1 h2 h3
      refine hTall.block g hg ?_
      simp only [List.mem_append, List.mem_cons, List.not_mem_nil, or_false, not_or]
      exact ⟨h1, h2, h3⟩
    have hold : ∀ g, g ∉ N → g < w4.heap.size → w'.heap[g]? = w4.heap[g]? := fun g h1 h2 => hT4'.block g h2 h1
    have hNold : ∀ g, g < w.heap.size → g ∉ N := fun g hg hm => by have := (hN g hm).1; omega
    have hK' : KernOf w' X.B.k { X.K with used := F.took X } := hK4.same fun g hg => hold g (hNold g (h.kern.foot_lt g hg)) (hK4.foot_lt g hg)
    have hs' : Blk w' X.src 153 #[v'] := (hold _ (hNold _ h.src.lt) hs4.lt).trans hs4
    have hu' : w'.ownsRow W.heap.size 5 1 (.slice A n c) n (bytesC (F.inb.take n)) := ownsRow_same hu fun g hg => by
      have h1 := hu.lt g hg
      refine hold g ?_ h1.2
      intro hm
      have := (hN g hm).2
      omega
    have hbk : ∀ {t : TypeId} {cs : Array Value} {g : Nat}, Blk w g t cs → t ≠ 89 → t ≠ 72 → t ≠ 153 → w'.heap[g]? = w.heap[g]? := fun hg h1 h2 h3 =>
      hkeep _ hg.lt (Blk.ne_ hg h.proc.blk h1) (Blk.ne_ hg h.kern.blk h2) (Blk.ne_ hg h.src h3)
    have hrow : ∀ {n : Nat} {v : Value} {xs : List Value}, OffRow w 0 5 v n xs → OffRow w' 0 5 v n xs := fun hv => hv.same fun g hg =>
      hkeep g (hv.lt hg).2 (fun e => hv.blk_ne h.proc.blk (by decide) (e ▸ hg)) (fun e => hv.blk_ne h.kern.blk (by decide) (e ▸ hg)) (fun e => hv.blk_ne h.src (by decide) (e ▸ hg))
    have hinp : OffRow w' 0 5 v' (F.inb.drop n).length (bytesC (F.inb.drop n)) := by
      have h1 : OffRow w' 0 5 (.slice SA F.inb.length sc) F.inb.length (bytesC F.inb) := by rw [← hsv]; exact hrow h.inp
      have h2 := h1.cut hnl
      rw [hv'] at h2
      rw [List.length_drop, show bytesC (F.inb.drop n) = (bytesC F.inb).drop n by simp [bytesC, List.map_drop]]
      exact h2
    have hfoot : ∀ g ∈ X.foot (F.read X n v'), g ∈ X.foot F := by
      intro g hg
      simp only [Job.foot, List.mem_append, Option.mem_toList] at hg
      rcases hg with hg | (hg | hg) | hg
      · simp only [Job.foot, List.mem_append]; exact .inl hg
      · simp only [Job.foot, List.mem_append, Option.mem_toList]; exact .inr (.inl (.inl (hown g hg)))
      · simp only [Job.foot, List.mem_append, Option.mem_toList]; exact .inr (.inl (.inr hg))
      · simp only [Job.foot, List.mem_append, Option.mem_toList]; exact .inr (.inr hg)
    refine ⟨A, c, rfl, ?_, v', ?_, ⟨hTall.more hsub, fun g hg => .inl (hfoot g hg)⟩, hfoot⟩
    · refine ⟨hu'.1, hu'.2.imp id ?_⟩
      rintro ⟨g, cap, cur, h1, h2, h3⟩
      exact ⟨g, cap, cur, h1, Nat.le_trans hsW h2, h3⟩
    · exact {
        proc := hP', kern := hK', may := h.may, top := h.top, at_ := h.at_, log := h.log, sinks := h.sinks, thing := h.thing
        table := (hbk h.table (by decide) (by decide) (by decide)).trans h.table
        src := hs'
        inp := hinp
        sink := fun b => (hbk (h.sink b) (by decide) (by decide) (by decide)).trans (h.sink b)
        row := fun b => hrow (h.row b)
        rows := h.rows
        inrow := fun b g hg => h.inrow b g (hown g hg) }

set_option maxRecDepth 100000 in
set_option maxHeartbeats 2000000 in
/-- a read that is interrupted -/
theorem jobReadIntr (w : World) (X : Job) (F : Flow) (h : JobOf w X F) (hst : F.steps < 4611686018427387904) (most : Int) (hm1 : 1 ≤ most) (hf : (X.kF F).next.1 = 2) :
    Calls Tryz.prog 67 #[.pointer (some ⟨X.p, 0, none⟩), .int .i64 0, .int .i64 most] w fun e w' => ∃ A c, e = .returned (.tuple #[.slice A 0 c, .int .i64 9]) ∧
      JobOf w' X (F.failed X) ∧ Went X F (F.failed X) w w' := by
  have hS : ∀ g ∈ [X.B.k], g < w.heap.size := by
    intro g hg
    rw [List.mem_singleton] at hg
    subst hg
    exact h.kern.blk.lt
  have hoff : ∀ g ∈ X.B.foot X.p, g ∉ [X.B.k] := by
    intro g hg hm
    rw [List.mem_singleton] at hm
    subst hm
    exact h.proc.off h.kern.blk (by decide) (by decide) (by decide) hg
  refine (procRead_top w X.p (X.J F) h.proc h.may h.top h.at_ h.log hst (.int .i64 0) (.int .i64 most) rfl rfl 0 9 rfl [X.B.k] hS hoff
    (fun W _ _ w4 => w.heap.size ≤ W.heap.size ∧ KernOf w4 X.B.k { X.K with used := F.took X }) ?_).mono ?_
  · intro W hPW hTW
    have hpf : ∀ g ∈ X.K.foot X.B.k, g ∉ [X.p] := fun g hg hm => h.kern.off h.proc.blk (by decide) (by decide) ((List.mem_singleton.1 hm) ▸ hg)
    have hKW := h.kern.turns hTW hpf
    have hsW : Blk W X.src 153 #[F.sv] := (hTW.block _ h.src.lt (by rw [List.mem_singleton]; exact Blk.ne_ h.src h.proc.blk (by decide))).trans h.src
    have hTb : TableOf W X.B.tb X.B.k X.D := (hTW.block _ (Blk.lt h.table) (by rw [List.mem_singleton]; exact Blk.ne_ h.table h.proc.blk (by decide))).trans h.table
    refine (readSourceIntr W X.B.tb X.B.k (X.kF F) X.D hKW hTb 0 (by decide) X.src rfl F.sv hsW most hm1 hf).mono ?_
    rintro e w4 ⟨rfl, hK4, hT4⟩
    rw [Job.took] at hK4
    exact ⟨none, 0, rfl, hT4, hTW.size, hK4⟩
  · rintro e w' ⟨A, c, rfl, hP', W, w4, N, ⟨hsW, hK4⟩, hN, hT4', hTw4⟩
    have hTall : Turns ([X.p] ++ [X.B.k]) w w' := hTw4.then hT4' fun g hg hlt => by have := (hN g hg).1; omega
    have hsub : ∀ g ∈ [X.p] ++ [X.B.k], g ∈ X.foot F := by
      intro g hg
      simp only [List.mem_append, List.mem_cons, List.not_mem_nil, or_false] at hg
      simp only [Job.foot, PS.foot, KS.foot, List.mem_append, List.mem_cons, List.not_mem_nil, or_false, Option.mem_toList]
      rcases hg with rfl | rfl <;> simp
    have hkeep : ∀ g, g < w.heap.size → g ≠ X.p → g ≠ X.B.k → w'.heap[g]? = w.heap[g]? := by
      intro g hg h1 h2
      refine hTall.block g hg ?_
      simp only [List.mem_append, List.mem_cons, List.not_mem_nil, or_false, not_or]
      exact ⟨h1, h2⟩
    have hold : ∀ g, g ∉ N → g < w4.heap.size → w'.heap[g]? = w4.heap[g]? := fun g h1 h2 => hT4'.block g h2 h1
    have hNold : ∀ g, g < w.heap.size → g ∉ N := fun g hg hm => by have := (hN g hm).1; omega
    have hK' : KernOf w' X.B.k { X.K with used := F.took X } := hK4.same fun g hg => hold g (hNold g (h.kern.foot_lt g hg)) (hK4.foot_lt g hg)
    have hbk : ∀ {t : TypeId} {cs : Array Value} {g : Nat}, Blk w g t cs → t ≠ 89 → t ≠ 72 → w'.heap[g]? = w.heap[g]? := fun hg h1 h2 =>
      hkeep _ hg.lt (Blk.ne_ hg h.proc.blk h1) (Blk.ne_ hg h.kern.blk h2)
    have hrow : ∀ {n : Nat} {v : Value} {xs : List Value}, OffRow w 0 5 v n xs → OffRow w' 0 5 v n xs := fun hv => hv.same fun g hg =>
      hkeep g (hv.lt hg).2 (fun e => hv.blk_ne h.proc.blk (by decide) (e ▸ hg)) (fun e => hv.blk_ne h.kern.blk (by decide) (e ▸ hg))
    exact ⟨A, c, rfl, {
      proc := hP', kern := hK', may := h.may, top := h.top, at_ := h.at_, log := h.log, sinks := h.sinks, thing := h.thing
      table := (hbk h.table (by decide) (by decide)).trans h.table
      src := (hbk h.src (by decide) (by decide)).trans h.src
      inp := hrow h.inp
      sink := fun b => (hbk (h.sink b) (by decide) (by decide)).trans (h.sink b)
      row := fun b => hrow (h.row b)
      rows := h.rows
      inrow := h.inrow }, hTall.more hsub, fun g hg => .inl hg⟩

end Go.Proofs.YtlncmknikjloeaaGreatDoor
end
