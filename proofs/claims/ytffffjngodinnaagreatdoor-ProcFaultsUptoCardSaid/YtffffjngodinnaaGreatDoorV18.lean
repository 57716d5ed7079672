/-
  Parts of the proof: What Read of a job's input does to the job; A walk over copies of proc: some bytes are copied, whatever befalls the transfers.
-/
import Derived.Test.YtffffjngodinnaaGreatDoorV13
import Derived.Test.YtffffjngodinnaaGreatDoorV16
import Derived.Test.YtffffjngodinnaaGreatDoorV17
import Derived.Test.YtffffjngodinnaaGreatDoorV14
import Derived.Test.YtffffjngodinnaaGreatDoorV07

section
namespace Go.Proofs.YtffffjngodinnaaGreatDoor
open Go.RowKit Go.Maps

/-- a flow that has read n bytes -/
def Flow.read (F : Flow) (X : Job) (n : Nat) (v : Value) : Flow := { F with steps := F.steps + 1, sv := v, inb := F.inb.drop n, used := F.took X }

set_option maxRecDepth 100000 in
set_option maxHeartbeats 2000000 in
theorem jobRead (w : World) (X : Job) (F : Flow) (h : JobOf w X F) (hst : F.steps < 4611686018427387904) (most : Int) (hm1 : 1 ≤ most) (hm2 : most ≤ 9223372036854775807) (hl : F.inb.length ≤ 140737488355328)
    (hf : (X.kF F).next.1 ≠ 2) (hf4 : (X.kF F).next.1 ≠ 4) (n : Nat) (hn : shortN (min most (F.inb.length : Int)) (X.kF F).next = (n : Int)) :
    Calls Tryz.prog 106 #[.pointer (some ⟨X.p, 0, none⟩), .int .i64 0, .int .i64 most] w fun e w' => ∃ A c, e = .returned (.tuple #[.slice A n c, .int .i64 0]) ∧
      w'.ownsRow w.heap.size 5 1 (.slice A n c) n (bytesC (F.inb.take n)) ∧ ∃ v, JobOf w' X (F.read X n v) ∧ Went X F (F.read X n v) w w' ∧ (∀ g ∈ X.foot (F.read X n v), g ∈ X.foot F) := by
  have hnl : n ≤ F.inb.length := by
    have := (shortN_le (m := min most (F.inb.length : Int)) (f := (X.kF F).next) (by omega)).2
    omega
  obtain ⟨SA, sc, hsv, hsc, hsr⟩ := h.inp.form
  have hS : ∀ g ∈ [X.B.k, X.src], g < w.heap.size := by
    intro g hg
    simp only [List.mem_cons, List.not_mem_nil, or_false] at hg
    rcases hg with rfl | rfl
    · exact h.kern.blk.lt
    · exact h.src.lt
  have hoff : ∀ g ∈ X.B.foot X.p, g ∉ [X.B.k, X.src] := by
    intro g hg hm
    have hp : g ∈ (X.J F).foot X.p := hg
    simp only [List.mem_cons, List.not_mem_nil, or_false] at hm
    rcases hm with rfl | rfl
    · exact h.proc.off h.kern.blk (by decide) (by decide) (by decide) hp
    · exact h.proc.off h.src (by decide) (by decide) (by decide) hp
  obtain ⟨v', hv'⟩ : ∃ v', Value.slice (cutA SA sc n 1) (F.inb.length - n) (sc - n) = v' := ⟨_, rfl⟩
  have hown : ∀ g, v'.ownBlock = some g → F.sv.ownBlock = some g := by
    intro g hg
    rw [hsv]
    rw [← hv'] at hg
    cases SA with
    | none => simp [cutA, Value.ownBlock] at hg
    | some ad =>
      by_cases hc : sc = n
      · simpa [cutA, hc, Value.ownBlock] using hg
      · have e1 : (ad.add n).block = ad.block := by unfold Addr.add; split <;> rfl
        simpa [cutA, hc, Value.ownBlock, e1] using hg
  refine (procRead_top w X.p (X.J F) h.proc h.may h.top h.at_ h.log hst (.int .i64 0) (.int .i64 most) rfl rfl n 0 rfl [X.B.k, X.src] hS hoff
    (fun W A c w4 => w.heap.size ≤ W.heap.size ∧ w4.ownsRow W.heap.size 5 1 (.slice A n c) n (bytesC (F.inb.take n)) ∧ KernOf w4 X.B.k { X.K with used := F.took X } ∧ Blk w4 X.src 159 #[v']) ?_).mono ?_
  · intro W hPW hTW
    have hpf : ∀ g ∈ X.K.foot X.B.k, g ∉ [X.p] := fun g hg hm => h.kern.off h.proc.blk (by decide) (by decide) ((List.mem_singleton.1 hm) ▸ hg)
    have hKW := h.kern.turns hTW hpf
    have hTb : TableOf W X.B.tb X.B.k X.D := (hTW.block _ (Blk.lt h.table) (by rw [List.mem_singleton]; exact Blk.ne_ h.table h.proc.blk (by decide))).trans h.table
    have hsW : Blk W X.src 159 #[.slice SA F.inb.length sc] := by rw [← hsv]; exact (hTW.block _ h.src.lt (by rw [List.mem_singleton]; exact Blk.ne_ h.src h.proc.blk (by decide))).trans h.src
    have hrW : OffRow W 0 5 (.slice SA F.inb.length sc) F.inb.length (bytesC F.inb) := by
      rw [← hsv]
      exact h.inp.same fun g hg => hTW.block g (h.inp.lt hg).2 (by rw [List.mem_singleton]; rintro rfl; exact h.inp.blk_ne h.proc.blk (by decide) hg)
    refine (readSource W X.B.tb X.B.k (X.kF F) X.D hKW hTb 0 (by decide) X.src rfl 0 SA sc F.inb hsW hrW most hm1 hm2 hf hf4 hl n hn).mono ?_
    rintro e w4 ⟨u, rfl, hu, hK4, hs4, hT4⟩
    rw [Job.took] at hK4
    rw [hv'] at hs4
    obtain ⟨A, c, rfl, _⟩ := own_slice hu
    exact ⟨A, c, rfl, hT4, hTW.size, hu, hK4, hs4⟩
  · rintro e w' ⟨A, c, rfl, hP', W, w4, N, ⟨hsW, hu, hK4, hs4⟩, hN, hT4', hTw4⟩
    have hTall : Turns ([X.p] ++ [X.B.k, X.src]) w w' := hTw4.then hT4' fun g hg hlt => by have := (hN g hg).1; omega
    have hsub : ∀ g ∈ [X.p] ++ [X.B.k, X.src], g ∈ X.foot F := by
      intro g hg
      simp only [List.mem_append, List.mem_cons, List.not_mem_nil, or_false] at hg
      simp only [Job.foot, PS.foot, KS.foot, List.mem_append, List.mem_cons, List.not_mem_nil, or_false, Option.mem_toList]
      rcases hg with rfl | rfl | rfl <;> simp
    have hkeep : ∀ g, g < w.heap.size → g ≠ X.p → g ≠ X.B.k → g ≠ X.src → w'.heap[g]? = w.heap[g]? := by
      intro g hg h1 h2 h3
      refine hTall.block g hg ?_
      simp only [List.mem_append, List.mem_cons, List.not_mem_nil, or_false, not_or]
      exact ⟨h1, h2, h3⟩
    have hold : ∀ g, g ∉ N → g < w4.heap.size → w'.heap[g]? = w4.heap[g]? := fun g h1 h2 => hT4'.block g h2 h1
    have hNold : ∀ g, g < w.heap.size → g ∉ N := fun g hg hm => by have := (hN g hm).1; omega
    have hK' : KernOf w' X.B.k { X.K with used := F.took X } := hK4.same fun g hg => hold g (hNold g (h.kern.foot_lt g hg)) (hK4.foot_lt g hg)
    have hs' : Blk w' X.src 159 #[v'] := (hold _ (hNold _ h.src.lt) hs4.lt).trans hs4
    have hu' : w'.ownsRow W.heap.size 5 1 (.slice A n c) n (bytesC (F.inb.take n)) := ownsRow_same hu fun g hg => by
      have h1 := hu.lt g hg
      refine hold g ?_ h1.2
      intro hm
      have := (hN g hm).2
      omega
    have hbk : ∀ {t : TypeId} {cs : Array Value} {g : Nat}, Blk w g t cs → t ≠ 85 → t ≠ 142 → t ≠ 159 → w'.heap[g]? = w.heap[g]? := fun hg h1 h2 h3 =>
      hkeep _ hg.lt (Blk.ne_ hg h.proc.blk h1) (Blk.ne_ hg h.kern.blk h2) (Blk.ne_ hg h.src h3)
    have hrow : ∀ {n : Nat} {v : Value} {xs : List Value}, OffRow w 0 5 v n xs → OffRow w' 0 5 v n xs := fun hv => hv.same fun g hg =>
      hkeep g (hv.lt hg).2 (fun e => hv.blk_ne h.proc.blk (by decide) (e ▸ hg)) (fun e => hv.blk_ne h.kern.blk (by decide) (e ▸ hg)) (fun e => hv.blk_ne h.src (by decide) (e ▸ hg))
    have hinp : OffRow w' 0 5 v' (F.inb.drop n).length (bytesC (F.inb.drop n)) := by
      have h1 : OffRow w' 0 5 (.slice SA F.inb.length sc) F.inb.length (bytesC F.inb) := by rw [← hsv]; exact hrow h.inp
      have h2 := h1.cut hnl
      rw [hv'] at h2
      rw [List.length_drop, show bytesC (F.inb.drop n) = (bytesC F.inb).drop n by simp [bytesC, List.map_drop]]
      exact h2
    have hfoot : ∀ g ∈ X.foot (F.read X n v'), g ∈ X.foot F := by
      intro g hg
      simp only [Job.foot, List.mem_append, Option.mem_toList] at hg
      rcases hg with hg | (hg | hg) | hg
      · simp only [Job.foot, List.mem_append]; exact .inl hg
      · simp only [Job.foot, List.mem_append, Option.mem_toList]; exact .inr (.inl (.inl (hown g hg)))
      · simp only [Job.foot, List.mem_append, Option.mem_toList]; exact .inr (.inl (.inr hg))
      · simp only [Job.foot, List.mem_append, Option.mem_toList]; exact .inr (.inr hg)
    refine ⟨A, c, rfl, ?_, v', ?_, ⟨hTall.more hsub, fun g hg => .inl (hfoot g hg)⟩, hfoot⟩
    · refine ⟨hu'.1, hu'.2.imp id ?_⟩
      rintro ⟨g, cap, cur, h1, h2, h3⟩
      exact ⟨g, cap, cur, h1, Nat.le_trans hsW h2, h3⟩
    · exact {
        proc := hP', kern := hK', may := h.may, top := h.top, at_ := h.at_, log := h.log, sinks := h.sinks, thing := h.thing
        table := (hbk h.table (by decide) (by decide) (by decide)).trans h.table
        src := hs'
        inp := hinp
        sink := fun b => (hbk (h.sink b) (by decide) (by decide) (by decide)).trans (h.sink b)
        row := fun b => hrow (h.row b)
        rows := h.rows
        inrow := fun b g hg => h.inrow b g (hown g hg) }

set_option maxRecDepth 100000 in
set_option maxHeartbeats 2000000 in
/-- a read that is interrupted -/
theorem jobReadIntr (w : World) (X : Job) (F : Flow) (h : JobOf w X F) (hst : F.steps < 4611686018427387904) (most : Int) (hm1 : 1 ≤ most) (hf : (X.kF F).next.1 = 2) :
    Calls Tryz.prog 106 #[.pointer (some ⟨X.p, 0, none⟩), .int .i64 0, .int .i64 most] w fun e w' => ∃ A c, e = .returned (.tuple #[.slice A 0 c, .int .i64 9]) ∧
      JobOf w' X (F.failed X) ∧ Went X F (F.failed X) w w' := by
  have hS : ∀ g ∈ [X.B.k], g < w.heap.size := by
    intro g hg
    rw [List.mem_singleton] at hg
    subst hg
    exact h.kern.blk.lt
  have hoff : ∀ g ∈ X.B.foot X.p, g ∉ [X.B.k] := by
    intro g hg hm
    rw [List.mem_singleton] at hm
    subst hm
    exact h.proc.off h.kern.blk (by decide) (by decide) (by decide) hg
  refine (procRead_top w X.p (X.J F) h.proc h.may h.top h.at_ h.log hst (.int .i64 0) (.int .i64 most) rfl rfl 0 9 rfl [X.B.k] hS hoff
    (fun W _ _ w4 => w.heap.size ≤ W.heap.size ∧ KernOf w4 X.B.k { X.K with used := F.took X }) ?_).mono ?_
  · intro W hPW hTW
    have hpf : ∀ g ∈ X.K.foot X.B.k, g ∉ [X.p] := fun g hg hm => h.kern.off h.proc.blk (by decide) (by decide) ((List.mem_singleton.1 hm) ▸ hg)
    have hKW := h.kern.turns hTW hpf
    have hsW : Blk W X.src 159 #[F.sv] := (hTW.block _ h.src.lt (by rw [List.mem_singleton]; exact Blk.ne_ h.src h.proc.blk (by decide))).trans h.src
    have hTb : TableOf W X.B.tb X.B.k X.D := (hTW.block _ (Blk.lt h.table) (by rw [List.mem_singleton]; exact Blk.ne_ h.table h.proc.blk (by decide))).trans h.table
    refine (readSourceIntr W X.B.tb X.B.k (X.kF F) X.D hKW hTb 0 (by decide) X.src rfl F.sv hsW most hm1 hf).mono ?_
    rintro e w4 ⟨rfl, hK4, hT4⟩
    rw [Job.took] at hK4
    exact ⟨none, 0, rfl, hT4, hTW.size, hK4⟩
  · rintro e w' ⟨A, c, rfl, hP', W, w4, N, ⟨hsW, hK4⟩, hN, hT4', hTw4⟩
    have hTall : Turns ([X.p] ++ [X.B.k]) w w' := hTw4.then hT4' fun g hg hlt => by have := (hN g hg).1; omega
    have hsub : ∀ g ∈ [X.p] ++ [X.B.k], g ∈ X.foot F := by
      intro g hg
      simp only [List.mem_append, List.mem_cons, List.not_mem_nil, or_false] at hg
      simp only [Job.foot, PS.foot, KS.foot, List.mem_append, List.mem_cons, List.not_mem_nil, or_false, Option.mem_toList]
      rcases hg with rfl | rfl <;> simp
    have hkeep : ∀ g, g < w.heap.size → g ≠ X.p → g ≠ X.B.k → w'.heap[g]? = w.heap[g]? := by
      intro g hg h1 h2
      refine hTall.block g hg ?_
      simp only [List.mem_append, List.mem_cons, List.not_mem_nil, or_false, not_or]
      exact ⟨h1, h2⟩
    have hold : ∀ g, g ∉ N → g < w4.heap.size → w'.heap[g]? = w4.heap[g]? := fun g h1 h2 => hT4'.block g h2 h1
    have hNold : ∀ g, g < w.heap.size → g ∉ N := fun g hg hm => by have := (hN g hm).1; omega
    have hK' : KernOf w' X.B.k { X.K with used := F.took X } := hK4.same fun g hg => hold g (hNold g (h.kern.foot_lt g hg)) (hK4.foot_lt g hg)
    have hbk : ∀ {t : TypeId} {cs : Array Value} {g : Nat}, Blk w g t cs → t ≠ 85 → t ≠ 142 → w'.heap[g]? = w.heap[g]? := fun hg h1 h2 =>
      hkeep _ hg.lt (Blk.ne_ hg h.proc.blk h1) (Blk.ne_ hg h.kern.blk h2)
    have hrow : ∀ {n : Nat} {v : Value} {xs : List Value}, OffRow w 0 5 v n xs → OffRow w' 0 5 v n xs := fun hv => hv.same fun g hg =>
      hkeep g (hv.lt hg).2 (fun e => hv.blk_ne h.proc.blk (by decide) (e ▸ hg)) (fun e => hv.blk_ne h.kern.blk (by decide) (e ▸ hg))
    exact ⟨A, c, rfl, {
      proc := hP', kern := hK', may := h.may, top := h.top, at_ := h.at_, log := h.log, sinks := h.sinks, thing := h.thing
      table := (hbk h.table (by decide) (by decide)).trans h.table
      src := (hbk h.src (by decide) (by decide)).trans h.src
      inp := hrow h.inp
      sink := fun b => (hbk (h.sink b) (by decide) (by decide)).trans (h.sink b)
      row := fun b => hrow (h.row b)
      rows := h.rows
      inrow := h.inrow }, hTall.more hsub, fun g hg => .inl hg⟩

end Go.Proofs.YtffffjngodinnaaGreatDoor
end

section
namespace Go.Proofs.YtffffjngodinnaaGreatDoor
open Go.RowKit Go.Maps

set_option maxRecDepth 100000 in
set_option maxHeartbeats 2000000 in
/-- a source that fails -/
theorem readSourceIO (w : World) (b k : Nat) (K : KS) (D : Nat → Value) (hK : KernOf w k K) (h : TableOf w b k D) (i : Nat) (hi : i < 16) (p : Nat) (hD : D i = sourceV p) (v : Value) (hp : Blk w p 159 #[v]) (most : Int) (hm : 1 ≤ most) (hf : K.next.1 = 4) :
    Calls Tryz.prog 145 #[.pointer (some ⟨b, 0, none⟩), .int .i64 (i : Int), .int .i64 most] w fun e w' => e = .returned (.tuple #[.slice none 0 0, .int .i64 7]) ∧ KernOf w' k K.took ∧ Turns [k] w w' := by
  have hhas := kHas w b k D h (i : Int)
  rw [if_pos (by omega), Int.toNat_natCast, hD] at hhas
  have hk := h.kern
  unfold sourceV at hhas
  have hfa := fun W hW => kFault W k K hW
  rw [hf] at hfa
  go_enter Tryz.func145, Tryz.ntmps145
  go_wp2_with (first
    | (go_at_call 166; refine hhas.mono ?_; rintro e w1 ⟨rfl, rfl⟩)
    | (go_at_call 167; refine (hfa _ hK).mono ?_; rintro e w2 ⟨rfl, hK2, hT2⟩))
  go_returns
  exact ⟨rfl, hK2.alloc _, hT2.alloc _⟩

set_option maxRecDepth 100000 in
set_option maxHeartbeats 2000000 in
/-- a read that fails -/
theorem jobReadIO (w : World) (X : Job) (F : Flow) (h : JobOf w X F) (hst : F.steps < 4611686018427387904) (most : Int) (hm1 : 1 ≤ most) (hf : (X.kF F).next.1 = 4) :
    Calls Tryz.prog 106 #[.pointer (some ⟨X.p, 0, none⟩), .int .i64 0, .int .i64 most] w fun e w' => ∃ A c, e = .returned (.tuple #[.slice A 0 c, .int .i64 7]) ∧
      JobOf w' X (F.failed X) ∧ Went X F (F.failed X) w w' := by
  have hS : ∀ g ∈ [X.B.k], g < w.heap.size := by
    intro g hg
    rw [List.mem_singleton] at hg
    subst hg
    exact h.kern.blk.lt
  have hoff : ∀ g ∈ X.B.foot X.p, g ∉ [X.B.k] := by
    intro g hg hm
    rw [List.mem_singleton] at hm
    subst hm
    exact h.proc.off h.kern.blk (by decide) (by decide) (by decide) hg
  refine (procRead_top w X.p (X.J F) h.proc h.may h.top h.at_ h.log hst (.int .i64 0) (.int .i64 most) rfl rfl 0 7 rfl [X.B.k] hS hoff
    (fun W _ _ w4 => w.heap.size ≤ W.heap.size ∧ KernOf w4 X.B.k { X.K with used := F.took X }) ?_).mono ?_
  · intro W hPW hTW
    have hpf : ∀ g ∈ X.K.foot X.B.k, g ∉ [X.p] := fun g hg hm => h.kern.off h.proc.blk (by decide) (by decide) ((List.mem_singleton.1 hm) ▸ hg)
    have hKW := h.kern.turns hTW hpf
    have hsW : Blk W X.src 159 #[F.sv] := (hTW.block _ h.src.lt (by rw [List.mem_singleton]; exact Blk.ne_ h.src h.proc.blk (by decide))).trans h.src
    have hTb : TableOf W X.B.tb X.B.k X.D := (hTW.block _ (Blk.lt h.table) (by rw [List.mem_singleton]; exact Blk.ne_ h.table h.proc.blk (by decide))).trans h.table
    refine (readSourceIO W X.B.tb X.B.k (X.kF F) X.D hKW hTb 0 (by decide) X.src rfl F.sv hsW most hm1 hf).mono ?_
    rintro e w4 ⟨rfl, hK4, hT4⟩
    rw [Job.took] at hK4
    exact ⟨none, 0, rfl, hT4, hTW.size, hK4⟩
  · rintro e w' ⟨A, c, rfl, hP', W, w4, N, ⟨hsW, hK4⟩, hN, hT4', hTw4⟩
    have hTall : Turns ([X.p] ++ [X.B.k]) w w' := hTw4.then hT4' fun g hg hlt => by have := (hN g hg).1; omega
    have hsub : ∀ g ∈ [X.p] ++ [X.B.k], g ∈ X.foot F := by
      intro g hg
      simp only [List.mem_append, List.mem_cons, List.not_mem_nil, or_false] at hg
      simp only [Job.foot, PS.foot, KS.foot, List.mem_append, List.mem_cons, List.not_mem_nil, or_false, Option.mem_toList]
      rcases hg with rfl | rfl <;> simp
    have hkeep : ∀ g, g < w.heap.size → g ≠ X.p → g ≠ X.B.k → w'.heap[g]? = w.heap[g]? := by
      intro g hg h1 h2
      refine hTall.block g hg ?_
      simp only [List.mem_append, List.mem_cons, List.not_mem_nil, or_false, not_or]
      exact ⟨h1, h2⟩
    have hold : ∀ g, g ∉ N → g < w4.heap.size → w'.heap[g]? = w4.heap[g]? := fun g h1 h2 => hT4'.block g h2 h1
    have hNold : ∀ g, g < w.heap.size → g ∉ N := fun g hg hm => by have := (hN g hm).1; omega
    have hK' : KernOf w' X.B.k { X.K with used := F.took X } := hK4.same fun g hg => hold g (hNold g (h.kern.foot_lt g hg)) (hK4.foot_lt g hg)
    have hbk : ∀ {t : TypeId} {cs : Array Value} {g : Nat}, Blk w g t cs → t ≠ 85 → t ≠ 142 → w'.heap[g]? = w.heap[g]? := fun hg h1 h2 =>
      hkeep _ hg.lt (Blk.ne_ hg h.proc.blk h1) (Blk.ne_ hg h.kern.blk h2)
    have hrow : ∀ {n : Nat} {v : Value} {xs : List Value}, OffRow w 0 5 v n xs → OffRow w' 0 5 v n xs := fun hv => hv.same fun g hg =>
      hkeep g (hv.lt hg).2 (fun e => hv.blk_ne h.proc.blk (by decide) (e ▸ hg)) (fun e => hv.blk_ne h.kern.blk (by decide) (e ▸ hg))
    exact ⟨A, c, rfl, {
      proc := hP', kern := hK', may := h.may, top := h.top, at_ := h.at_, log := h.log, sinks := h.sinks, thing := h.thing
      table := (hbk h.table (by decide) (by decide)).trans h.table
      src := (hbk h.src (by decide) (by decide)).trans h.src
      inp := hrow h.inp
      sink := fun b => (hbk (h.sink b) (by decide) (by decide)).trans (h.sink b)
      row := fun b => hrow (h.row b)
      rows := h.rows
      inrow := h.inrow }, hTall.more hsub, fun g hg => .inl hg⟩

namespace PF
/-- what was read is written -/
def copy2 (fl : List (Int × Int)) : PF × Option (List UInt8) → PF × Int
  | (s', none) => (s', 1)
  | (s', some b) => all fl (s'.left fl + b.length + 1) s' true b
/-- at most so many bytes are copied -/
def copies (fl : List (Int × Int)) (s : PF) (m : Nat) : PF × Int := copy2 fl (reads fl (s.left fl + 1) s m)
end PF

/-- how copies stands ahead of a round -/
structure CopySt (X : Job) (F0 : Flow) (w0 : World) (m : Nat) (R : PF × Option (List UInt8)) (F : Flow) (w : World) : Prop where
  job : JobOf w X F
  went : Went X F0 F w0 w
  ends : ∃ f, F.pl.left X.K.fl < f ∧ PF.reads X.K.fl f F.pl m = R
  steps : F.steps + F.pl.left X.K.fl + F.inb.length + 2 < 4611686018427387904
  said : (F.said true).length + F.inb.length ≤ 140737488355000

section
variable {X : Job} {F0 F : Flow} {w0 w w' : World} {m : Nat} {R : PF × Option (List UInt8)}
theorem CopySt.intr (h : CopySt X F0 w0 m R F w) (he : (F.pl.next X.K.fl).1 = 2) (hJ : JobOf w' X (F.failed X)) (hW : Went X F (F.failed X) w w') : CopySt X F0 w0 m R (F.failed X) w' ∧ (F.failed X).pl.left X.K.fl < F.pl.left X.K.fl := by
  have ht := PF.took_lt (fl := X.K.fl) (s := F.pl) (.inr he) h.job.used_le
  have hl : (F.failed X).pl.left X.K.fl = F.pl.left X.K.fl - 1 ∧ 0 < F.pl.left X.K.fl := by
    have e : (F.failed X).pl.used = F.pl.used + 1 := ht.1
    unfold PF.left
    rw [e]
    omega
  refine ⟨⟨hJ, h.went.trans hW, ?_, ?_, h.said⟩, by omega⟩
  · obtain ⟨f, hf, hR⟩ := h.ends
    cases f with
    | zero => omega
    | succ f =>
      refine ⟨f, by omega, ?_⟩
      rw [← hR, PF.reads, if_pos he]
      rfl
  · have e : (F.failed X).steps = F.steps + 1 := rfl
    have e2 : (F.failed X).inb = F.inb := rfl
    have := h.steps
    rw [e, e2]
    omega
theorem CopySt.fails (h : CopySt X F0 w0 m R F w) (he : (F.pl.next X.K.fl).1 = 4) : R = ((F.failed X).pl, none) := by
  obtain ⟨f, hf, hR⟩ := h.ends
  cases f with
  | zero => omega
  | succ f => rw [← hR, PF.reads, if_neg (by rw [he]; decide), if_pos he]; rfl
theorem CopySt.reads (h : CopySt X F0 w0 m R F w) (h2 : (F.pl.next X.K.fl).1 ≠ 2) (h4 : (F.pl.next X.K.fl).1 ≠ 4) {n : Nat} (hn : n = F.pl.some_ X.K.fl (min m F.inb.length)) (v : Value) : R = ((F.read X n v).pl, some (F.inb.take n)) := by
  obtain ⟨f, hf, hR⟩ := h.ends
  cases f with
  | zero => omega
  | succ f => rw [← hR, PF.reads, if_neg h2, if_neg h4, hn]; rfl
end

theorem PF.left_took {fl : List (Int × Int)} {s : PF} (n : Nat) (hu : s.used ≤ fl.length) : (s.read fl n).left fl ≤ s.left fl := by
  have := took_le (fl := fl) (s := s) hu
  show fl.length - s.took fl ≤ fl.length - s.used
  omega

set_option maxRecDepth 100000 in
set_option maxHeartbeats 2000000 in
theorem copies_lo (w : World) (X : Job) (F : Flow) (h : JobOf w X F) (k a : Int) (bv : Value) (hle : a ≤ 1) (ha : -9223372036854775808 ≤ a ∧ a ≤ 9223372036854775807)
    (hst : F.steps + F.pl.left X.K.fl + F.inb.length + 2 < 4611686018427387904) (hl : (F.said true).length + F.inb.length ≤ 140737488355000) :
    Calls Tryz.prog 69 #[.pointer (some ⟨X.p, 0, none⟩), .agg #[.int .i64 k, .int .i64 a, bv]] w fun e w' => e = .returned (.int .i64 (PF.copies X.K.fl F.pl (max 1 a).toNat).2) ∧ ∃ F', F'.pl = (PF.copies X.K.fl F.pl (max 1 a).toNat).1 ∧ JobOf w' X F' ∧ Went X F F' w w' := by
  obtain ⟨m, hm⟩ : ∃ m, (max 1 a).toNat = m := ⟨_, rfl⟩
  have hm1 : (1 : Int) ≤ (1 : Int) := by omega
  have hmm : (m : Int) = (1 : Int) := by omega
  rw [hm]
  obtain ⟨R, hR⟩ : ∃ R, PF.reads X.K.fl (F.pl.left X.K.fl + 1) F.pl m = R := ⟨_, rfl⟩
  have H0 : Hid (CopySt X F w m R F w) := Lib.hid ⟨h, Went.refl _ _ _, ⟨_, Nat.lt_succ_self _, hR⟩, hst, hl⟩
  have hco : PF.copies X.K.fl F.pl m = PF.copy2 X.K.fl R := by unfold PF.copies; rw [hR]
  obtain ⟨Z, hZ⟩ : ∃ Z, PF.copies X.K.fl F.pl m = Z := ⟨_, rfl⟩
  rw [hZ] at hco ⊢
  have HCO := Lib.hid hco
  have ha2 := ha.2
  have hmi2 : (1 : Int) ≤ 9223372036854775807 := by omega
  clear hco hZ hR h hst hl hm ha ha2
  go_enter Tryz.func69, Tryz.ntmps69
  go_wp2_with fail
  obtain ⟨g, hg⟩ : ∃ g, w.heap.size = g := ⟨_, rfl⟩
  obtain ⟨W, hW⟩ : ∃ W, w.alloc (.cells #[.int .i64 k, .int .i64 a, bv] 34) = W := ⟨_, rfl⟩
  have bW : Below w.heap.size w W := by rw [← hW]; exact below_one w _
  have kb : Blk W g 34 #[.int .i64 k, .int .i64 a, bv] := by rw [← hW, ← hg]; exact Blk.new w _ _
  have H1 : Hid (CopySt X F w m R F W ∧ Blk W g 34 #[.int .i64 k, .int .i64 a, bv] ∧ g ∉ X.foot F) := Lib.hid ⟨⟨H0.out.job.below bW, .of_below X F bW, H0.out.ends, H0.out.steps, H0.out.said⟩, kb, fun hm => by have := H0.out.job.foot_lt g hm; omega⟩
  rw [hW, hg]
  clear H0 hW bW kb hg
  go_loopg [] (F.pl.left X.K.fl) (fun q wr => ∃ F', q = F'.pl.left X.K.fl ∧ Hid (CopySt X F w m R F' wr ∧ Blk wr g 34 #[.int .i64 k, .int .i64 a, bv] ∧ g ∉ X.foot F'))
  case atStart => exact ⟨F, rfl, H1⟩
  case round =>
    obtain ⟨F', rfl, HS⟩ := hrel
    have c1 : wr.cell? ⟨g, 1, none⟩ = some (.int .i64 a) := HS.out.2.1.cell 1
    have hsz := HS.out.1.steps
    have hsl := HS.out.1.said
    by_cases h2 : (F'.pl.next X.K.fl).1 = 2
    · have hrd := jobReadIntr wr X F' HS.out.1.job (by omega) (1 : Int) hm1 h2
      have HNX := Lib.hid (fun w' => HS.out.1.intr h2 (w' := w'))
      clear hsz hsl h2
      go_wp2_with (go_at_call 106; refine hrd.mono ?_; rintro e w1 ⟨A, c, rfl, hJ1, hW1⟩)
      obtain ⟨h1, h3⟩ := HNX.out w1 hJ1 hW1
      go_roundg ((F'.failed X).pl.left X.K.fl)
      case rel => exact ⟨_, rfl, Lib.hid ⟨h1, (hW1.away HS.out.2.1.lt HS.out.2.2).1.trans HS.out.2.1, (hW1.away HS.out.2.1.lt HS.out.2.2).2⟩⟩
      case measure => omega
    · by_cases h4 : (F'.pl.next X.K.fl).1 = 4
      · have hrd := jobReadIO wr X F' HS.out.1.job (by omega) (1 : Int) hm1 h4
        have hR := HS.out.1.fails h4
        clear hsz hsl h2 h4
        go_wp2_with (go_at_call 106; refine hrd.mono ?_; rintro e w1 ⟨A, c, rfl, hJ1, hW1⟩)
        go_returns
        rw [HCO.out, hR]
        exact ⟨rfl, F'.failed X, rfl, hJ1, HS.out.1.went.trans hW1⟩
      · obtain ⟨n, hn⟩ : ∃ n, F'.pl.some_ X.K.fl (min m F'.inb.length) = n := ⟨_, rfl⟩
        have hnl := PF.some_le (fl := X.K.fl) (s := F'.pl) (min m F'.inb.length)
        rw [hn] at hnl
        have hrd := jobRead wr X F' HS.out.1.job (by omega) (1 : Int) hm1 hmi2 (by omega) h2 h4 n (by
          rw [← hn, show min (1 : Int) (F'.inb.length : Int) = ((min m F'.inb.length : Nat) : Int) by omega]
          exact PF.some_eq (fl := X.K.fl) (s := F'.pl) _)
        have hR := fun v => HS.out.1.reads h2 h4 hn.symm v
        have hul := HS.out.1.job.used_le
        have HU := Lib.hid hul
        have HSZ := Lib.hid hsz
        have HSL := Lib.hid hsl
        have HR := Lib.hid hR
        clear h2 h4 hn hR hul hsz hsl
        have hal : ∀ w1 A c v, w1.ownsRow wr.heap.size 5 1 (.slice A n c) n (bytesC (F'.inb.take n)) → JobOf w1 X (F'.read X n v) → (∀ g ∈ X.foot (F'.read X n v), g ∈ X.foot F') → n ≤ c → Calls Tryz.prog 71 #[.pointer (some ⟨X.p, 0, none⟩), .int .i64 1, .slice A n c] w1 fun e w' => e = .returned (.int .i64 Z.2) ∧ ∃ F2, F2.pl = Z.1 ∧ JobOf w' X F2 ∧ Went X (F'.read X n v) F2 w1 w' := by
          intro w1 A c v hown hJ1 hft hnc
          have htl : (F'.inb.take n).length = n := by rw [List.length_take]; omega
          obtain ⟨_, _, e, _, _, hrr⟩ := own_slice hown
          cases e
          have hlf := PF.left_took (fl := X.K.fl) (s := F'.pl) n HU.out
          have hst2 := HSZ.out
          have hsl2 := HSL.out
          have hq := all_any w1 X (F'.read X n v) hJ1 true A c (F'.inb.take n) (by rw [htl]; exact hrr) (fun ad hA hm => by
            subst hA
            have h1 := HS.out.1.job.foot_lt _ (hft _ hm)
            have h2 := (hown.lt ad.block rfl).1
            omega) (by rw [htl]; exact hnc) (by
              rw [htl]
              show F'.steps + 1 + (F'.pl.read X.K.fl n).left X.K.fl + n < _
              omega) (by
              rw [htl]
              show (F'.said true).length + n ≤ _
              omega) ((F'.read X n v).pl.left X.K.fl + (F'.inb.take n).length + 1) (Nat.lt_succ_self _) Z (by rw [HCO.out, HR.out v]; rfl)
          rwa [htl] at hq
        have HAL := Lib.hid hal
        clear hal
        go_wp2_with (first
          | (go_at_call 106; refine hrd.mono ?_; rintro e w1 ⟨A, c, rfl, hown, v, hJ1, hW1, hft⟩)
          | (go_at_call 71; refine (HAL.out w1 A c v hown hJ1 hft (by obtain ⟨_, _, e, hcc, _⟩ := own_slice hown; cases e; exact hcc)).mono ?_; rintro e w2 ⟨rfl, F2, hF2, hJ2, hW2⟩))
        go_returns
        exact ⟨rfl, F2, hF2, hJ2, (HS.out.1.went.trans hW1).trans hW2⟩

set_option maxRecDepth 100000 in
set_option maxHeartbeats 2000000 in
theorem copies_hi (w : World) (X : Job) (F : Flow) (h : JobOf w X F) (k a : Int) (bv : Value) (hle : ¬ a ≤ 1) (ha : -9223372036854775808 ≤ a ∧ a ≤ 9223372036854775807)
    (hst : F.steps + F.pl.left X.K.fl + F.inb.length + 2 < 4611686018427387904) (hl : (F.said true).length + F.inb.length ≤ 140737488355000) :
    Calls Tryz.prog 69 #[.pointer (some ⟨X.p, 0, none⟩), .agg #[.int .i64 k, .int .i64 a, bv]] w fun e w' => e = .returned (.int .i64 (PF.copies X.K.fl F.pl (max 1 a).toNat).2) ∧ ∃ F', F'.pl = (PF.copies X.K.fl F.pl (max 1 a).toNat).1 ∧ JobOf w' X F' ∧ Went X F F' w w' := by
  obtain ⟨m, hm⟩ : ∃ m, (max 1 a).toNat = m := ⟨_, rfl⟩
  have hm1 : (1 : Int) ≤ a := by omega
  have hmm : (m : Int) = a := by omega
  rw [hm]
  obtain ⟨R, hR⟩ : ∃ R, PF.reads X.K.fl (F.pl.left X.K.fl + 1) F.pl m = R := ⟨_, rfl⟩
  have H0 : Hid (CopySt X F w m R F w) := Lib.hid ⟨h, Went.refl _ _ _, ⟨_, Nat.lt_succ_self _, hR⟩, hst, hl⟩
  have hco : PF.copies X.K.fl F.pl m = PF.copy2 X.K.fl R := by unfold PF.copies; rw [hR]
  obtain ⟨Z, hZ⟩ : ∃ Z, PF.copies X.K.fl F.pl m = Z := ⟨_, rfl⟩
  rw [hZ] at hco ⊢
  have HCO := Lib.hid hco
  have ha2 := ha.2
  have hmi2 : a ≤ 9223372036854775807 := by omega
  clear hco hZ hR h hst hl hm ha ha2
  go_enter Tryz.func69, Tryz.ntmps69
  go_wp2_with fail
  obtain ⟨g, hg⟩ : ∃ g, w.heap.size = g := ⟨_, rfl⟩
  obtain ⟨W, hW⟩ : ∃ W, w.alloc (.cells #[.int .i64 k, .int .i64 a, bv] 34) = W := ⟨_, rfl⟩
  have bW : Below w.heap.size w W := by rw [← hW]; exact below_one w _
  have kb : Blk W g 34 #[.int .i64 k, .int .i64 a, bv] := by rw [← hW, ← hg]; exact Blk.new w _ _
  have H1 : Hid (CopySt X F w m R F W ∧ Blk W g 34 #[.int .i64 k, .int .i64 a, bv] ∧ g ∉ X.foot F) := Lib.hid ⟨⟨H0.out.job.below bW, .of_below X F bW, H0.out.ends, H0.out.steps, H0.out.said⟩, kb, fun hm => by have := H0.out.job.foot_lt g hm; omega⟩
  rw [hW, hg]
  clear H0 hW bW kb hg
  go_loopg [] (F.pl.left X.K.fl) (fun q wr => ∃ F', q = F'.pl.left X.K.fl ∧ Hid (CopySt X F w m R F' wr ∧ Blk wr g 34 #[.int .i64 k, .int .i64 a, bv] ∧ g ∉ X.foot F'))
  case atStart => exact ⟨F, rfl, H1⟩
  case round =>
    obtain ⟨F', rfl, HS⟩ := hrel
    have c1 : wr.cell? ⟨g, 1, none⟩ = some (.int .i64 a) := HS.out.2.1.cell 1
    have hsz := HS.out.1.steps
    have hsl := HS.out.1.said
    by_cases h2 : (F'.pl.next X.K.fl).1 = 2
    · have hrd := jobReadIntr wr X F' HS.out.1.job (by omega) a hm1 h2
      have HNX := Lib.hid (fun w' => HS.out.1.intr h2 (w' := w'))
      clear hsz hsl h2
      go_wp2_with (go_at_call 106; refine hrd.mono ?_; rintro e w1 ⟨A, c, rfl, hJ1, hW1⟩)
      obtain ⟨h1, h3⟩ := HNX.out w1 hJ1 hW1
      go_roundg ((F'.failed X).pl.left X.K.fl)
      case rel => exact ⟨_, rfl, Lib.hid ⟨h1, (hW1.away HS.out.2.1.lt HS.out.2.2).1.trans HS.out.2.1, (hW1.away HS.out.2.1.lt HS.out.2.2).2⟩⟩
      case measure => omega
    · by_cases h4 : (F'.pl.next X.K.fl).1 = 4
      · have hrd := jobReadIO wr X F' HS.out.1.job (by omega) a hm1 h4
        have hR := HS.out.1.fails h4
        clear hsz hsl h2 h4
        go_wp2_with (go_at_call 106; refine hrd.mono ?_; rintro e w1 ⟨A, c, rfl, hJ1, hW1⟩)
        go_returns
        rw [HCO.out, hR]
        exact ⟨rfl, F'.failed X, rfl, hJ1, HS.out.1.went.trans hW1⟩
      · obtain ⟨n, hn⟩ : ∃ n, F'.pl.some_ X.K.fl (min m F'.inb.length) = n := ⟨_, rfl⟩
        have hnl := PF.some_le (fl := X.K.fl) (s := F'.pl) (min m F'.inb.length)
        rw [hn] at hnl
        have hrd := jobRead wr X F' HS.out.1.job (by omega) a hm1 hmi2 (by omega) h2 h4 n (by
          rw [← hn, show min a (F'.inb.length : Int) = ((min m F'.inb.length : Nat) : Int) by omega]
          exact PF.some_eq (fl := X.K.fl) (s := F'.pl) _)
        have hR := fun v => HS.out.1.reads h2 h4 hn.symm v
        have hul := HS.out.1.job.used_le
        have HU := Lib.hid hul
        have HSZ := Lib.hid hsz
        have HSL := Lib.hid hsl
        have HR := Lib.hid hR
        clear h2 h4 hn hR hul hsz hsl
        have hal : ∀ w1 A c v, w1.ownsRow wr.heap.size 5 1 (.slice A n c) n (bytesC (F'.inb.take n)) → JobOf w1 X (F'.read X n v) → (∀ g ∈ X.foot (F'.read X n v), g ∈ X.foot F') → n ≤ c → Calls Tryz.prog 71 #[.pointer (some ⟨X.p, 0, none⟩), .int .i64 1, .slice A n c] w1 fun e w' => e = .returned (.int .i64 Z.2) ∧ ∃ F2, F2.pl = Z.1 ∧ JobOf w' X F2 ∧ Went X (F'.read X n v) F2 w1 w' := by
          intro w1 A c v hown hJ1 hft hnc
          have htl : (F'.inb.take n).length = n := by rw [List.length_take]; omega
          obtain ⟨_, _, e, _, _, hrr⟩ := own_slice hown
          cases e
          have hlf := PF.left_took (fl := X.K.fl) (s := F'.pl) n HU.out
          have hst2 := HSZ.out
          have hsl2 := HSL.out
          have hq := all_any w1 X (F'.read X n v) hJ1 true A c (F'.inb.take n) (by rw [htl]; exact hrr) (fun ad hA hm => by
            subst hA
            have h1 := HS.out.1.job.foot_lt _ (hft _ hm)
            have h2 := (hown.lt ad.block rfl).1
            omega) (by rw [htl]; exact hnc) (by
              rw [htl]
              show F'.steps + 1 + (F'.pl.read X.K.fl n).left X.K.fl + n < _
              omega) (by
              rw [htl]
              show (F'.said true).length + n ≤ _
              omega) ((F'.read X n v).pl.left X.K.fl + (F'.inb.take n).length + 1) (Nat.lt_succ_self _) Z (by rw [HCO.out, HR.out v]; rfl)
          rwa [htl] at hq
        have HAL := Lib.hid hal
        clear hal
        go_wp2_with (first
          | (go_at_call 106; refine hrd.mono ?_; rintro e w1 ⟨A, c, rfl, hown, v, hJ1, hW1, hft⟩)
          | (go_at_call 71; refine (HAL.out w1 A c v hown hJ1 hft (by obtain ⟨_, _, e, hcc, _⟩ := own_slice hown; cases e; exact hcc)).mono ?_; rintro e w2 ⟨rfl, F2, hF2, hJ2, hW2⟩))
        go_returns
        exact ⟨rfl, F2, hF2, hJ2, (HS.out.1.went.trans hW1).trans hW2⟩

theorem copies_any (w : World) (X : Job) (F : Flow) (h : JobOf w X F) (k a : Int) (bv : Value) (ha : -9223372036854775808 ≤ a ∧ a ≤ 9223372036854775807)
    (hst : F.steps + F.pl.left X.K.fl + F.inb.length + 2 < 4611686018427387904) (hl : (F.said true).length + F.inb.length ≤ 140737488355000) :
    Calls Tryz.prog 69 #[.pointer (some ⟨X.p, 0, none⟩), .agg #[.int .i64 k, .int .i64 a, bv]] w fun e w' => e = .returned (.int .i64 (PF.copies X.K.fl F.pl (max 1 a).toNat).2) ∧ ∃ F', F'.pl = (PF.copies X.K.fl F.pl (max 1 a).toNat).1 ∧ JobOf w' X F' ∧ Went X F F' w w' := by
  by_cases hle : a ≤ 1
  · exact copies_lo w X F h k a bv hle ha hst hl
  · exact copies_hi w X F h k a bv hle ha hst hl

end Go.Proofs.YtffffjngodinnaaGreatDoor
end
