/-
  Parts of the proof.
-/
import Derived.Test.YtffffjngodinnaaGreatDoorV13
import Derived.Test.YtffffjngodinnaaGreatDoorV14
import Derived.Shelf.Abstract
namespace Go.Proofs.YtffffjngodinnaaGreatDoor
section
set_option maxRecDepth 100000
open Go.RowKit Go.Maps
def Flow.read (F : Flow) (X : Job) (n : Nat) (v : Value) : Flow := { F with steps := F.steps + 1, sv := v, inb := F.inb.drop n, used := F.took X }
set_option maxHeartbeats 2000000 in
theorem jobRead (w : World) (X : Job) (F : Flow) (h : JobOf w X F) (hst : F.steps < 4611686018427387904) (most : Int) (hm1 : 1 <= most) (hm2 : most <= 9223372036854775807) (hl : F.inb.length <= 140737488355328)
 (hf : (X.kF F).next.1 ≠ 2) (hf4 : (X.kF F).next.1 ≠ 4) (n : Nat) (hn : shortN (min most (F.inb.length : Int)) (X.kF F).next = (n : Int)) :
 Calls Tryz.prog 106 #[.pointer (some ⟨X.p, 0, none⟩), .int .i64 0, .int .i64 most] w fun e w' => ∃ A c, e = .returned (.tuple #[.slice A n c, .int .i64 0]) /\
  w'.ownsRow w.heap.size 5 1 (.slice A n c) n (bytesC (F.inb.take n)) /\ ∃ v, JobOf w' X (F.read X n v) /\ Went X F (F.read X n v) w w' /\ (∀ g ∈ X.foot (F.read X n v), g ∈ X.foot F) := by
 have hnl : n <= F.inb.length := by
  have := (shortN_le (m := min most (F.inb.length : Int)) (f := (X.kF F).next) (by omega)).2
  omega
 obtain ⟨SA, sc, hsv, hsc, hsr⟩ := h.inp.form
 have hS : ∀ g ∈ [X.B.k, X.src], g < w.heap.size := by
  intro g hg
  simp only [List.mem_cons, List.not_mem_nil, or_false] at hg
  rcases hg with rfl | rfl
  · exact h.kern.blk.lt
  · exact h.src.lt
 have hoff : ∀ g ∈ X.B.foot X.p, g ∉ [X.B.k, X.src] := by
  intro g hg hm
  have hp : g ∈ (X.J F).foot X.p := hg
  simp only [List.mem_cons, List.not_mem_nil, or_false] at hm
  rcases hm with rfl | rfl
  · exact h.proc.off h.kern.blk (by decide) (by decide) (by decide) hp
  · exact h.proc.off h.src (by decide) (by decide) (by decide) hp
 obtain ⟨v', hv'⟩ : ∃ v', Value.slice (cutA SA sc n 1) (F.inb.length - n) (sc - n) = v' := ⟨_, rfl⟩
 have hown : ∀ g, v'.ownBlock = some g -> F.sv.ownBlock = some g := by
  intro g hg
  rw [hsv]
  rw [<- hv'] at hg
  cases SA with
  | none => simp [cutA, Value.ownBlock] at hg
  | some ad =>
    by_cases hc : sc = n
    · simpa [cutA, hc, Value.ownBlock] using hg
    · have e1 : (ad.add n).block = ad.block := by unfold Addr.add; split <;> rfl
      simpa [cutA, hc, Value.ownBlock, e1] using hg
 refine (procRead_top w X.p (X.J F) h.proc h.may h.top h.at_ h.log hst (.int .i64 0) (.int .i64 most) rfl rfl n 0 rfl [X.B.k, X.src] hS hoff
  (fun W A c w4 => w.heap.size <= W.heap.size /\ w4.ownsRow W.heap.size 5 1 (.slice A n c) n (bytesC (F.inb.take n)) /\ KernOf w4 X.B.k { X.K with used := F.took X } /\ Blk w4 X.src 159 #[v']) ?_).mono ?_
 · intro W hPW hTW
   have hpf : ∀ g ∈ X.K.foot X.B.k, g ∉ [X.p] := fun g hg hm => h.kern.off h.proc.blk (by decide) (by decide) ((List.mem_singleton.1 hm) ▸ hg)
   have hKW := h.kern.turns hTW hpf
   have hTb : TableOf W X.B.tb X.B.k X.D := (hTW.block _ (Blk.lt h.table) (by rw [List.mem_singleton]; exact Blk.ne_ h.table h.proc.blk (by decide))).trans h.table
   have hsW : Blk W X.src 159 #[.slice SA F.inb.length sc] := by rw [<- hsv]; exact (hTW.block _ h.src.lt (by rw [List.mem_singleton]; exact Blk.ne_ h.src h.proc.blk (by decide))).trans h.src
   have hrW : OffRow W 0 5 (.slice SA F.inb.length sc) F.inb.length (bytesC F.inb) := by
    rw [<- hsv]
    exact h.inp.same fun g hg => hTW.block g (h.inp.lt hg).2 (by rw [List.mem_singleton]; rintro rfl; exact h.inp.blk_ne h.proc.blk (by decide) hg)
   refine (readSource W X.B.tb X.B.k (X.kF F) X.D hKW hTb 0 (by decide) X.src rfl 0 SA sc F.inb hsW hrW most hm1 hm2 hf hf4 hl n hn).mono ?_
   rintro e w4 ⟨u, rfl, hu, hK4, hs4, hT4⟩
   rw [Job.took] at hK4
   rw [hv'] at hs4
   obtain ⟨A, c, rfl, _⟩ := own_slice hu
   exact ⟨A, c, rfl, hT4, hTW.size, hu, hK4, hs4⟩
 · rintro e w' ⟨A, c, rfl, hP', W, w4, N, ⟨hsW, hu, hK4, hs4⟩, hN, hT4', hTw4⟩
   have hTall : Turns ([X.p] ++ [X.B.k, X.src]) w w' := hTw4.then hT4' fun g hg hlt => by have := (hN g hg).1; omega
   have hsub : ∀ g ∈ [X.p] ++ [X.B.k, X.src], g ∈ X.foot F := by
    intro g hg
    simp only [List.mem_append, List.mem_cons, List.not_mem_nil, or_false] at hg
    simp only [Job.foot, PS.foot, KS.foot, List.mem_append, List.mem_cons, List.not_mem_nil, or_false, Option.mem_toList]
    rcases hg with rfl | rfl | rfl <;> simp
   have hkeep : ∀ g, g < w.heap.size -> g ≠ X.p -> g ≠ X.B.k -> g ≠ X.src -> w'.heap[g]? = w.heap[g]? := by
    intro g hg h1 h2 h3
    refine hTall.block g hg ?_
    simp only [List.mem_append, List.mem_cons, List.not_mem_nil, or_false, not_or]
    exact ⟨h1, h2, h3⟩
   have hold : ∀ g, g ∉ N -> g < w4.heap.size -> w'.heap[g]? = w4.heap[g]? := fun g h1 h2 => hT4'.block g h2 h1
   have hNold : ∀ g, g < w.heap.size -> g ∉ N := fun g hg hm => by have := (hN g hm).1; omega
   have hK' : KernOf w' X.B.k { X.K with used := F.took X } := hK4.same fun g hg => hold g (hNold g (h.kern.foot_lt g hg)) (hK4.foot_lt g hg)
   have hs' : Blk w' X.src 159 #[v'] := (hold _ (hNold _ h.src.lt) hs4.lt).trans hs4
   have hu' : w'.ownsRow W.heap.size 5 1 (.slice A n c) n (bytesC (F.inb.take n)) := ownsRow_same hu fun g hg => by
    have h1 := hu.lt g hg
    refine hold g ?_ h1.2
    intro hm
    have := (hN g hm).2
    omega
   have hbk : ∀ {t : TypeId} {cs : Array Value} {g : Nat}, Blk w g t cs -> t ≠ 85 -> t ≠ 142 -> t ≠ 159 -> w'.heap[g]? = w.heap[g]? := fun hg h1 h2 h3 =>
    hkeep _ hg.lt (Blk.ne_ hg h.proc.blk h1) (Blk.ne_ hg h.kern.blk h2) (Blk.ne_ hg h.src h3)
   have hrow : ∀ {n : Nat} {v : Value} {xs : List Value}, OffRow w 0 5 v n xs -> OffRow w' 0 5 v n xs := fun hv => hv.same fun g hg =>
    hkeep g (hv.lt hg).2 (fun e => hv.blk_ne h.proc.blk (by decide) (e ▸ hg)) (fun e => hv.blk_ne h.kern.blk (by decide) (e ▸ hg)) (fun e => hv.blk_ne h.src (by decide) (e ▸ hg))
   have hinp : OffRow w' 0 5 v' (F.inb.drop n).length (bytesC (F.inb.drop n)) := by
    have h1 : OffRow w' 0 5 (.slice SA F.inb.length sc) F.inb.length (bytesC F.inb) := by rw [<- hsv]; exact hrow h.inp
    have h2 := h1.cut hnl
    rw [hv'] at h2
    rw [List.length_drop, show bytesC (F.inb.drop n) = (bytesC F.inb).drop n by simp [bytesC, List.map_drop]]
    exact h2
   have hfoot : ∀ g ∈ X.foot (F.read X n v'), g ∈ X.foot F := by
    intro g hg
    simp only [Job.foot, List.mem_append, Option.mem_toList] at hg
    rcases hg with hg | (hg | hg) | hg
    · simp only [Job.foot, List.mem_append]; exact .inl hg
    · simp only [Job.foot, List.mem_append, Option.mem_toList]; exact .inr (.inl (.inl (hown g hg)))
    · simp only [Job.foot, List.mem_append, Option.mem_toList]; exact .inr (.inl (.inr hg))
    · simp only [Job.foot, List.mem_append, Option.mem_toList]; exact .inr (.inr hg)
   refine ⟨A, c, rfl, ?_, v', ?_, ⟨hTall.more hsub, fun g hg => .inl (hfoot g hg)⟩, hfoot⟩
   · refine ⟨hu'.1, hu'.2.imp id ?_⟩
     rintro ⟨g, cap, cur, h1, h2, h3⟩
     exact ⟨g, cap, cur, h1, Nat.le_trans hsW h2, h3⟩
   · exact {
      proc := hP', kern := hK', may := h.may, top := h.top, at_ := h.at_, log := h.log, sinks := h.sinks, thing := h.thing
      table := (hbk h.table (by decide) (by decide) (by decide)).trans h.table
      src := hs'
      inp := hinp
      sink := fun b => (hbk (h.sink b) (by decide) (by decide) (by decide)).trans (h.sink b)
      row := fun b => hrow (h.row b)
      rows := h.rows
      inrow := fun b g hg => h.inrow b g (hown g hg) }
set_option maxHeartbeats 2000000 in
theorem jobReadIntr (w : World) (X : Job) (F : Flow) (h : JobOf w X F) (hst : F.steps < 4611686018427387904) (most : Int) (hm1 : 1 <= most) (hf : (X.kF F).next.1 = 2) :
 Calls Tryz.prog 106 #[.pointer (some ⟨X.p, 0, none⟩), .int .i64 0, .int .i64 most] w fun e w' => ∃ A c, e = .returned (.tuple #[.slice A 0 c, .int .i64 9]) /\
  JobOf w' X (F.failed X) /\ Went X F (F.failed X) w w' := by
 have hS : ∀ g ∈ [X.B.k], g < w.heap.size := by
  intro g hg
  rw [List.mem_singleton] at hg
  subst hg
  exact h.kern.blk.lt
 have hoff : ∀ g ∈ X.B.foot X.p, g ∉ [X.B.k] := by
  intro g hg hm
  rw [List.mem_singleton] at hm
  subst hm
  exact h.proc.off h.kern.blk (by decide) (by decide) (by decide) hg
 refine (procRead_top w X.p (X.J F) h.proc h.may h.top h.at_ h.log hst (.int .i64 0) (.int .i64 most) rfl rfl 0 9 rfl [X.B.k] hS hoff
  (fun W _ _ w4 => w.heap.size <= W.heap.size /\ KernOf w4 X.B.k { X.K with used := F.took X }) ?_).mono ?_
 · intro W hPW hTW
   have hpf : ∀ g ∈ X.K.foot X.B.k, g ∉ [X.p] := fun g hg hm => h.kern.off h.proc.blk (by decide) (by decide) ((List.mem_singleton.1 hm) ▸ hg)
   have hKW := h.kern.turns hTW hpf
   have hsW : Blk W X.src 159 #[F.sv] := (hTW.block _ h.src.lt (by rw [List.mem_singleton]; exact Blk.ne_ h.src h.proc.blk (by decide))).trans h.src
   have hTb : TableOf W X.B.tb X.B.k X.D := (hTW.block _ (Blk.lt h.table) (by rw [List.mem_singleton]; exact Blk.ne_ h.table h.proc.blk (by decide))).trans h.table
   refine (readSourceIntr W X.B.tb X.B.k (X.kF F) X.D hKW hTb 0 (by decide) X.src rfl F.sv hsW most hm1 hf).mono ?_
   rintro e w4 ⟨rfl, hK4, hT4⟩
   rw [Job.took] at hK4
   exact ⟨none, 0, rfl, hT4, hTW.size, hK4⟩
 · rintro e w' ⟨A, c, rfl, hP', W, w4, N, ⟨hsW, hK4⟩, hN, hT4', hTw4⟩
   have hTall : Turns ([X.p] ++ [X.B.k]) w w' := hTw4.then hT4' fun g hg hlt => by have := (hN g hg).1; omega
   have hsub : ∀ g ∈ [X.p] ++ [X.B.k], g ∈ X.foot F := by
    intro g hg
    simp only [List.mem_append, List.mem_cons, List.not_mem_nil, or_false] at hg
    simp only [Job.foot, PS.foot, KS.foot, List.mem_append, List.mem_cons, List.not_mem_nil, or_false, Option.mem_toList]
    rcases hg with rfl | rfl <;> simp
   have hkeep : ∀ g, g < w.heap.size -> g ≠ X.p -> g ≠ X.B.k -> w'.heap[g]? = w.heap[g]? := by
    intro g hg h1 h2
    refine hTall.block g hg ?_
    simp only [List.mem_append, List.mem_cons, List.not_mem_nil, or_false, not_or]
    exact ⟨h1, h2⟩
   have hold : ∀ g, g ∉ N -> g < w4.heap.size -> w'.heap[g]? = w4.heap[g]? := fun g h1 h2 => hT4'.block g h2 h1
   have hNold : ∀ g, g < w.heap.size -> g ∉ N := fun g hg hm => by have := (hN g hm).1; omega
   have hK' : KernOf w' X.B.k { X.K with used := F.took X } := hK4.same fun g hg => hold g (hNold g (h.kern.foot_lt g hg)) (hK4.foot_lt g hg)
   have hbk : ∀ {t : TypeId} {cs : Array Value} {g : Nat}, Blk w g t cs -> t ≠ 85 -> t ≠ 142 -> w'.heap[g]? = w.heap[g]? := fun hg h1 h2 =>
    hkeep _ hg.lt (Blk.ne_ hg h.proc.blk h1) (Blk.ne_ hg h.kern.blk h2)
   have hrow : ∀ {n : Nat} {v : Value} {xs : List Value}, OffRow w 0 5 v n xs -> OffRow w' 0 5 v n xs := fun hv => hv.same fun g hg =>
    hkeep g (hv.lt hg).2 (fun e => hv.blk_ne h.proc.blk (by decide) (e ▸ hg)) (fun e => hv.blk_ne h.kern.blk (by decide) (e ▸ hg))
   exact ⟨A, c, rfl, {
    proc := hP', kern := hK', may := h.may, top := h.top, at_ := h.at_, log := h.log, sinks := h.sinks, thing := h.thing
    table := (hbk h.table (by decide) (by decide)).trans h.table
    src := (hbk h.src (by decide) (by decide)).trans h.src
    inp := hrow h.inp
    sink := fun b => (hbk (h.sink b) (by decide) (by decide)).trans (h.sink b)
    row := fun b => hrow (h.row b)
    rows := h.rows
    inrow := h.inrow }, hTall.more hsub, fun g hg => .inl hg⟩
end
section
open Go.RowKit Go.Maps
set_option maxRecDepth 100000 in
set_option maxHeartbeats 2000000 in
theorem readSourceIO (w : World) (b k : Nat) (K : KS) (D : Nat -> Value) (hK : KernOf w k K) (h : TableOf w b k D) (i : Nat) (hi : i < 16) (p : Nat) (hD : D i = sourceV p) (v : Value) (hp : Blk w p 159 #[v]) (most : Int) (hm : 1 <= most) (hf : K.next.1 = 4) :
 Calls Tryz.prog 145 #[.pointer (some ⟨b, 0, none⟩), .int .i64 (i : Int), .int .i64 most] w fun e w' => e = .returned (.tuple #[.slice none 0 0, .int .i64 7]) /\ KernOf w' k K.took /\ Turns [k] w w' := by
 have hhas := kHas w b k D h (i : Int)
 rw [if_pos (by omega), Int.toNat_natCast, hD] at hhas
 have hk := h.kern
 unfold sourceV at hhas
 have hfa := fun W hW => kFault W k K hW
 rw [hf] at hfa
 go_enter Tryz.func145, Tryz.ntmps145
 go_wp2_with (first
  | (go_at_call 166; refine hhas.mono ?_; rintro e w1 ⟨rfl, rfl⟩)
  | (go_at_call 167; refine (hfa _ hK).mono ?_; rintro e w2 ⟨rfl, hK2, hT2⟩))
 go_returns
 exact ⟨rfl, hK2.alloc _, hT2.alloc _⟩
set_option maxRecDepth 100000 in
set_option maxHeartbeats 2000000 in
theorem jobReadIO (w : World) (X : Job) (F : Flow) (h : JobOf w X F) (hst : F.steps < 4611686018427387904) (most : Int) (hm1 : 1 <= most) (hf : (X.kF F).next.1 = 4) :
 Calls Tryz.prog 106 #[.pointer (some ⟨X.p, 0, none⟩), .int .i64 0, .int .i64 most] w fun e w' => ∃ A c, e = .returned (.tuple #[.slice A 0 c, .int .i64 7]) /\
  JobOf w' X (F.failed X) /\ Went X F (F.failed X) w w' := by
 have hS : ∀ g ∈ [X.B.k], g < w.heap.size := by
  intro g hg
  rw [List.mem_singleton] at hg
  subst hg
  exact h.kern.blk.lt
 have hoff : ∀ g ∈ X.B.foot X.p, g ∉ [X.B.k] := by
  intro g hg hm
  rw [List.mem_singleton] at hm
  subst hm
  exact h.proc.off h.kern.blk (by decide) (by decide) (by decide) hg
 refine (procRead_top w X.p (X.J F) h.proc h.may h.top h.at_ h.log hst (.int .i64 0) (.int .i64 most) rfl rfl 0 7 rfl [X.B.k] hS hoff
  (fun W _ _ w4 => w.heap.size <= W.heap.size /\ KernOf w4 X.B.k { X.K with used := F.took X }) ?_).mono ?_
 · intro W hPW hTW
   have hpf : ∀ g ∈ X.K.foot X.B.k, g ∉ [X.p] := fun g hg hm => h.kern.off h.proc.blk (by decide) (by decide) ((List.mem_singleton.1 hm) ▸ hg)
   have hKW := h.kern.turns hTW hpf
   have hsW : Blk W X.src 159 #[F.sv] := (hTW.block _ h.src.lt (by rw [List.mem_singleton]; exact Blk.ne_ h.src h.proc.blk (by decide))).trans h.src
   have hTb : TableOf W X.B.tb X.B.k X.D := (hTW.block _ (Blk.lt h.table) (by rw [List.mem_singleton]; exact Blk.ne_ h.table h.proc.blk (by decide))).trans h.table
   refine (readSourceIO W X.B.tb X.B.k (X.kF F) X.D hKW hTb 0 (by decide) X.src rfl F.sv hsW most hm1 hf).mono ?_
   rintro e w4 ⟨rfl, hK4, hT4⟩
   rw [Job.took] at hK4
   exact ⟨none, 0, rfl, hT4, hTW.size, hK4⟩
 · rintro e w' ⟨A, c, rfl, hP', W, w4, N, ⟨hsW, hK4⟩, hN, hT4', hTw4⟩
   have hTall : Turns ([X.p] ++ [X.B.k]) w w' := hTw4.then hT4' fun g hg hlt => by have := (hN g hg).1; omega
   have hsub : ∀ g ∈ [X.p] ++ [X.B.k], g ∈ X.foot F := by
    intro g hg
    simp only [List.mem_append, List.mem_cons, List.not_mem_nil, or_false] at hg
    simp only [Job.foot, PS.foot, KS.foot, List.mem_append, List.mem_cons, List.not_mem_nil, or_false, Option.mem_toList]
    rcases hg with rfl | rfl <;> simp
   have hkeep : ∀ g, g < w.heap.size -> g ≠ X.p -> g ≠ X.B.k -> w'.heap[g]? = w.heap[g]? := by
    intro g hg h1 h2
    refine hTall.block g hg ?_
    simp only [List.mem_append, List.mem_cons, List.not_mem_nil, or_false, not_or]
    exact ⟨h1, h2⟩
   have hold : ∀ g, g ∉ N -> g < w4.heap.size -> w'.heap[g]? = w4.heap[g]? := fun g h1 h2 => hT4'.block g h2 h1
   have hNold : ∀ g, g < w.heap.size -> g ∉ N := fun g hg hm => by have := (hN g hm).1; omega
   have hK' : KernOf w' X.B.k { X.K with used := F.took X } := hK4.same fun g hg => hold g (hNold g (h.kern.foot_lt g hg)) (hK4.foot_lt g hg)
   have hbk : ∀ {t : TypeId} {cs : Array Value} {g : Nat}, Blk w g t cs -> t ≠ 85 -> t ≠ 142 -> w'.heap[g]? = w.heap[g]? := fun hg h1 h2 =>
    hkeep _ hg.lt (Blk.ne_ hg h.proc.blk h1) (Blk.ne_ hg h.kern.blk h2)
   have hrow : ∀ {n : Nat} {v : Value} {xs : List Value}, OffRow w 0 5 v n xs -> OffRow w' 0 5 v n xs := fun hv => hv.same fun g hg =>
    hkeep g (hv.lt hg).2 (fun e => hv.blk_ne h.proc.blk (by decide) (e ▸ hg)) (fun e => hv.blk_ne h.kern.blk (by decide) (e ▸ hg))
   exact ⟨A, c, rfl, {
    proc := hP', kern := hK', may := h.may, top := h.top, at_ := h.at_, log := h.log, sinks := h.sinks, thing := h.thing
    table := (hbk h.table (by decide) (by decide)).trans h.table
    src := (hbk h.src (by decide) (by decide)).trans h.src
    inp := hrow h.inp
    sink := fun b => (hbk (h.sink b) (by decide) (by decide)).trans (h.sink b)
    row := fun b => hrow (h.row b)
    rows := h.rows
    inrow := h.inrow }, hTall.more hsub, fun g hg => .inl hg⟩
namespace PF
def copy2 (fl : List (Int × Int)) : PF × Option (List UInt8) -> PF × Int
 | (s', none) => (s', 1)
 | (s', some b) => all fl (s'.left fl + b.length + 1) s' true b
def copies (fl : List (Int × Int)) (s : PF) (m : Nat) : PF × Int := copy2 fl (reads fl (s.left fl + 1) s m)
end PF
structure CopySt (X : Job) (F0 : Flow) (w0 : World) (m : Nat) (R : PF × Option (List UInt8)) (F : Flow) (w : World) : Prop where
 job : JobOf w X F
 went : Went X F0 F w0 w
 ends : ∃ f, F.pl.left X.K.fl < f /\ PF.reads X.K.fl f F.pl m = R
 steps : F.steps + F.pl.left X.K.fl + F.inb.length + 2 < 4611686018427387904
 said : (F.said true).length + F.inb.length <= 140737488355000
section
variable {X : Job} {F0 F : Flow} {w0 w w' : World} {m : Nat} {R : PF × Option (List UInt8)}
theorem CopySt.intr (h : CopySt X F0 w0 m R F w) (he : (F.pl.next X.K.fl).1 = 2) (hJ : JobOf w' X (F.failed X)) (hW : Went X F (F.failed X) w w') : CopySt X F0 w0 m R (F.failed X) w' /\ (F.failed X).pl.left X.K.fl < F.pl.left X.K.fl := by
 have ht := PF.took_lt (fl := X.K.fl) (s := F.pl) (.inr he) h.job.used_le
 have hl : (F.failed X).pl.left X.K.fl = F.pl.left X.K.fl - 1 /\ 0 < F.pl.left X.K.fl := by
  have e : (F.failed X).pl.used = F.pl.used + 1 := ht.1
  unfold PF.left
  rw [e]
  omega
 refine ⟨⟨hJ, h.went.trans hW, ?_, ?_, h.said⟩, by omega⟩
 · obtain ⟨f, hf, hR⟩ := h.ends
   cases f with
   | zero => omega
   | succ f =>
     refine ⟨f, by omega, ?_⟩
     rw [<- hR, PF.reads, if_pos he]
     rfl
 · have e : (F.failed X).steps = F.steps + 1 := rfl
   have e2 : (F.failed X).inb = F.inb := rfl
   have := h.steps
   rw [e, e2]
   omega
theorem CopySt.fails (h : CopySt X F0 w0 m R F w) (he : (F.pl.next X.K.fl).1 = 4) : R = ((F.failed X).pl, none) := by
 obtain ⟨f, hf, hR⟩ := h.ends
 cases f with
 | zero => omega
 | succ f => rw [<- hR, PF.reads, if_neg (by rw [he]; decide), if_pos he]; rfl
theorem CopySt.reads (h : CopySt X F0 w0 m R F w) (h2 : (F.pl.next X.K.fl).1 ≠ 2) (h4 : (F.pl.next X.K.fl).1 ≠ 4) {n : Nat} (hn : n = F.pl.some_ X.K.fl (min m F.inb.length)) (v : Value) : R = ((F.read X n v).pl, some (F.inb.take n)) := by
 obtain ⟨f, hf, hR⟩ := h.ends
 cases f with
 | zero => omega
 | succ f => rw [<- hR, PF.reads, if_neg h2, if_neg h4, hn]; rfl
end
theorem PF.left_took {fl : List (Int × Int)} {s : PF} (n : Nat) (hu : s.used <= fl.length) : (s.read fl n).left fl <= s.left fl := by
 have := took_le (fl := fl) (s := s) hu
 show fl.length - s.took fl <= fl.length - s.used
 omega
set_option maxRecDepth 100000 in
set_option maxHeartbeats 2000000 in
theorem copies_lo (w : World) (X : Job) (F : Flow) (h : JobOf w X F) (k a : Int) (bv : Value) (hle : a <= 1) (ha : -9223372036854775808 <= a /\ a <= 9223372036854775807)
 (hst : F.steps + F.pl.left X.K.fl + F.inb.length + 2 < 4611686018427387904) (hl : (F.said true).length + F.inb.length <= 140737488355000) :
 Calls Tryz.prog 69 #[.pointer (some ⟨X.p, 0, none⟩), .agg #[.int .i64 k, .int .i64 a, bv]] w fun e w' => e = .returned (.int .i64 (PF.copies X.K.fl F.pl (max 1 a).toNat).2) /\ ∃ F', F'.pl = (PF.copies X.K.fl F.pl (max 1 a).toNat).1 /\ JobOf w' X F' /\ Went X F F' w w' := by
 obtain ⟨m, hm⟩ : ∃ m, (max 1 a).toNat = m := ⟨_, rfl⟩
 have hm1 : (1 : Int) <= (1 : Int) := by omega
 have hmm : (m : Int) = (1 : Int) := by omega
 rw [hm]
 obtain ⟨R, hR⟩ : ∃ R, PF.reads X.K.fl (F.pl.left X.K.fl + 1) F.pl m = R := ⟨_, rfl⟩
 have H0 : Hid (CopySt X F w m R F w) := Lib.hid ⟨h, Went.refl _ _ _, ⟨_, Nat.lt_succ_self _, hR⟩, hst, hl⟩
 have hco : PF.copies X.K.fl F.pl m = PF.copy2 X.K.fl R := by unfold PF.copies; rw [hR]
 obtain ⟨Z, hZ⟩ : ∃ Z, PF.copies X.K.fl F.pl m = Z := ⟨_, rfl⟩
 rw [hZ] at hco ⊢
 have HCO := Lib.hid hco
 have ha2 := ha.2
 have hmi2 : (1 : Int) <= 9223372036854775807 := by omega
 clear hco hZ hR h hst hl hm ha ha2
 go_enter Tryz.func69, Tryz.ntmps69
 go_wp2_with fail
 obtain ⟨g, hg⟩ : ∃ g, w.heap.size = g := ⟨_, rfl⟩
 obtain ⟨W, hW⟩ : ∃ W, w.alloc (.cells #[.int .i64 k, .int .i64 a, bv] 34) = W := ⟨_, rfl⟩
 have bW : Below w.heap.size w W := by rw [<- hW]; exact below_one w _
 have kb : Blk W g 34 #[.int .i64 k, .int .i64 a, bv] := by rw [<- hW, <- hg]; exact Blk.new w _ _
 have H1 : Hid (CopySt X F w m R F W /\ Blk W g 34 #[.int .i64 k, .int .i64 a, bv] /\ g ∉ X.foot F) := Lib.hid ⟨⟨H0.out.job.below bW, .of_below X F bW, H0.out.ends, H0.out.steps, H0.out.said⟩, kb, fun hm => by have := H0.out.job.foot_lt g hm; omega⟩
 rw [hW, hg]
 clear H0 hW bW kb hg
 go_loopg [] (F.pl.left X.K.fl) (fun q wr => ∃ F', q = F'.pl.left X.K.fl /\ Hid (CopySt X F w m R F' wr /\ Blk wr g 34 #[.int .i64 k, .int .i64 a, bv] /\ g ∉ X.foot F'))
 case atStart => exact ⟨F, rfl, H1⟩
 case round =>
  obtain ⟨F', rfl, HS⟩ := hrel
  have c1 : wr.cell? ⟨g, 1, none⟩ = some (.int .i64 a) := HS.out.2.1.cell 1
  have hsz := HS.out.1.steps
  have hsl := HS.out.1.said
  by_cases h2 : (F'.pl.next X.K.fl).1 = 2
  · have hrd := jobReadIntr wr X F' HS.out.1.job (by omega) (1 : Int) hm1 h2
    have HNX := Lib.hid (fun w' => HS.out.1.intr h2 (w' := w'))
    clear hsz hsl h2
    go_wp2_with (go_at_call 106; refine hrd.mono ?_; rintro e w1 ⟨A, c, rfl, hJ1, hW1⟩)
    obtain ⟨h1, h3⟩ := HNX.out w1 hJ1 hW1
    go_roundg ((F'.failed X).pl.left X.K.fl)
    case rel => exact ⟨_, rfl, Lib.hid ⟨h1, (hW1.away HS.out.2.1.lt HS.out.2.2).1.trans HS.out.2.1, (hW1.away HS.out.2.1.lt HS.out.2.2).2⟩⟩
    case measure => omega
  · by_cases h4 : (F'.pl.next X.K.fl).1 = 4
    · have hrd := jobReadIO wr X F' HS.out.1.job (by omega) (1 : Int) hm1 h4
      have hR := HS.out.1.fails h4
      clear hsz hsl h2 h4
      go_wp2_with (go_at_call 106; refine hrd.mono ?_; rintro e w1 ⟨A, c, rfl, hJ1, hW1⟩)
      go_returns
      rw [HCO.out, hR]
      exact ⟨rfl, F'.failed X, rfl, hJ1, HS.out.1.went.trans hW1⟩
    · obtain ⟨n, hn⟩ : ∃ n, F'.pl.some_ X.K.fl (min m F'.inb.length) = n := ⟨_, rfl⟩
      have hnl := PF.some_le (fl := X.K.fl) (s := F'.pl) (min m F'.inb.length)
      rw [hn] at hnl
      have hrd := jobRead wr X F' HS.out.1.job (by omega) (1 : Int) hm1 hmi2 (by omega) h2 h4 n (by
       rw [<- hn, show min (1 : Int) (F'.inb.length : Int) = ((min m F'.inb.length : Nat) : Int) by omega]
       exact PF.some_eq (fl := X.K.fl) (s := F'.pl) _)
      have hR := fun v => HS.out.1.reads h2 h4 hn.symm v
      have hul := HS.out.1.job.used_le
      have HU := Lib.hid hul
      have HSZ := Lib.hid hsz
      have HSL := Lib.hid hsl
      have HR := Lib.hid hR
      clear h2 h4 hn hR hul hsz hsl
      have hal : ∀ w1 A c v, w1.ownsRow wr.heap.size 5 1 (.slice A n c) n (bytesC (F'.inb.take n)) -> JobOf w1 X (F'.read X n v) -> (∀ g ∈ X.foot (F'.read X n v), g ∈ X.foot F') -> n <= c -> Calls Tryz.prog 71 #[.pointer (some ⟨X.p, 0, none⟩), .int .i64 1, .slice A n c] w1 fun e w' => e = .returned (.int .i64 Z.2) /\ ∃ F2, F2.pl = Z.1 /\ JobOf w' X F2 /\ Went X (F'.read X n v) F2 w1 w' := by
       intro w1 A c v hown hJ1 hft hnc
       have htl : (F'.inb.take n).length = n := by rw [List.length_take]; omega
       obtain ⟨_, _, e, _, _, hrr⟩ := own_slice hown
       cases e
       have hlf := PF.left_took (fl := X.K.fl) (s := F'.pl) n HU.out
       have hst2 := HSZ.out
       have hsl2 := HSL.out
       have hq := all_any w1 X (F'.read X n v) hJ1 true A c (F'.inb.take n) (by rw [htl]; exact hrr) (fun ad hA hm => by
        subst hA
        have h1 := HS.out.1.job.foot_lt _ (hft _ hm)
        have h2 := (hown.lt ad.block rfl).1
        omega) (by rw [htl]; exact hnc) (by
         rw [htl]
         show F'.steps + 1 + (F'.pl.read X.K.fl n).left X.K.fl + n < _
         omega) (by
         rw [htl]
         show (F'.said true).length + n <= _
         omega) ((F'.read X n v).pl.left X.K.fl + (F'.inb.take n).length + 1) (Nat.lt_succ_self _) Z (by rw [HCO.out, HR.out v]; rfl)
       rwa [htl] at hq
      have HAL := Lib.hid hal
      clear hal
      go_wp2_with (first
       | (go_at_call 106; refine hrd.mono ?_; rintro e w1 ⟨A, c, rfl, hown, v, hJ1, hW1, hft⟩)
       | (go_at_call 71; refine (HAL.out w1 A c v hown hJ1 hft (by obtain ⟨_, _, e, hcc, _⟩ := own_slice hown; cases e; exact hcc)).mono ?_; rintro e w2 ⟨rfl, F2, hF2, hJ2, hW2⟩))
      go_returns
      exact ⟨rfl, F2, hF2, hJ2, (HS.out.1.went.trans hW1).trans hW2⟩
set_option maxRecDepth 100000 in
set_option maxHeartbeats 2000000 in
theorem copies_hi (w : World) (X : Job) (F : Flow) (h : JobOf w X F) (k a : Int) (bv : Value) (hle : ¬ a <= 1) (ha : -9223372036854775808 <= a /\ a <= 9223372036854775807)
 (hst : F.steps + F.pl.left X.K.fl + F.inb.length + 2 < 4611686018427387904) (hl : (F.said true).length + F.inb.length <= 140737488355000) :
 Calls Tryz.prog 69 #[.pointer (some ⟨X.p, 0, none⟩), .agg #[.int .i64 k, .int .i64 a, bv]] w fun e w' => e = .returned (.int .i64 (PF.copies X.K.fl F.pl (max 1 a).toNat).2) /\ ∃ F', F'.pl = (PF.copies X.K.fl F.pl (max 1 a).toNat).1 /\ JobOf w' X F' /\ Went X F F' w w' := by
 obtain ⟨m, hm⟩ : ∃ m, (max 1 a).toNat = m := ⟨_, rfl⟩
 have hm1 : (1 : Int) <= a := by omega
 have hmm : (m : Int) = a := by omega
 rw [hm]
 obtain ⟨R, hR⟩ : ∃ R, PF.reads X.K.fl (F.pl.left X.K.fl + 1) F.pl m = R := ⟨_, rfl⟩
 have H0 : Hid (CopySt X F w m R F w) := Lib.hid ⟨h, Went.refl _ _ _, ⟨_, Nat.lt_succ_self _, hR⟩, hst, hl⟩
 have hco : PF.copies X.K.fl F.pl m = PF.copy2 X.K.fl R := by unfold PF.copies; rw [hR]
 obtain ⟨Z, hZ⟩ : ∃ Z, PF.copies X.K.fl F.pl m = Z := ⟨_, rfl⟩
 rw [hZ] at hco ⊢
 have HCO := Lib.hid hco
 have ha2 := ha.2
 have hmi2 : a <= 9223372036854775807 := by omega
 clear hco hZ hR h hst hl hm ha ha2
 go_enter Tryz.func69, Tryz.ntmps69
 go_wp2_with fail
 obtain ⟨g, hg⟩ : ∃ g, w.heap.size = g := ⟨_, rfl⟩
 obtain ⟨W, hW⟩ : ∃ W, w.alloc (.cells #[.int .i64 k, .int .i64 a, bv] 34) = W := ⟨_, rfl⟩
 have bW : Below w.heap.size w W := by rw [<- hW]; exact below_one w _
 have kb : Blk W g 34 #[.int .i64 k, .int .i64 a, bv] := by rw [<- hW, <- hg]; exact Blk.new w _ _
 have H1 : Hid (CopySt X F w m R F W /\ Blk W g 34 #[.int .i64 k, .int .i64 a, bv] /\ g ∉ X.foot F) := Lib.hid ⟨⟨H0.out.job.below bW, .of_below X F bW, H0.out.ends, H0.out.steps, H0.out.said⟩, kb, fun hm => by have := H0.out.job.foot_lt g hm; omega⟩
 rw [hW, hg]
 clear H0 hW bW kb hg
 go_loopg [] (F.pl.left X.K.fl) (fun q wr => ∃ F', q = F'.pl.left X.K.fl /\ Hid (CopySt X F w m R F' wr /\ Blk wr g 34 #[.int .i64 k, .int .i64 a, bv] /\ g ∉ X.foot F'))
 case atStart => exact ⟨F, rfl, H1⟩
 case round =>
  obtain ⟨F', rfl, HS⟩ := hrel
  have c1 : wr.cell? ⟨g, 1, none⟩ = some (.int .i64 a) := HS.out.2.1.cell 1
  have hsz := HS.out.1.steps
  have hsl := HS.out.1.said
  by_cases h2 : (F'.pl.next X.K.fl).1 = 2
  · have hrd := jobReadIntr wr X F' HS.out.1.job (by omega) a hm1 h2
    have HNX := Lib.hid (fun w' => HS.out.1.intr h2 (w' := w'))
    clear hsz hsl h2
    go_wp2_with (go_at_call 106; refine hrd.mono ?_; rintro e w1 ⟨A, c, rfl, hJ1, hW1⟩)
    obtain ⟨h1, h3⟩ := HNX.out w1 hJ1 hW1
    go_roundg ((F'.failed X).pl.left X.K.fl)
    case rel => exact ⟨_, rfl, Lib.hid ⟨h1, (hW1.away HS.out.2.1.lt HS.out.2.2).1.trans HS.out.2.1, (hW1.away HS.out.2.1.lt HS.out.2.2).2⟩⟩
    case measure => omega
  · by_cases h4 : (F'.pl.next X.K.fl).1 = 4
    · have hrd := jobReadIO wr X F' HS.out.1.job (by omega) a hm1 h4
      have hR := HS.out.1.fails h4
      clear hsz hsl h2 h4
      go_wp2_with (go_at_call 106; refine hrd.mono ?_; rintro e w1 ⟨A, c, rfl, hJ1, hW1⟩)
      go_returns
      rw [HCO.out, hR]
      exact ⟨rfl, F'.failed X, rfl, hJ1, HS.out.1.went.trans hW1⟩
    · obtain ⟨n, hn⟩ : ∃ n, F'.pl.some_ X.K.fl (min m F'.inb.length) = n := ⟨_, rfl⟩
      have hnl := PF.some_le (fl := X.K.fl) (s := F'.pl) (min m F'.inb.length)
      rw [hn] at hnl
      have hrd := jobRead wr X F' HS.out.1.job (by omega) a hm1 hmi2 (by omega) h2 h4 n (by
       rw [<- hn, show min a (F'.inb.length : Int) = ((min m F'.inb.length : Nat) : Int) by omega]
       exact PF.some_eq (fl := X.K.fl) (s := F'.pl) _)
      have hR := fun v => HS.out.1.reads h2 h4 hn.symm v
      have hul := HS.out.1.job.used_le
      have HU := Lib.hid hul
      have HSZ := Lib.hid hsz
      have HSL := Lib.hid hsl
      have HR := Lib.hid hR
      clear h2 h4 hn hR hul hsz hsl
      have hal : ∀ w1 A c v, w1.ownsRow wr.heap.size 5 1 (.slice A n c) n (bytesC (F'.inb.take n)) -> JobOf w1 X (F'.read X n v) -> (∀ g ∈ X.foot (F'.read X n v), g ∈ X.foot F') -> n <= c -> Calls Tryz.prog 71 #[.pointer (some ⟨X.p, 0, none⟩), .int .i64 1, .slice A n c] w1 fun e w' => e = .returned (.int .i64 Z.2) /\ ∃ F2, F2.pl = Z.1 /\ JobOf w' X F2 /\ Went X (F'.read X n v) F2 w1 w' := by
       intro w1 A c v hown hJ1 hft hnc
       have htl : (F'.inb.take n).length = n := by rw [List.length_take]; omega
       obtain ⟨_, _, e, _, _, hrr⟩ := own_slice hown
       cases e
       have hlf := PF.left_took (fl := X.K.fl) (s := F'.pl) n HU.out
       have hst2 := HSZ.out
       have hsl2 := HSL.out
       have hq := all_any w1 X (F'.read X n v) hJ1 true A c (F'.inb.take n) (by rw [htl]; exact hrr) (fun ad hA hm => by
        subst hA
        have h1 := HS.out.1.job.foot_lt _ (hft _ hm)
        have h2 := (hown.lt ad.block rfl).1
        omega) (by rw [htl]; exact hnc) (by
         rw [htl]
         show F'.steps + 1 + (F'.pl.read X.K.fl n).left X.K.fl + n < _
         omega) (by
         rw [htl]
         show (F'.said true).length + n <= _
         omega) ((F'.read X n v).pl.left X.K.fl + (F'.inb.take n).length + 1) (Nat.lt_succ_self _) Z (by rw [HCO.out, HR.out v]; rfl)
       rwa [htl] at hq
      have HAL := Lib.hid hal
      clear hal
      go_wp2_with (first
       | (go_at_call 106; refine hrd.mono ?_; rintro e w1 ⟨A, c, rfl, hown, v, hJ1, hW1, hft⟩)
       | (go_at_call 71; refine (HAL.out w1 A c v hown hJ1 hft (by obtain ⟨_, _, e, hcc, _⟩ := own_slice hown; cases e; exact hcc)).mono ?_; rintro e w2 ⟨rfl, F2, hF2, hJ2, hW2⟩))
      go_returns
      exact ⟨rfl, F2, hF2, hJ2, (HS.out.1.went.trans hW1).trans hW2⟩
theorem copies_any (w : World) (X : Job) (F : Flow) (h : JobOf w X F) (k a : Int) (bv : Value) (ha : -9223372036854775808 <= a /\ a <= 9223372036854775807)
 (hst : F.steps + F.pl.left X.K.fl + F.inb.length + 2 < 4611686018427387904) (hl : (F.said true).length + F.inb.length <= 140737488355000) :
 Calls Tryz.prog 69 #[.pointer (some ⟨X.p, 0, none⟩), .agg #[.int .i64 k, .int .i64 a, bv]] w fun e w' => e = .returned (.int .i64 (PF.copies X.K.fl F.pl (max 1 a).toNat).2) /\ ∃ F', F'.pl = (PF.copies X.K.fl F.pl (max 1 a).toNat).1 /\ JobOf w' X F' /\ Went X F F' w w' := by
 by_cases hle : a <= 1
 · exact copies_lo w X F h k a bv hle ha hst hl
 · exact copies_hi w X F h k a bv hle ha hst hl
end
section
open Go.RowKit Go.Maps
def Flow.holds (F : Flow) (h m : Int) : Flow := { F with held := h, peak := m }
theorem JobOf.holds {w w' : World} {X : Job} {F : Flow} (h : JobOf w X F) (hd m : Int) (ht : Turns [X.p] w w') (hb : Blk w' X.p 85 (procCells (X.J (F.holds hd m)))) : JobOf w' X (F.holds hd m) /\ Went X F (F.holds hd m) w w' := by
 have hbk : ∀ {t : TypeId} {cs : Array Value} {g : Nat}, Blk w g t cs -> t ≠ 85 -> w'.heap[g]? = w.heap[g]? := fun hg h1 => ht.block _ hg.lt (by rw [List.mem_singleton]; exact Blk.ne_ hg h.proc.blk h1)
 have hrow : ∀ {n : Nat} {v : Value} {xs : List Value}, OffRow w 0 5 v n xs -> OffRow w' 0 5 v n xs := fun hv => hv.same fun g hg => ht.block g (hv.lt hg).2 (by rw [List.mem_singleton]; exact fun e => hv.blk_ne h.proc.blk (by decide) (e ▸ hg))
 refine ⟨?_, ht.more (by simp [Job.foot, PS.foot]), fun g hg => .inl hg⟩
 exact {
  proc := ⟨hb, ownsRow_same h.proc.args fun g hg => ht.block g (h.proc.args.lt g hg).2 (by rw [List.mem_singleton]; rintro rfl; exact own_blk_ne h.proc.args h.proc.blk (by decide) hg),
   ownsRow_same h.proc.env fun g hg => ht.block g (h.proc.env.lt g hg).2 (by rw [List.mem_singleton]; rintro rfl; exact own_blk_ne h.proc.env h.proc.blk (by decide) hg),
   ownsRow_same h.proc.log fun g hg => ht.block g (h.proc.log.lt g hg).2 (by rw [List.mem_singleton]; rintro rfl; exact own_blk_ne h.proc.log h.proc.blk (by decide) hg)⟩
  kern := h.kern.turns ht fun g hg hm => h.kern.off h.proc.blk (by decide) (by decide) ((List.mem_singleton.1 hm) ▸ hg)
  table := (hbk h.table (by decide)).trans h.table
  may := h.may, top := h.top, at_ := h.at_, log := h.log, sinks := h.sinks, thing := h.thing
  src := (hbk h.src (by decide)).trans h.src
  inp := hrow h.inp
  sink := fun b => (hbk (h.sink b) (by decide)).trans (h.sink b)
  row := fun b => hrow (h.row b)
  rows := h.rows
  inrow := h.inrow }
theorem JobOf.setHolds {w : World} {X : Job} {F : Flow} (h : JobOf w X F) (a b : Int) : JobOf (((w.setCell ⟨X.p, 8, none⟩ (.int .i64 a)).setCell ⟨X.p, 9, none⟩ (.int .i64 b)).drew) X (F.holds a b) /\ Went X F (F.holds a b) w (((w.setCell ⟨X.p, 8, none⟩ (.int .i64 a)).setCell ⟨X.p, 9, none⟩ (.int .i64 b)).drew) := by
 have b1 : Blk ((w.setCell ⟨X.p, 8, none⟩ (.int .i64 a)).setCell ⟨X.p, 9, none⟩ (.int .i64 b)) X.p 85 _ := (h.proc.blk.set_ 8 (.int .i64 a)).set_ 9 (.int .i64 b)
 refine h.holds a b ((((Turns.refl [X.p] w).setCell ⟨X.p, 8, none⟩ _ (fun _ => List.mem_singleton.2 rfl)).setCell ⟨X.p, 9, none⟩ _ (fun _ => List.mem_singleton.2 rfl)).drew) ?_
 rw [show procCells (X.J (F.holds a b)) = ((procCells (X.J F)).setIfInBounds 8 (.int .i64 a)).setIfInBounds 9 (.int .i64 b) by simp [procCells, Job.J, Flow.holds]]
 exact b1
theorem JobOf.setHeld {w : World} {X : Job} {F : Flow} (h : JobOf w X F) (a : Int) : JobOf ((w.setCell ⟨X.p, 8, none⟩ (.int .i64 a)).drew) X (F.holds a F.peak) /\ Went X F (F.holds a F.peak) w ((w.setCell ⟨X.p, 8, none⟩ (.int .i64 a)).drew) := by
 have b1 : Blk (w.setCell ⟨X.p, 8, none⟩ (.int .i64 a)) X.p 85 _ := h.proc.blk.set_ 8 (.int .i64 a)
 refine h.holds a F.peak (((Turns.refl [X.p] w).setCell ⟨X.p, 8, none⟩ _ (fun _ => List.mem_singleton.2 rfl)).drew) ?_
 rw [show procCells (X.J (F.holds a F.peak)) = (procCells (X.J F)).setIfInBounds 8 (.int .i64 a) by simp [procCells, Job.J, Flow.holds]]
 exact b1
end
section
set_option maxRecDepth 100000
open Go.RowKit Go.Maps
section
variable {P : Program} (w : World) {ops : Array Oper} {rest : List Oper} {o : Oper} {a : Act} {Q : Exit -> Act -> World -> Prop}
theorem wpList_insert_of (hg : o.guard = none) (m x v : Operand) (t : TypeId) (hop : o.op = Op.insert t m x v) (k e : TypeId) (K : Keyed P k) (ht : P.underlying t = some (.map k e)) (b n : Nat) (f : Lit -> Option Value)
 (hm : a.eval m = .map (some b)) (h : MapOf w P k b n f) (hn : n < maxLen) (key val : Value) (kl : Lit) (hx : a.eval x = key) (hv : a.eval v = val) (hkey : keyOf P k key = some kl) (hkl : WideAt.IsKeyLit kl)
 (hK : ∀ w', MapOf w' P k b (n + 1) (upd f kl (some val)) -> w.grownBy w' (some b) -> wpList P ops Q rest (a.put o.dst undef) w') : wpList P ops Q (o :: rest) a w := by
 refine wpList_plain hg fun K' hK' => ?_
 obtain ⟨w', hrun, r1, r2⟩ := h.store K ht hn (val := val) hkey hkl
 unfold Oper.wp
 simp [execOp, hop, hm, hx, hv, hrun, Result.andThen]
 exact hK' _ _ (hK w' r1 r2)
end
def kindV (id : FuncId) : Value := .agg #[.func (.func id) #[] #[]]
def kindL (n : Int) : Lit := .int .i64 n
noncomputable def kindF : Lit -> Option Value :=
 upd (upd (upd (upd (upd (upd (fun _ => none) (kindL 1) (some (kindV 69))) (kindL 2) (some (kindV 70))) (kindL 3) (some (kindV 72)))
  (kindL 4) (some (kindV 73))) (kindL 5) (some (kindV 75))) (kindL 6) (some (kindV 77))
def kindOf (n : Int) : Option FuncId := if n = 1 then some 69 else if n = 2 then some 70 else if n = 3 then some 72 else if n = 4 then some 73 else if n = 5 then some 75 else if n = 6 then some 77 else none
theorem kindL_ne {a b : Int} (h : a ≠ b) : kindL a ≠ kindL b := fun e => h (by unfold kindL at e; injection e)
theorem kindF_of (n : Int) : kindF (kindL n) = (kindOf n).map kindV := by
 unfold kindF kindOf
 by_cases h1 : n = 1
 · subst h1; simp [upd, kindL]
 by_cases h2 : n = 2
 · subst h2; simp [upd, kindL]
 by_cases h3 : n = 3
 · subst h3; simp [upd, kindL]
 by_cases h4 : n = 4
 · subst h4; simp [upd, kindL]
 by_cases h5 : n = 5
 · subst h5; simp [upd, kindL]
 by_cases h6 : n = 6
 · subst h6; simp [upd, kindL]
 rw [upd_other _ _ (kindL_ne h6), upd_other _ _ (kindL_ne h5), upd_other _ _ (kindL_ne h4), upd_other _ _ (kindL_ne h3), upd_other _ _ (kindL_ne h2), upd_other _ _ (kindL_ne h1)]
 simp [h1, h2, h3, h4, h5, h6]
set_option maxHeartbeats 2000000 in
theorem acts_map (w : World) : Calls Tryz.prog 38 #[] w fun e w' => e = .returned (.map (some w.heap.size)) /\ MapOf w' Tryz.prog 3 w.heap.size 6 kindF /\ Below w.heap.size w w' := by
 have hmm := @run_makeMap Tryz.prog
 obtain ⟨b, hb0⟩ : ∃ b, w.heap.size = b := ⟨_, rfl⟩
 obtain ⟨W, hW⟩ : ∃ W, w.alloc (.map #[] 0) = W := ⟨_, rfl⟩
 have hm : MapOf W Tryz.prog 3 b 0 (fun _ => none) := by rw [<- hW, <- hb0]; exact MapOf.made w Tryz.prog 3
 have hb : Below b w W := by rw [<- hW, <- hb0]; exact (Below.refl _ _).alloc (Nat.le_refl _) _
 have hbs : b <= W.heap.size := by rw [<- hb0]; exact hb.size
 go_enter Tryz.func38, Tryz.ntmps38
 have hcls : ∀ W', MapOf W' Tryz.prog 3 b 6 kindF -> MapOf W' Tryz.prog 3 b 6 kindF := fun _ h => h
 unfold kindF kindV kindL at hcls
 go_wp2_with (
  refine wpList_insert_of _ rfl _ _ _ 95 rfl 3 100 intKeys Tryz.underlying95 b _ _ rfl hm (by unfold maxLen; omega) _ _ _ rfl rfl (keyOf_int_mk Tryz.underlying3 (WalkArith.wf_i64 (by omega))) trivial ?_
  intro w2 hm2 hg2
  replace hb := hb.grown hg2 hbs (fun j hj => (by cases hj; exact Nat.le_refl _))
  replace hbs := Nat.le_trans hbs hg2.size
  replace hm := hm2
  clear hm2 hg2)
 go_returns
 exact ⟨by rw [hb0]; rfl, by rw [hb0]; exact hcls _ hm, by rw [hb0]; exact hb⟩
set_option maxHeartbeats 1000000 in
theorem jobHoldI (w : World) (X : Job) (F : Flow) (h : JobOf w X F) (n : Int) (hn : -9223372036854775808 <= n /\ n <= 9223372036854775807) (k : Nat) (hk : F.held = (k : Int)) (hb : (k : Int) + max 0 n < 4611686018427387904) :
 Calls Tryz.prog 74 #[.pointer (some ⟨X.p, 0, none⟩), .int .i64 n] w fun e w' => e = .returned (.tuple #[]) /\ JobOf w' X (F.holds ((k : Int) + max 0 n) (max F.peak ((k : Int) + max 0 n))) /\ Went X F (F.holds ((k : Int) + max 0 n) (max F.peak ((k : Int) + max 0 n))) w w' := by
 have hB := h.proc.blk
 have c8 : w.cell? ⟨X.p, 8, none⟩ = some (.int .i64 (k : Int)) := by rw [hB.cell 8, <- hk]; rfl
 have c9 : w.cell? ⟨X.p, 9, none⟩ = some (.int .i64 F.peak) := by rw [hB.cell 9]; rfl
 have f8 : w.frozen? ⟨X.p, 8, none⟩ = false := hB.frozen 8
 have f9 : w.frozen? ⟨X.p, 9, none⟩ = false := hB.frozen 9
 have lp := hB.lt
 obtain ⟨t, ht⟩ : ∃ t : Int, (k : Int) + max 0 n = t := ⟨_, rfl⟩
 obtain ⟨m, hm⟩ : ∃ m : Int, max F.peak t = m := ⟨_, rfl⟩
 rw [ht, hm]
 have fin : ∀ a b : Int, a = t -> b = m -> JobOf (((w.setCell ⟨X.p, 8, none⟩ (.int .i64 a)).setCell ⟨X.p, 9, none⟩ (.int .i64 b)).drew) X (F.holds t m) /\ Went X F (F.holds t m) w (((w.setCell ⟨X.p, 8, none⟩ (.int .i64 a)).setCell ⟨X.p, 9, none⟩ (.int .i64 b)).drew) := by
  rintro a b rfl rfl
  exact h.setHolds _ _
 by_cases hle : n <= 0
 · have hx : max (0 : Int) n = 0 := by omega
   have HT := Lib.hid (show t = (k : Int) by omega)
   have HM := Lib.hid hm
   clear ht hm
   go_enter Tryz.func74, Tryz.ntmps74
   go_wp2_with fail
   all_goals go_region
   all_goals go_wp2_with fail
   all_goals
    go_end0
    have h1 := HT.out
    have h2 := HM.out
    refine ⟨rfl, fin _ _ ?_ ?_⟩ <;> omega
 · have hx : max (0 : Int) n = n := by omega
   have HT := Lib.hid (show t = (k : Int) + n by omega)
   have HM := Lib.hid hm
   have hw : wrap64 ((k : Int) + n) = (k : Int) + n := w64 _ (by omega)
   clear ht hm
   go_enter Tryz.func74, Tryz.ntmps74
   go_wp2_with fail
   all_goals go_region
   all_goals go_wp2_with fail
   all_goals
    go_end0
    have h1 := HT.out
    have h2 := HM.out
    refine ⟨rfl, fin _ _ ?_ ?_⟩ <;> omega
def dropped (k n : Int) : Int := if 0 < n then k - min n k else k
set_option maxHeartbeats 1000000 in
theorem jobDropI (w : World) (X : Job) (F : Flow) (h : JobOf w X F) (n : Int) (hn : -9223372036854775808 <= n /\ n <= 9223372036854775807) (k : Nat) (hk : F.held = (k : Int)) (hb : k < 4611686018427387904) :
 Calls Tryz.prog 76 #[.pointer (some ⟨X.p, 0, none⟩), .int .i64 n] w fun e w' => e = .returned (.tuple #[]) /\ JobOf w' X (F.holds (dropped k n) F.peak) /\ Went X F (F.holds (dropped k n) F.peak) w w' := by
 have hB := h.proc.blk
 have c8 : w.cell? ⟨X.p, 8, none⟩ = some (.int .i64 (k : Int)) := by rw [hB.cell 8, <- hk]; rfl
 have f8 : w.frozen? ⟨X.p, 8, none⟩ = false := hB.frozen 8
 have lp := hB.lt
 obtain ⟨t, ht⟩ : ∃ t, dropped k n = t := ⟨_, rfl⟩
 rw [ht]
 have fin : ∀ a : Int, a = t -> JobOf ((w.setCell ⟨X.p, 8, none⟩ (.int .i64 a)).drew) X (F.holds t F.peak) /\ Went X F (F.holds t F.peak) w ((w.setCell ⟨X.p, 8, none⟩ (.int .i64 a)).drew) := by
  rintro a rfl
  exact h.setHeld _
 by_cases hle : 0 < n
 · have HT := Lib.hid (show t = (k : Int) - min n k by rw [<- ht, dropped, if_pos hle])
   have hw : wrap64 ((k : Int) - n) = (k : Int) - n := w64 _ (by omega)
   clear ht
   go_enter Tryz.func76, Tryz.ntmps76
   go_wp2_with fail
   go_region
   all_goals go_wp2_with fail
   all_goals
    go_end0
    have h1 := HT.out
    refine ⟨rfl, fin _ ?_⟩
    omega
 · have htk : t = (k : Int) := by rw [<- ht, dropped, if_neg hle]
   have h0 : JobOf w X (F.holds t F.peak) /\ Went X F (F.holds t F.peak) w w := by
    have : F.holds t F.peak = F := by
     cases F
     simp only [Flow.holds] at hk ⊢
     rw [htk, hk]
    rw [this]
    exact ⟨h, Went.refl _ _ _⟩
   clear ht htk
   go_enter Tryz.func76, Tryz.ntmps76
   go_wp2_with fail
   go_end0
   exact ⟨rfl, h0⟩
end
section
open Go.RowKit Go.Maps Go.Shelf
theorem i64_and255 (n : Int) : bits .and .i64 n 255 = n % 256 := by
 have h511 : (BitVec.ofInt 64 255).toNat = 2 ^ 8 - 1 := by decide
 have key : (BitVec.ofInt 64 n &&& BitVec.ofInt 64 255).toNat = (n % ((2 ^ 64 : Nat) : Int)).toNat % 2 ^ 8 := by
  rw [BitVec.toNat_and, BitVec.toNat_ofInt, h511, Nat.and_two_pow_sub_one_eq_mod]
 show IntKind.i64.wrap ((BitVec.ofInt 64 n &&& BitVec.ofInt 64 255).toNat : Nat) = n % 256
 rw [key, IntWalk.i64_in _ (by omega)]
 omega
namespace PF
def act (fl : List (Int × Int)) (s : PF) (k n : Int) (bs : List UInt8) : PF × Int :=
 if k = 1 then s.copies fl (max 1 n).toNat
 else if k = 2 then all fl (s.left fl + bs.length + 1) s true bs
 else if k = 3 then all fl (s.left fl + bs.length + 1) s false bs
 else if k = 4 then (s.holds (s.held + max 0 n) (max s.peak (s.held + max 0 n)), -1)
 else if k = 5 then (s.holds (dropped s.held n) s.peak, -1)
 else if k = 6 then (s, n % 256)
 else (s, -1)
structure Fits (fl : List (Int × Int)) (s : PF) (k n : Int) (bs : List UInt8) : Prop where
 num : -9223372036854775808 <= n /\ n <= 9223372036854775807
 steps : s.steps + s.left fl + s.inb.length + bs.length + 2 < 4611686018427387904
 said : ∀ b, (s.said b).length + s.inb.length + bs.length <= 140737488355000
 held : ∃ h : Nat, s.held = (h : Int) /\ (h : Int) < 4611686018427387904 /\ (k = 4 -> (h : Int) + max 0 n < 4611686018427387904)
end PF
def ActDoes (id : FuncId) (k : Int) : Prop := ∀ (w : World) (X : Job) (F : Flow) (n : Int) (A : Option Addr) (c : Nat) (bs : List UInt8), JobOf w X F -> Reads w w.heap.size 1 A bs.length (bytesC bs) -> (∀ ad, A = some ad -> ad.block ∉ X.foot F) -> bs.length <= c -> F.pl.Fits X.K.fl k n bs ->
 Calls Tryz.prog id #[.pointer (some ⟨X.p, 0, none⟩), .agg #[.int .i64 k, .int .i64 n, .slice A bs.length c]] w fun e w' => e = .returned (.int .i64 (F.pl.act X.K.fl k n bs).2) /\ ∃ F', F'.pl = (F.pl.act X.K.fl k n bs).1 /\ JobOf w' X F' /\ Went X F F' w w'
theorem does_copy : ActDoes 69 1 := by
 intro w X F n A c bs h hb hA hc hf
 have h1 := hf.steps
 have h2 := hf.said true
 have hq := copies_any w X F h 1 n (.slice A bs.length c) hf.num (by show F.pl.steps + _ + F.pl.inb.length + 2 < _; omega) (by show (F.pl.said true).length + F.pl.inb.length <= _; omega)
 exact hq
set_option maxRecDepth 100000 in
set_option maxHeartbeats 1000000 in
theorem does_out : ActDoes 70 2 := by
 intro w X F n A c bs h hb hA hc hf
 have h1 := hf.steps
 have h2 := hf.said true
 have bW := below_one w (.cells #[.int .i64 2, .int .i64 n, .slice A bs.length c] 34)
 have hq := all_any _ X F (h.below bW) true A c bs ((hb.below bW).more bW.size) hA hc (by show F.pl.steps + F.pl.left X.K.fl + bs.length < _; omega) (by show (F.pl.said true).length + bs.length <= _; omega) (F.pl.left X.K.fl + bs.length + 1) (Nat.lt_succ_self _) _ rfl
 have hR : F.pl.act X.K.fl 2 n bs = PF.all X.K.fl (F.pl.left X.K.fl + bs.length + 1) F.pl true bs := by simp [PF.act]
 rw [hR]
 obtain ⟨m, hm⟩ : ∃ m, bs.length = m := ⟨_, rfl⟩
 obtain ⟨Z, hZ⟩ : ∃ Z, PF.all X.K.fl (F.pl.left X.K.fl + bs.length + 1) F.pl true bs = Z := ⟨_, rfl⟩
 rw [hZ] at hq ⊢
 rw [hm] at hq ⊢ bW
 have HB := Lib.hid bW
 have kb := (Blk.new w 34 #[.int .i64 2, .int .i64 n, .slice A m c]).cell 2
 clear h hb hA hc hf h1 h2 bW hR hm hZ
 go_enter Tryz.func70, Tryz.ntmps70
 go_wp2_with (go_at_call 71; refine hq.mono ?_; rintro e w1 ⟨rfl, F1, hF1, hJ1, hW1⟩)
 go_returns
 exact ⟨rfl, F1, hF1, hJ1, (Went.of_below X F HB.out).trans hW1⟩
set_option maxRecDepth 100000 in
set_option maxHeartbeats 1000000 in
theorem does_err : ActDoes 72 3 := by
 intro w X F n A c bs h hb hA hc hf
 have h1 := hf.steps
 have h2 := hf.said false
 have bW := below_one w (.cells #[.int .i64 3, .int .i64 n, .slice A bs.length c] 34)
 have hq := all_any _ X F (h.below bW) false A c bs ((hb.below bW).more bW.size) hA hc (by show F.pl.steps + F.pl.left X.K.fl + bs.length < _; omega) (by show (F.pl.said false).length + bs.length <= _; omega) (F.pl.left X.K.fl + bs.length + 1) (Nat.lt_succ_self _) _ rfl
 have hR : F.pl.act X.K.fl 3 n bs = PF.all X.K.fl (F.pl.left X.K.fl + bs.length + 1) F.pl false bs := by simp [PF.act]
 rw [hR]
 obtain ⟨m, hm⟩ : ∃ m, bs.length = m := ⟨_, rfl⟩
 obtain ⟨Z, hZ⟩ : ∃ Z, PF.all X.K.fl (F.pl.left X.K.fl + bs.length + 1) F.pl false bs = Z := ⟨_, rfl⟩
 rw [hZ] at hq ⊢
 rw [hm] at hq ⊢ bW
 have HB := Lib.hid bW
 have kb := (Blk.new w 34 #[.int .i64 3, .int .i64 n, .slice A m c]).cell 2
 clear h hb hA hc hf h1 h2 bW hR hm hZ
 go_enter Tryz.func72, Tryz.ntmps72
 go_wp2_with (go_at_call 71; refine hq.mono ?_; rintro e w1 ⟨rfl, F1, hF1, hJ1, hW1⟩)
 go_returns
 exact ⟨rfl, F1, hF1, hJ1, (Went.of_below X F HB.out).trans hW1⟩
set_option maxRecDepth 100000 in
set_option maxHeartbeats 1000000 in
theorem does_hold : ActDoes 73 4 := by
 intro w X F n A c bs h hb hA hc hf
 obtain ⟨k, hk, hk62, hkb⟩ := hf.held
 have bW := below_one w (.cells #[.int .i64 4, .int .i64 n, .slice A bs.length c] 34)
 have hq := jobHoldI _ X F (h.below bW) n hf.num k hk (hkb rfl)
 obtain ⟨F1, hF1⟩ : ∃ F1, F.holds ((k : Int) + max 0 n) (max F.peak ((k : Int) + max 0 n)) = F1 := ⟨_, rfl⟩
 have hR : F.pl.act X.K.fl 4 n bs = (F1.pl, -1) := by
  rw [<- hF1]
  unfold PF.act
  rw [if_neg (by decide), if_neg (by decide), if_neg (by decide), if_pos rfl, hk]
  rfl
 rw [hR]
 rw [hF1] at hq
 have HB := Lib.hid bW
 have kb := (Blk.new w 34 #[.int .i64 4, .int .i64 n, .slice A bs.length c]).cell 1
 clear h hb hA hc hf bW hR hF1 hk hkb hk62
 go_enter Tryz.func73, Tryz.ntmps73
 go_wp2_with (go_at_call 74; refine hq.mono ?_; rintro e w1 ⟨rfl, hJ1, hW1⟩)
 go_returns
 exact ⟨rfl, F1, rfl, hJ1, (Went.of_below X F HB.out).trans hW1⟩
set_option maxRecDepth 100000 in
set_option maxHeartbeats 1000000 in
theorem does_drop : ActDoes 75 5 := by
 intro w X F n A c bs h hb hA hc hf
 obtain ⟨k, hk, hk62, hkb⟩ := hf.held
 have bW := below_one w (.cells #[.int .i64 5, .int .i64 n, .slice A bs.length c] 34)
 have hq := jobDropI _ X F (h.below bW) n hf.num k hk (by omega)
 obtain ⟨F1, hF1⟩ : ∃ F1, F.holds (dropped k n) F.peak = F1 := ⟨_, rfl⟩
 have hR : F.pl.act X.K.fl 5 n bs = (F1.pl, -1) := by
  rw [<- hF1]
  unfold PF.act
  rw [if_neg (by decide), if_neg (by decide), if_neg (by decide), if_neg (by decide), if_pos rfl, hk]
  rfl
 rw [hR]
 rw [hF1] at hq
 have HB := Lib.hid bW
 have kb := (Blk.new w 34 #[.int .i64 5, .int .i64 n, .slice A bs.length c]).cell 1
 clear h hb hA hc hf bW hR hF1 hk hkb hk62
 go_enter Tryz.func75, Tryz.ntmps75
 go_wp2_with (go_at_call 76; refine hq.mono ?_; rintro e w1 ⟨rfl, hJ1, hW1⟩)
 go_returns
 exact ⟨rfl, F1, rfl, hJ1, (Went.of_below X F HB.out).trans hW1⟩
set_option maxRecDepth 100000 in
set_option maxHeartbeats 1000000 in
theorem does_end : ActDoes 77 6 := by
 intro w X F n A c bs h hb hA hc hf
 have bW := below_one w (.cells #[.int .i64 6, .int .i64 n, .slice A bs.length c] 34)
 have hJ := h.below bW
 have hR : F.pl.act X.K.fl 6 n bs = (F.pl, n % 256) := by simp [PF.act]
 rw [hR]
 have HB := Lib.hid bW
 have HJ := Lib.hid hJ
 have ha := i64_and255 n
 have kb := (Blk.new w 34 #[.int .i64 6, .int .i64 n, .slice A bs.length c]).cell 1
 clear h hb hA hc hf bW hR hJ
 go_enter Tryz.func77, Tryz.ntmps77
 go_wp2_with fail
 go_returns
 exact ⟨rfl, F, rfl, HJ.out, Went.of_below X F HB.out⟩
theorem does_kind {k : Int} {id : FuncId} (h : kindOf k = some id) : ActDoes id k /\ ∀ args W, (callFunc id args).run Tryz.prog W = .ok (.enter id args) W := by
 unfold kindOf at h
 split at h
 · subst k; cases h; exact ⟨does_copy, enters_of Tryz.func69 (by kernel_rfl) rfl⟩
 split at h
 · subst k; cases h; exact ⟨does_out, enters_of Tryz.func70 (by kernel_rfl) rfl⟩
 split at h
 · subst k; cases h; exact ⟨does_err, enters_of Tryz.func72 (by kernel_rfl) rfl⟩
 split at h
 · subst k; cases h; exact ⟨does_hold, enters_of Tryz.func73 (by kernel_rfl) rfl⟩
 split at h
 · subst k; cases h; exact ⟨does_drop, enters_of Tryz.func75 (by kernel_rfl) rfl⟩
 split at h
 · subst k; cases h; exact ⟨does_end, enters_of Tryz.func77 (by kernel_rfl) rfl⟩
 cases h
theorem PF.act_none {fl : List (Int × Int)} {s : PF} {k n : Int} {bs : List UInt8} (h : kindOf k = none) : s.act fl k n bs = (s, -1) := by
 unfold kindOf at h
 unfold PF.act
 repeat' split at h
 all_goals first | (cases h; done) | (simp [*])
end
section
open Go.RowKit Go.Maps Go.Shelf
structure ActIt where
 k : Int
 n : Int
 A : Option Addr
 c : Nat
 bs : List UInt8
def actC (a : ActIt) : List Value := [.int .i64 a.k, .int .i64 a.n, .slice a.A a.bs.length a.c]
def actsC (l : List ActIt) : List Value := l.flatMap actC
theorem actsC_at {l : List ActIt} {i : Nat} {a : ActIt} (h : l[i]? = some a) (j : Nat) (hj : j < 3) : (actsC l)[i * 3 + j]? = (actC a)[j]? := by
 induction l generalizing i with
 | nil => simp at h
 | cons b l ih =>
   have hl : (actC b).length = 3 := rfl
   have e : actsC (b :: l) = actC b ++ actsC l := rfl
   cases i with
   | zero =>
     obtain rfl : b = a := by simpa using h
     rw [e, List.getElem?_append_left (by rw [hl]; omega)]
     congr 1
     omega
   | succ i =>
     rw [e, List.getElem?_append_right (by rw [hl]; omega), hl, show (i + 1) * 3 + j - 3 = i * 3 + j by omega]
     exact ih (by simpa using h)
namespace PF
def acts (fl : List (Int × Int)) : PF -> List ActIt -> PF × Int
 | s, [] => (s, 0)
 | s, a :: l => if 0 <= (s.act fl a.k a.n a.bs).2 then s.act fl a.k a.n a.bs else acts fl (s.act fl a.k a.n a.bs).1 l
def FitsAll (fl : List (Int × Int)) : PF -> List ActIt -> Prop
 | _, [] => True
 | s, a :: l => s.Fits fl a.k a.n a.bs /\ FitsAll fl (s.act fl a.k a.n a.bs).1 l
end PF
structure ActsIn (w : World) (L bl bk : Nat) (l : List ActIt) : Prop where
 box : ∃ v, Blk w bl 31 #[v] /\ w.ownsRow L 34 3 v l.length (actsC l)
 bytes : ∀ a ∈ l, a.bs.length <= a.c /\ w.ownsRow L 5 1 (.slice a.A a.bs.length a.c) a.bs.length (bytesC a.bs)
 kinds : ∃ mb, Blk w bk 95 #[.map (some mb)] /\ MapOf w Tryz.prog 3 mb 6 kindF /\ L <= mb
 low : L <= bl /\ L <= bk
def KeptFrom (L : Nat) (w w' : World) : Prop := w.heap.size <= w'.heap.size /\ ∀ g, L <= g -> g < w.heap.size -> w'.heap[g]? = w.heap[g]?
theorem KeptFrom.refl (L : Nat) (w : World) : KeptFrom L w w := ⟨Nat.le_refl _, fun _ _ _ => rfl⟩
theorem ActsIn.keep {w w' : World} {L bl bk : Nat} {l : List ActIt} (h : ActsIn w L bl bk l) (hk : KeptFrom L w w') : ActsIn w' L bl bk l := by
 obtain ⟨v, h1, h2⟩ := h.box
 obtain ⟨mb, h3, h4, h5⟩ := h.kinds
 refine ⟨⟨v, (hk.2 _ h.low.1 h1.lt).trans h1, ownsRow_same h2 fun g hg => hk.2 g (h2.lt g hg).1 (h2.lt g hg).2⟩, fun a ha => ?_, ⟨mb, (hk.2 _ h.low.2 h3.lt).trans h3, h4.same (hk.2 _ h5 h4.lt), h5⟩, h.low⟩
 obtain ⟨h6, h7⟩ := h.bytes a ha
 exact ⟨h6, ownsRow_same h7 fun g hg => hk.2 g (h7.lt g hg).1 (h7.lt g hg).2⟩
structure MainSt (X : Job) (F0 : Flow) (w0 : World) (L : Nat) (R : PF × Int) (rest : List ActIt) (F : Flow) (w : World) : Prop where
 job : JobOf w X F
 went : Went X F0 F w0 w
 kept : KeptFrom L w0 w
 off : ∀ g, L <= g -> g < w0.heap.size -> g ∉ X.foot F
 ends : F.pl.acts X.K.fl rest = R
 fits : F.pl.FitsAll X.K.fl rest
theorem MainSt.step {X : Job} {F0 F F' : Flow} {w0 w w' : World} {L : Nat} {R : PF × Int} {a : ActIt} {rest : List ActIt} (h : MainSt X F0 w0 L R (a :: rest) F w) (hJ : JobOf w' X F') (hW : Went X F F' w w') (hp : F'.pl = (F.pl.act X.K.fl a.k a.n a.bs).1) (hn : (F.pl.act X.K.fl a.k a.n a.bs).2 < 0) : MainSt X F0 w0 L R rest F' w' := by
 have hend := h.ends
 rw [PF.acts, if_neg (by omega)] at hend
 refine ⟨hJ, h.went.trans hW, ⟨Nat.le_trans h.kept.1 hW.turns.size, fun g h1 h2 => ?_⟩, fun g h1 h2 => ?_, by rw [hp]; exact hend, by rw [hp]; exact h.fits.2⟩
 · exact (hW.away (Nat.lt_of_lt_of_le h2 h.kept.1) (h.off g h1 h2)).1.trans (h.kept.2 g h1 h2)
 · exact (hW.away (Nat.lt_of_lt_of_le h2 h.kept.1) (h.off g h1 h2)).2
theorem MainSt.below {X : Job} {F0 F : Flow} {w0 w w' : World} {L : Nat} {R : PF × Int} {rest : List ActIt} (h : MainSt X F0 w0 L R rest F w) (hb : Below w.heap.size w w') : MainSt X F0 w0 L R rest F w' :=
 ⟨h.job.below hb, h.went.trans (.of_below X F hb), ⟨Nat.le_trans h.kept.1 hb.size, fun g h1 h2 => (hb.block g (Nat.lt_of_lt_of_le h2 h.kept.1)).trans (h.kept.2 g h1 h2)⟩, h.off, h.ends, h.fits⟩
theorem actZero (w : World) : (zeroValue 100).run Tryz.prog w = .ok (.agg #[.nilFunc]) w := by kernel_rfl
set_option maxRecDepth 100000 in
set_option maxHeartbeats 2000000 in
theorem acts_main (w : World) (X : Job) (F : Flow) (h : JobOf w X F) (L bl bk : Nat) (l : List ActIt) (hl : ActsIn w L bl bk l) (hoff : ∀ g, L <= g -> g < w.heap.size -> g ∉ X.foot F) (hfit : F.pl.FitsAll X.K.fl l) (hk : ∀ a ∈ l, -9223372036854775808 <= a.k /\ a.k <= 9223372036854775807) (hlen : l.length <= 2097152) :
 Calls Tryz.prog 40 #[.pointer (some ⟨X.p, 0, none⟩), .pointer (some ⟨bl, 0, none⟩), .pointer (some ⟨bk, 0, none⟩)] w fun e w' => e = .returned (.int .i64 (F.pl.acts X.K.fl l).2) /\ ∃ F', F'.pl = (F.pl.acts X.K.fl l).1 /\ JobOf w' X F' /\ Went X F F' w w' := by
 obtain ⟨R, hR⟩ : ∃ R, F.pl.acts X.K.fl l = R := ⟨_, rfl⟩
 rw [hR]
 have H0 : Hid (MainSt X F w L R (l.drop 0) F w) := Lib.hid ⟨h, Went.refl _ _ _, KeptFrom.refl _ _, hoff, hR, hfit⟩
 have HA := Lib.hid hl
 have HK := Lib.hid hk
 obtain ⟨v, hb0, hrow⟩ := hl.box
 obtain ⟨n, hn⟩ : ∃ n, l.length = n := ⟨_, rfl⟩
 rw [hn] at hlen
 obtain ⟨A, cp, hv, _⟩ := own_slice hrow
 rw [hn] at hv
 subst hv
 have c0 : w.cell? ⟨bl, 0, none⟩ = some (.slice A n cp) := hb0.cell 0
 have HN := Lib.hid hn
 have HROW := Lib.hid hrow
 clear hb0 hrow hl hk hR h hoff hfit hn
 go_enter Tryz.func40, Tryz.ntmps40
 go_wp2_with fail
 go_loopw [12] (fun iv wr => ∃ (i : Nat) (F1 : Flow), i <= n /\ iv = .int .i64 (i : Int) /\ Hid (MainSt X F w L R (l.drop i) F1 wr)) (fun iv _ => n - (intOf iv).toNat)
 case atStart => exact ⟨0, F, Nat.zero_le _, rfl, H0⟩
 case round =>
  obtain ⟨i, F1, hi, rfl, HS⟩ := hrel
  by_cases hlt : i < n
  · obtain ⟨a, ha⟩ : ∃ a, l[i]? = some a := ⟨_, List.getElem?_eq_getElem (by rw [HN.out]; exact hlt)⟩
    have hdrop : l.drop i = a :: l.drop (i + 1) := by
     rw [List.drop_eq_getElem_cons (by rw [HN.out]; exact hlt)]
     rw [List.getElem?_eq_getElem (by rw [HN.out]; exact hlt)] at ha
     rw [Option.some.inj ha]
    have hmem : a ∈ l := List.mem_of_getElem? ha
    have HAW := HA.out.keep HS.out.kept
    have hke := HK.out a hmem
    have hbytes := HAW.bytes a hmem
    obtain ⟨mb, hbk, hmap, _⟩ := HAW.kinds
    have hS := HS.out
    rw [hdrop] at hS
    obtain ⟨g, hA, hra⟩ : ∃ g, A = some ⟨g, 0, none⟩ /\ wr.rangeAt g (i * 3) (actC a) := by
     have hr : wr.ownsRow L 34 3 (.slice A n cp) l.length (actsC l) := ownsRow_same HROW.out fun g hg => HS.out.kept.2 g (HROW.out.lt g hg).1 (HROW.out.lt g hg).2
     rcases hr.2 with ⟨_, h0⟩ | ⟨g, cap, cur, e, _, hgb, _, _, _, hcur⟩
     · rw [HN.out] at h0; omega
     · simp only [Value.slice.injEq] at e
       refine ⟨g, e.1, fun j v hv => ?_⟩
       have hj : j < 3 := (List.getElem?_eq_some_iff.1 hv).1
       have h1 := (actsC_at ha j hj).trans hv
       rw [<- hcur, List.getElem?_take] at h1
       split at h1
       · rw [Array.getElem?_toList] at h1
         exact (cell_of_row wr g (i * 3 + j) cur 34 (0, 0) hgb).trans h1
       · cases h1
    subst hA
    obtain ⟨k, m, A', c', bs⟩ := a
    obtain ⟨q, hq⟩ : ∃ q, bs.length = q := ⟨_, rfl⟩
    have hrd : Reads wr wr.heap.size 1 A' bs.length (bytesC bs) := by
     obtain ⟨_, _, e, _, _, h⟩ := own_slice hbytes.2
     cases e
     exact h
    have hao : ∀ ad, A' = some ad -> ad.block ∉ X.foot F1 := fun ad e => by
     have h1 := HA.out.bytes _ hmem
     have h2 := h1.2.lt ad.block (by rw [e]; rfl)
     exact HS.out.off _ h2.1 h2.2
    have hkc : wr.cell? ⟨bk, 0, none⟩ = some (.map (some mb)) := hbk.cell 0
    have hcc := hbytes.1
    have hlk := kindF_of k
    obtain ⟨W, hW⟩ : ∃ W, wr.alloc (.cells #[.int .i64 k, .int .i64 m, .slice A' q c'] 34) = W := ⟨_, rfl⟩
    unfold actC at hra
    simp only at hra hcc hke
    rw [hq] at hra hcc
    have hone : (#[.int .i64 k, .int .i64 m, .slice A' q c'] : Array Value).all (·.oneCell') = true := by simp [Value.oneCell']
    have HRD := Lib.hid hrd
    have HAO := Lib.hid hao
    have HQ := Lib.hid hq
    have HMAP := Lib.hid hmap
    have HS2 := Lib.hid hS
    clear hrd hao hq hmap hS hdrop hmem HAW hbytes hbk hW
    cases hkd : kindOf k with
    | none =>
      rw [hkd] at hlk
      go_wp2_with (first
       | (refine wpList_load_mid rfl _ _ rfl g (i * 3) rfl [.int .i64 k, .int .i64 m, .slice A' q c'] _ hra Tryz.underlying34 rfl (by kernel_rfl) ?_)
       | (refine wpList_store_blk rfl 34 (.tmp 6) (.tmp 15) rfl wr.heap.size 34 #[.int .i64 0, .int .i64 0, .slice none 0 0] #[.int .i64 k, .int .i64 m, .slice A' q c'] rfl rfl (Blk.new wr _ _) rfl (by kernel_rfl) hone ?_; intro w2 b2 g2
          have hb2 : Below wr.heap.size wr w2 := (below_one wr _).grown g2 (by simp) (fun j hj => by cases hj; exact Nat.le_refl _)
          have k0 : w2.cell? ⟨wr.heap.size, 0, none⟩ = some (.int .i64 k) := b2.cell 0
          have lk := b2.lt
          have hkc2 : w2.cell? ⟨bk, 0, none⟩ = some (.map (some mb)) := (hb2.cell (World.block_lt_of_cell? wr _ hkc)).trans hkc
          have hmap2 := HMAP.out.same (hb2.block _ HMAP.out.lt))
       | (at_lookup; refine wpList_look_of _ rfl _ _ 95 rfl 3 100 intKeys Tryz.underlying95 (.agg #[.nilFunc]) (actZero _) mb 6 kindF rfl hmap2 _ (kindL k) rfl (keyOf_int_mk Tryz.underlying3 (WalkArith.wf_i64 (by omega))) ?_; rw [hlk]; simp only [Option.map_none, Option.getD_none, Option.isSome_none])
       | (refine wpList_store_blk rfl 100 (.tmp 7) (.tmp 21) rfl w2.heap.size 100 #[.nilFunc] #[.nilFunc] rfl rfl (Blk.new w2 _ _) rfl (by kernel_rfl) (by simp [Value.oneCell']) ?_; intro w3 b3 g3
          have hb3 : Below w2.heap.size w2 w3 := (below_one w2 _).grown g3 (by simp) (fun j hj => by cases hj; exact Nat.le_refl _)
          have hbw : Below wr.heap.size wr w3 := below_step hb2 hb3 (Nat.le_refl _)))
      have hrr := PF.act_none (fl := X.K.fl) (s := F1.pl) (n := m) (bs := bs) hkd
      go_roundw
      case rel => exact ⟨i + 1, F1, by omega, by go_num, Lib.hid ((HS2.out.step HS2.out.job (Went.refl _ _ _) (by simp only [hrr]) (by simp only [hrr]; decide)).below hbw)⟩
      case measure => simp [intOf]; omega
    | some id =>
      rw [hkd] at hlk
      obtain ⟨hdo, hen⟩ := does_kind hkd
      have hcall := fun W hb => hdo W X F1 m A' c' bs (HS2.out.job.below hb) ((HRD.out.below hb).more hb.size) HAO.out (by rw [HQ.out]; exact hcc) HS2.out.fits.1
      rw [HQ.out] at hcall
      obtain ⟨Z, hZ⟩ : ∃ Z, F1.pl.act X.K.fl k m bs = Z := ⟨_, rfl⟩
      rw [hZ] at hcall
      have HCALL := Lib.hid hcall
      have HZ := Lib.hid hZ
      clear hcall hZ hdo
      by_cases hz : 0 <= Z.2
      · skip
        go_wp2_with (first
         | (refine wpList_load_mid rfl _ _ rfl g (i * 3) rfl [.int .i64 k, .int .i64 m, .slice A' q c'] _ hra Tryz.underlying34 rfl (by kernel_rfl) ?_)
         | (refine wpList_store_blk rfl 34 (.tmp 6) (.tmp 15) rfl wr.heap.size 34 #[.int .i64 0, .int .i64 0, .slice none 0 0] #[.int .i64 k, .int .i64 m, .slice A' q c'] rfl rfl (Blk.new wr _ _) rfl (by kernel_rfl) hone ?_; intro w2 b2 g2
            have hb2 : Below wr.heap.size wr w2 := (below_one wr _).grown g2 (by simp) (fun j hj => by cases hj; exact Nat.le_refl _)
            have k0 : w2.cell? ⟨wr.heap.size, 0, none⟩ = some (.int .i64 k) := b2.cell 0
            have lk := b2.lt
            have hkc2 : w2.cell? ⟨bk, 0, none⟩ = some (.map (some mb)) := (hb2.cell (World.block_lt_of_cell? wr _ hkc)).trans hkc
            have hmap2 := HMAP.out.same (hb2.block _ HMAP.out.lt))
         | (at_lookup; refine wpList_look_of _ rfl _ _ 95 rfl 3 100 intKeys Tryz.underlying95 (.agg #[.nilFunc]) (actZero _) mb 6 kindF rfl hmap2 _ (kindL k) rfl (keyOf_int_mk Tryz.underlying3 (WalkArith.wf_i64 (by omega))) ?_; rw [hlk]; simp only [Option.map_some, Option.getD_some, Option.isSome_some, kindV])
         | (refine wpList_store_blk rfl 100 (.tmp 7) (.tmp 21) rfl w2.heap.size 100 #[.nilFunc] #[.func (.func id) #[] #[]] rfl rfl (Blk.new w2 _ _) rfl (by kernel_rfl) (by simp [Value.oneCell']) ?_; intro w3 b3 g3
            have hb3 : Below w2.heap.size w2 w3 := (below_one w2 _).grown g3 (by simp) (fun j hj => by cases hj; exact Nat.le_refl _)
            have hbw : Below wr.heap.size wr w3 := below_step hb2 hb3 (Nat.le_refl _)
            have f0 : w3.cell? ⟨w2.heap.size, 0, none⟩ = some (.func (.func id) #[] #[]) := b3.cell 0
            have lf := b3.lt
            have b23 : Blk w3 wr.heap.size 34 #[.int .i64 k, .int .i64 m, .slice A' q c'] := Blk.on b2 hb3)
         | (refine wpList_load_row rfl 34 (.tmp 6) rfl wr.heap.size rfl 34 #[.int .i64 k, .int .i64 m, .slice A' q c'] (0, 0) _ b23 Tryz.underlying34 rfl (by kernel_rfl) ?_)
         | (refine (HCALL.out w3 hbw).mono ?_; rintro e w4 ⟨rfl, F2, hF2, hJ4, hW4⟩))
        go_returns
        have he := HS2.out.ends
        rw [PF.acts] at he
        simp only at he
        rw [HZ.out, if_pos hz] at he
        rw [<- he]
        exact ⟨rfl, F2, hF2, hJ4, (HS2.out.below hbw).went.trans hW4⟩
      · skip
        go_wp2_with (first
         | (refine wpList_load_mid rfl _ _ rfl g (i * 3) rfl [.int .i64 k, .int .i64 m, .slice A' q c'] _ hra Tryz.underlying34 rfl (by kernel_rfl) ?_)
         | (refine wpList_store_blk rfl 34 (.tmp 6) (.tmp 15) rfl wr.heap.size 34 #[.int .i64 0, .int .i64 0, .slice none 0 0] #[.int .i64 k, .int .i64 m, .slice A' q c'] rfl rfl (Blk.new wr _ _) rfl (by kernel_rfl) hone ?_; intro w2 b2 g2
            have hb2 : Below wr.heap.size wr w2 := (below_one wr _).grown g2 (by simp) (fun j hj => by cases hj; exact Nat.le_refl _)
            have k0 : w2.cell? ⟨wr.heap.size, 0, none⟩ = some (.int .i64 k) := b2.cell 0
            have lk := b2.lt
            have hkc2 : w2.cell? ⟨bk, 0, none⟩ = some (.map (some mb)) := (hb2.cell (World.block_lt_of_cell? wr _ hkc)).trans hkc
            have hmap2 := HMAP.out.same (hb2.block _ HMAP.out.lt))
         | (at_lookup; refine wpList_look_of _ rfl _ _ 95 rfl 3 100 intKeys Tryz.underlying95 (.agg #[.nilFunc]) (actZero _) mb 6 kindF rfl hmap2 _ (kindL k) rfl (keyOf_int_mk Tryz.underlying3 (WalkArith.wf_i64 (by omega))) ?_; rw [hlk]; simp only [Option.map_some, Option.getD_some, Option.isSome_some, kindV])
         | (refine wpList_store_blk rfl 100 (.tmp 7) (.tmp 21) rfl w2.heap.size 100 #[.nilFunc] #[.func (.func id) #[] #[]] rfl rfl (Blk.new w2 _ _) rfl (by kernel_rfl) (by simp [Value.oneCell']) ?_; intro w3 b3 g3
            have hb3 : Below w2.heap.size w2 w3 := (below_one w2 _).grown g3 (by simp) (fun j hj => by cases hj; exact Nat.le_refl _)
            have hbw : Below wr.heap.size wr w3 := below_step hb2 hb3 (Nat.le_refl _)
            have f0 : w3.cell? ⟨w2.heap.size, 0, none⟩ = some (.func (.func id) #[] #[]) := b3.cell 0
            have lf := b3.lt
            have b23 : Blk w3 wr.heap.size 34 #[.int .i64 k, .int .i64 m, .slice A' q c'] := Blk.on b2 hb3)
         | (refine wpList_load_row rfl 34 (.tmp 6) rfl wr.heap.size rfl 34 #[.int .i64 k, .int .i64 m, .slice A' q c'] (0, 0) _ b23 Tryz.underlying34 rfl (by kernel_rfl) ?_)
         | (refine (HCALL.out w3 hbw).mono ?_; rintro e w4 ⟨rfl, F2, hF2, hJ4, hW4⟩))
        go_roundw
        case rel => exact ⟨i + 1, F2, by omega, by go_num, Lib.hid ((HS2.out.below hbw).step hJ4 hW4 (by rw [hF2]; simp only [HZ.out]) (by simp only [HZ.out]; omega))⟩
        case measure => simp [intOf]; omega
  · obtain rfl : i = n := by omega
    have hS := HS.out
    have he := hS.ends
    rw [List.drop_eq_nil_of_le (by rw [HN.out]; exact Nat.le_refl _)] at he
    go_wp2_with fail
    go_returns
    rw [<- he]
    exact ⟨rfl, F1, rfl, hS.job, hS.went⟩
end
end Go.Proofs.YtffffjngodinnaaGreatDoor
