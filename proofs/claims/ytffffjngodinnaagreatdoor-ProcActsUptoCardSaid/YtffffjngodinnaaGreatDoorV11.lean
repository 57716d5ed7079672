/-
  Parts of the proof.
-/
import Derived.Test.YtffffjngodinnaaGreatDoorV10
import Derived.Deep.RegionHeld3
namespace Go.Proofs.YtffffjngodinnaaGreatDoor
section
open Go.RowKit Go.Maps
def regsOf : Code -> List Code
 | .region i ops b => [.region i ops b]
 | .loop c => regsOf c
 | .seq a b => regsOf a ++ regsOf b
 | .block _ c => regsOf c
 | .scope c => regsOf c
 | .cond _ a b => regsOf a ++ regsOf b
 | _ => []
def isReg (k : Nat) : Code -> Bool
 | .region i _ _ => i == k
 | _ => false
noncomputable def callReg (k : Nat) : Code := (Tryz.f143.body.bind (fun c => (regsOf c).find? (isReg k))).getD .skip
theorem below_drew {B : Nat} (w : World) (k : Nat) : Below B w (w.drewN k) := below_drewN (Below.refl _ _) k
def storeHere (ty : TypeId) (x y : Value) : Sem Unit := Instr.storeAt ty x y
theorem storeHere_eq (ty : TypeId) (x y : Value) : Instr.storeAt ty x y = storeHere ty x y := rfl
theorem run_storeHere {P : Program} {w : World} {g : Nat} {t : TypeId} {old : Array Value} (ty : TypeId) (cells : Array Value) (h : Blk w g t old) (hs : old.size = cells.size) (hi : (P.info? ty).map (·.size) = some cells.size) (h1 : cells.all (·.oneCell') = true) :
 ∃ w', (storeHere ty (.pointer (some ⟨g, 0, none⟩)) (.agg cells)).run P w = .ok () w' /\ Blk w' g t cells /\ w.grownBy w' (some g) :=
 ⟨_, run_store_blk (P := P) ty cells h hs hi h1, setRow_heap w g old cells t (0, 0) h, ⟨rfl, rfl, rfl, by simp [World.setRow], fun k _ hk => setRow_other w g k _ (fun e => hk (by rw [e]))⟩⟩
section
attribute [local go_sem ↓ high] storeHere_eq
end
end
section
set_option maxRecDepth 100000
open Go.RowKit Go.Maps
structure Job where
 p : Nat
 B : PS
 K : KS
 src : Nat
 sink : Bool -> Nat
structure Flow where
 steps : Nat
 held : Int
 peak : Int
 sv : Value
 inb : List UInt8
 val : Bool -> Value
 said : Bool -> List UInt8
 used : Nat
def Job.kF (X : Job) (F : Flow) : KS := { X.K with used := F.used }
def Job.J (X : Job) (F : Flow) : PS := { X.B with steps := F.steps, held := F.held, peak := F.peak }
def Job.D (X : Job) : Nat -> Value := fun i => if i = 0 then sourceV X.src else if i = 1 then sinkV (X.sink true) else if i = 2 then sinkV (X.sink false) else .nilIface
def fdOf (b : Bool) : Nat := if b then 1 else 2
theorem Job.D_sink (X : Job) (b : Bool) : X.D (fdOf b) = sinkV (X.sink b) := by cases b <;> rfl
def Job.foot (X : Job) (F : Flow) : List Nat :=
 (X.B.foot X.p ++ X.K.foot X.B.k) ++ [X.B.tb, X.src, X.sink true, X.sink false] ++ (F.sv.ownBlock.toList ++ (F.val true).ownBlock.toList ++ (F.val false).ownBlock.toList)
structure JobOf (w : World) (X : Job) (F : Flow) : Prop where
 proc : ProcOf w X.p (X.J F)
 kern : KernOf w X.B.k (X.kF F)
 table : TableOf w X.B.tb X.B.k X.D
 may : X.B.may = true
 top : X.B.top = true
 at_ : X.B.at_ = 0
 log : X.B.log = []
 src : Blk w X.src 159 #[F.sv]
 inp : OffRow w 0 5 F.sv F.inb.length (bytesC F.inb)
 sink : ∀ b, SinkAt w (X.sink b) (F.val b)
 row : ∀ b, OffRow w 0 5 (F.val b) (F.said b).length (bytesC (F.said b))
 sinks : X.sink true ≠ X.sink false
 rows : ∀ g, (F.val true).ownBlock = some g -> (F.val false).ownBlock ≠ some g
 inrow : ∀ b g, F.sv.ownBlock = some g -> (F.val b).ownBlock ≠ some g
 thing : ∀ b, X.K.tf (numK (if b then 2 else 3)) = some (sinkV (X.sink b))
section
variable {w w' w'' : World} {X : Job} {F F' F'' : Flow} {S : List Nat}
theorem JobOf.foot_lt (h : JobOf w X F) : ∀ g ∈ X.foot F, g < w.heap.size := by
 intro g hg
 simp only [Job.foot, List.mem_append, List.mem_cons, List.not_mem_nil, or_false, Option.mem_toList] at hg
 rcases hg with ((hg | hg) | rfl | rfl | rfl | rfl) | (hg | hg) | hg
 · exact h.proc.foot_lt g hg
 · exact h.kern.foot_lt g hg
 · exact Blk.lt h.table
 · exact h.src.lt
 · exact (h.sink true).lt
 · exact (h.sink false).lt
 · exact (h.inp.lt hg).2
 · exact ((h.row true).lt hg).2
 · exact ((h.row false).lt hg).2
theorem JobOf.same (h : JobOf w X F) (hb : ∀ g ∈ X.foot F, w'.heap[g]? = w.heap[g]?) : JobOf w' X F := by
 have m : ∀ g, (g ∈ X.B.foot X.p \/ g ∈ X.K.foot X.B.k \/ g = X.B.tb \/ g = X.src \/ (∃ b, g = X.sink b) \/ F.sv.ownBlock = some g \/ (∃ b, (F.val b).ownBlock = some g)) -> w'.heap[g]? = w.heap[g]? := by
  intro g hg
  refine hb g ?_
  simp only [Job.foot, List.mem_append, List.mem_cons, List.not_mem_nil, or_false, Option.mem_toList]
  rcases hg with hg | hg | rfl | rfl | ⟨b, rfl⟩ | hg | ⟨b, hg⟩
  · simp [hg]
  · simp [hg]
  · simp
  · simp
  · cases b <;> simp
  · simp [hg]
  · cases b <;> simp [hg]
 exact { h with
  proc := h.proc.same fun g hg => m g (.inl hg)
  kern := h.kern.same fun g hg => m g (.inr (.inl hg))
  table := (m _ (.inr (.inr (.inl rfl)))).trans h.table
  src := (m _ (.inr (.inr (.inr (.inl rfl))))).trans h.src
  inp := h.inp.same fun g hg => m g (.inr (.inr (.inr (.inr (.inr (.inl hg))))))
  sink := fun b => (m _ (.inr (.inr (.inr (.inr (.inl ⟨b, rfl⟩)))))).trans (h.sink b)
  row := fun b => (h.row b).same fun g hg => m g (.inr (.inr (.inr (.inr (.inr (.inr ⟨b, hg⟩)))))) }
theorem JobOf.turns (h : JobOf w X F) (ht : Turns S w w') (hS : ∀ g ∈ X.foot F, g ∉ S) : JobOf w' X F := h.same fun g hg => ht.block g (h.foot_lt g hg) (hS g hg)
theorem JobOf.below (h : JobOf w X F) (hb : Below w.heap.size w w') : JobOf w' X F := h.turns (Turns.of_below hb) (by simp)
structure Went (X : Job) (F F' : Flow) (w w' : World) : Prop where
 turns : Turns (X.foot F) w w'
 news : ∀ g ∈ X.foot F', g ∈ X.foot F \/ w.heap.size <= g
theorem Went.refl (X : Job) (F : Flow) (w : World) : Went X F F w w := ⟨Turns.refl _ w, fun _ h => .inl h⟩
theorem Went.trans (h : Went X F F' w w') (h' : Went X F' F'' w' w'') : Went X F F'' w w'' := by
 refine ⟨h.turns.then h'.turns fun g hg hlt => ?_, fun g hg => ?_⟩
 · rcases h.news g hg with h1 | h1
   · exact h1
   · omega
 · rcases h'.news g hg with h1 | h1
   · exact h.news g h1
   · exact .inr (Nat.le_trans h.turns.size h1)
theorem Went.of_turns (X : Job) (F : Flow) (h : Turns [] w w') : Went X F F w w' := ⟨h.more (by simp), fun _ h => .inl h⟩
theorem Went.of_below (X : Job) (F : Flow) (h : Below w.heap.size w w') : Went X F F w w' := .of_turns X F (.of_below h)
theorem Went.away {g : Nat} (h : Went X F F' w w') (hg : g < w.heap.size) (ha : g ∉ X.foot F) : w'.heap[g]? = w.heap[g]? /\ g ∉ X.foot F' :=
 ⟨h.turns.block g hg ha, fun hm => by rcases h.news g hm with h1 | h1; exact ha h1; omega⟩
theorem JobOf.off {g : Nat} {t : TypeId} {cs : Array Value} (h : JobOf w X F) (hg : Blk w g t cs) (h1 : t ≠ 85) (h2 : t ≠ 9) (h3 : t ≠ 252) (h4 : t ≠ 142) (h5 : t ≠ 44)
 (h6 : t ≠ 150) (h7 : t ≠ 159) (h8 : t ≠ 161) (h9 : t ≠ 5) : g ∉ X.foot F := by
 intro hm
 simp only [Job.foot, List.mem_append, List.mem_cons, List.not_mem_nil, or_false, Option.mem_toList] at hm
 rcases hm with ((hm | hm) | rfl | rfl | rfl | rfl) | (hm | hm) | hm
 · exact h.proc.off hg h1 h2 h3 hm
 · exact h.kern.off hg h4 h5 hm
 · exact Blk.ne_ hg h.table h6 rfl
 · exact Blk.ne_ hg h.src h7 rfl
 · exact Blk.ne_ hg (h.sink true) h8 rfl
 · exact Blk.ne_ hg (h.sink false) h8 rfl
 · exact h.inp.blk_ne hg h9.symm hm
 · exact (h.row true).blk_ne hg h9.symm hm
 · exact (h.row false).blk_ne hg h9.symm hm
end
def Flow.took (F : Flow) (X : Job) : Nat := if F.used = X.K.fl.length then F.used else F.used + 1
def Flow.wrote (F : Flow) (X : Job) (b : Bool) (bs : List UInt8) (v : Value) : Flow := { F with steps := F.steps + 1, val := fun b' => if b' = b then v else F.val b', said := fun b' => if b' = b then F.said b ++ bs else F.said b', used := F.took X }
def Flow.failed (F : Flow) (X : Job) : Flow := { F with steps := F.steps + 1, used := F.took X }
theorem Job.took (X : Job) (F : Flow) : (X.kF F).took = { X.K with used := F.took X } := rfl
set_option maxHeartbeats 2000000 in
theorem jobWrite (w : World) (X : Job) (F : Flow) (h : JobOf w X F) (hst : F.steps < 4611686018427387904) (b : Bool) (A : Option Addr) (c : Nat) (bs : List UInt8) (hb : Reads w w.heap.size 1 A bs.length (bytesC bs)) (hA : ∀ ad, A = some ad -> ad.block ∉ X.foot F) (hc : bs.length <= c) (hpos : 0 < bs.length)
 (hl : (F.said b).length + bs.length <= 140737488355000)
 (hf : wErr (X.kF F).next = 0) (n : Nat) (hn : shortN (bs.length : Int) (X.kF F).next = (n : Int)) :
 Calls Tryz.prog 107 #[.pointer (some ⟨X.p, 0, none⟩), .int .i64 (fdOf b : Nat), .slice A bs.length c] w fun e w' => e = .returned (.tuple #[.int .i64 (n : Int), .int .i64 0]) /\
  ∃ v, JobOf w' X (F.wrote X b (bs.take n) v) /\ Went X F (F.wrote X b (bs.take n) v) w w' := by
 have hnl : n <= bs.length := by
  have := (shortN_le (m := (bs.length : Int)) (f := (X.kF F).next) (by omega)).2
  omega
 have hS : ∀ g ∈ [X.B.k, X.sink b] ++ (F.val b).ownBlock.toList, g < w.heap.size := by
  intro g hg
  simp only [List.mem_append, List.mem_cons, List.not_mem_nil, or_false, Option.mem_toList] at hg
  rcases hg with (rfl | rfl) | hg
  · exact h.kern.blk.lt
  · exact (h.sink b).lt
  · exact ((h.row b).lt hg).2
 have hoff : ∀ g ∈ X.B.foot X.p, g ∉ [X.B.k, X.sink b] ++ (F.val b).ownBlock.toList := by
  intro g hg hm
  have hp : g ∈ (X.J F).foot X.p := hg
  simp only [List.mem_append, List.mem_cons, List.not_mem_nil, or_false, Option.mem_toList] at hm
  rcases hm with (rfl | rfl) | hm
  · exact h.proc.off h.kern.blk (by decide) (by decide) (by decide) hp
  · exact h.proc.off (h.sink b) (by decide) (by decide) (by decide) hp
  · rcases (h.row b).2 with ⟨e, _⟩ | ⟨g', off, cap, cur, e, _, hgb, _⟩
    · rw [e] at hm; simp [Value.ownBlock] at hm
    · obtain rfl : g' = g := by rw [e] at hm; simpa [Value.ownBlock] using hm
      exact h.proc.off (show Blk w g' _ cur from hgb) (by decide) (by decide) (by decide) hp
 refine (procWrite_top w X.p (X.J F) h.proc h.may h.top h.at_ h.log hst (.int .i64 (fdOf b : Nat)) (.slice A bs.length c) rfl rfl (n : Int) 0 rfl ([X.B.k, X.sink b] ++ (F.val b).ownBlock.toList) hS hoff
  (fun W w4 => w.heap.size <= W.heap.size /\ KernOf w4 X.B.k { X.K with used := F.took X } /\ ∃ v', SinkAt w4 (X.sink b) v' /\ OffRow w4 0 5 v' ((F.said b).length + n) (bytesC (F.said b ++ bs.take n)) /\ (v'.ownBlock = (F.val b).ownBlock \/ ∃ g, v'.ownBlock = some g /\ W.heap.size <= g)) ?_).mono ?_
 · intro W hPW hTW
   have hpf : ∀ g ∈ X.K.foot X.B.k, g ∉ [X.p] := fun g hg hm => h.kern.off h.proc.blk (by decide) (by decide) ((List.mem_singleton.1 hm) ▸ hg)
   have hKW := h.kern.turns hTW hpf
   have hTb : TableOf W X.B.tb X.B.k X.D := (hTW.block _ (Blk.lt h.table) (by rw [List.mem_singleton]; exact Blk.ne_ h.table h.proc.blk (by decide))).trans h.table
   have hsW : SinkAt W (X.sink b) (F.val b) := (hTW.block _ (h.sink b).lt (by rw [List.mem_singleton]; exact Blk.ne_ (h.sink b) h.proc.blk (by decide))).trans (h.sink b)
   have hrW : OffRow W 0 5 (F.val b) (F.said b).length (bytesC (F.said b)) := (h.row b).same fun g hg => hTW.block g ((h.row b).lt hg).2 (by rw [List.mem_singleton]; rintro rfl; exact (h.row b).blk_ne h.proc.blk (by decide) hg)
   have hbW : Reads W W.heap.size 1 A bs.length (bytesC bs) := (hb.turns hTW (Nat.le_refl _) (by intro ad hA' hm; rw [List.mem_singleton] at hm; exact hA ad hA' (by rw [hm]; simp [Job.foot, PS.foot]))).more hTW.size
   have hAk : ∀ ad, A = some ad -> ad.block ≠ X.B.k := fun ad hA' hm => hA ad hA' (by rw [hm]; simp [Job.foot, KS.foot])
   refine (sinkOk W X.B.tb X.B.k (X.kF F) X.D hKW hTb (fdOf b) (by cases b <;> decide) (X.sink b) (X.D_sink b) (F.said b) (F.val b) hsW 0 hrW (Nat.zero_le _) A c bs hbW hAk hc hpos hl hf n hn).mono ?_
   rintro e w4 ⟨rfl, hK4, ⟨v', hs4, hr4, hv4⟩, hT4⟩
   rw [Job.took] at hK4
   exact ⟨rfl, hT4, hTW.size, hK4, v', hs4, hr4, hv4⟩
 · rintro e w' ⟨rfl, hP', W, w4, N, ⟨hsW, hK4, v', hs4, hr4, hv4⟩, hN, hT4', hTw4⟩
   have hsz : w.heap.size <= w4.heap.size := hTw4.size
   have hTall : Turns ([X.p] ++ ([X.B.k, X.sink b] ++ (F.val b).ownBlock.toList)) w w' := hTw4.then hT4' fun g hg hlt => by have := (hN g hg).1; omega
   have hsub : ∀ g ∈ [X.p] ++ ([X.B.k, X.sink b] ++ (F.val b).ownBlock.toList), g ∈ X.foot F := by
    intro g hg
    simp only [List.mem_append, List.mem_cons, List.not_mem_nil, or_false, Option.mem_toList] at hg
    simp only [Job.foot, PS.foot, KS.foot, List.mem_append, List.mem_cons, List.not_mem_nil, or_false, Option.mem_toList]
    rcases hg with rfl | (rfl | rfl) | hg
    · simp
    · simp
    · cases b <;> simp
    · cases b <;> simp [hg]
   have hkeep : ∀ g, g < w.heap.size -> g ≠ X.p -> g ≠ X.B.k -> g ≠ X.sink b -> (F.val b).ownBlock ≠ some g -> w'.heap[g]? = w.heap[g]? := by
    intro g hg h1 h2 h3 h4
    refine hTall.block g hg ?_
    simp only [List.mem_append, List.mem_cons, List.not_mem_nil, or_false, Option.mem_toList, not_or]
    exact ⟨h1, ⟨h2, h3⟩, h4⟩
   have hv4' : v'.ownBlock = (F.val b).ownBlock \/ ∃ g, v'.ownBlock = some g /\ W.heap.size <= g := hv4
   have hold : ∀ g, g ∉ N -> g < w4.heap.size -> w'.heap[g]? = w4.heap[g]? := fun g h1 h2 => hT4'.block g h2 h1
   have hNold : ∀ g, g < w.heap.size -> g ∉ N := fun g hg hm => by have := (hN g hm).1; omega
   have hK' : KernOf w' X.B.k { X.K with used := F.took X } := hK4.same fun g hg => hold g (hNold g (h.kern.foot_lt g hg)) (hK4.foot_lt g hg)
   have hs' : SinkAt w' (X.sink b) v' := (hold _ (hNold _ (h.sink b).lt) hs4.lt).trans hs4
   have hr' : OffRow w' 0 5 v' ((F.said b).length + n) (bytesC (F.said b ++ bs.take n)) := hr4.same fun g hg => by
    refine hold g ?_ (hr4.lt hg).2
    rcases hv4 with e | ⟨g', e, hg'⟩
    · exact hNold g ((h.row b).lt (e ▸ hg)).2
    · intro hm
      have := (hN g hm).2
      rw [hg] at e
      cases e
      omega
   have hnew : ∀ g, v'.ownBlock = some g -> (F.val b).ownBlock = some g \/ w.heap.size <= g := by
    intro g hg
    rcases hv4 with e | ⟨g', e, hg'⟩
    · exact .inl (e ▸ hg)
    · rw [hg] at e; cases e
      exact .inr (Nat.le_trans hsW hg')
   have hbk : ∀ {t : TypeId} {cs : Array Value} {g : Nat}, Blk w g t cs -> t ≠ 85 -> t ≠ 142 -> t ≠ 161 -> t ≠ 5 -> w'.heap[g]? = w.heap[g]? := fun hg h1 h2 h3 h4 =>
    hkeep _ hg.lt (Blk.ne_ hg h.proc.blk h1) (Blk.ne_ hg h.kern.blk h2) (Blk.ne_ hg (h.sink b) h3) ((h.row b).blk_ne hg h4.symm)
   have hrow : ∀ {n : Nat} {v : Value} {xs : List Value}, OffRow w 0 5 v n xs -> (∀ g, v.ownBlock = some g -> (F.val b).ownBlock ≠ some g) -> OffRow w' 0 5 v n xs := fun hv hne => hv.same fun g hg =>
    hkeep g (hv.lt hg).2 (fun e => hv.blk_ne h.proc.blk (by decide) (e ▸ hg)) (fun e => hv.blk_ne h.kern.blk (by decide) (e ▸ hg)) (fun e => hv.blk_ne (h.sink b) (by decide) (e ▸ hg)) (hne g hg)
   refine ⟨rfl, v', ?_, hTall.more hsub, ?_⟩
   · exact {
      proc := hP', kern := hK', may := h.may, top := h.top, at_ := h.at_, log := h.log, sinks := h.sinks, thing := h.thing
      table := (hbk h.table (by decide) (by decide) (by decide) (by decide)).trans h.table
      src := (hbk h.src (by decide) (by decide) (by decide) (by decide)).trans h.src
      inp := hrow h.inp (h.inrow b)
      sink := by
       intro b'
       by_cases e : b' = b
       · subst e
         rw [show (F.wrote X b' (bs.take n) v').val b' = v' from if_pos rfl]
         exact hs'
       · have hne : X.sink b' ≠ X.sink b := by cases b <;> cases b' <;> simp_all <;> first | exact h.sinks | exact fun e' => h.sinks e'.symm
         have hx := (hkeep (X.sink b') (h.sink b').lt (Blk.ne_ (h.sink b') h.proc.blk (by decide)) (Blk.ne_ (h.sink b') h.kern.blk (by decide)) hne ((h.row b).blk_ne (h.sink b') (by decide))).trans (h.sink b')
         rw [show (F.wrote X b (bs.take n) v').val b' = F.val b' from if_neg e]
         exact hx
      row := by
       intro b'
       by_cases e : b' = b
       · subst e
         rw [show (F.wrote X b' (bs.take n) v').val b' = v' from if_pos rfl, show (F.wrote X b' (bs.take n) v').said b' = F.said b' ++ bs.take n from if_pos rfl, List.length_append, List.length_take, Nat.min_eq_left hnl]
         exact hr'
       · have hx := hrow (h.row b') (fun g hg hg' => by cases b <;> cases b' <;> simp_all <;> first | exact h.rows g hg hg' | exact h.rows g hg' hg)
         rw [show (F.wrote X b (bs.take n) v').val b' = F.val b' from if_neg e, show (F.wrote X b (bs.take n) v').said b' = F.said b' from if_neg e]
         exact hx
      rows := by
       intro g hg hg'
       cases b
       · simp only [Flow.wrote, reduceCtorEq, if_false, if_true] at hg hg'
         rcases hnew g hg' with h1 | h1
         · exact h.rows g hg h1
         · have := ((h.row true).lt hg).2; omega
       · simp only [Flow.wrote, reduceCtorEq, if_false, if_true] at hg hg'
         rcases hnew g hg with h1 | h1
         · exact h.rows g h1 hg'
         · have := ((h.row false).lt hg').2; omega
      inrow := by
       intro b' g hg hg'
       by_cases e : b' = b
       · subst e
         simp only [Flow.wrote, if_true] at hg'
         rcases hnew g hg' with h1 | h1
         · exact h.inrow b' g hg h1
         · have := (h.inp.lt hg).2; omega
       · simp only [Flow.wrote, if_neg e] at hg'
         exact h.inrow b' g hg hg' }
   · intro g hg
     have hval : ∀ b', ((F.wrote X b (bs.take n) v').val b').ownBlock = some g -> g ∈ X.foot F \/ w.heap.size <= g := by
      intro b' hg'
      by_cases e : b' = b
      · simp only [Flow.wrote, if_pos e] at hg'
        rcases hnew g hg' with h1 | h1
        · refine .inl ?_
          cases b <;> simp [Job.foot, h1]
        · exact .inr h1
      · simp only [Flow.wrote, if_neg e] at hg'
        refine .inl ?_
        cases b' <;> simp [Job.foot, hg']
     simp only [Job.foot, List.mem_append, Option.mem_toList] at hg
     rcases hg with hg | (hg | hg) | hg
     · exact .inl (by simp only [Job.foot, List.mem_append]; exact .inl hg)
     · exact .inl (by simp only [Job.foot, List.mem_append, Option.mem_toList]; exact .inr (.inl (.inl hg)))
     · exact hval true hg
     · exact hval false hg
set_option maxHeartbeats 2000000 in
theorem jobFail (w : World) (X : Job) (F : Flow) (h : JobOf w X F) (hst : F.steps < 4611686018427387904) (b : Bool) (A : Option Addr) (m c : Nat) (hpos : 0 < m) (hf : wErr (X.kF F).next ≠ 0) :
 Calls Tryz.prog 107 #[.pointer (some ⟨X.p, 0, none⟩), .int .i64 (fdOf b : Nat), .slice A m c] w fun e w' => e = .returned (.tuple #[.int .i64 0, .int .i64 (wErr (X.kF F).next)]) /\
  JobOf w' X (F.failed X) /\ Went X F (F.failed X) w w' := by
 have hS : ∀ g ∈ [X.B.k], g < w.heap.size := by
  intro g hg
  rw [List.mem_singleton] at hg
  subst hg
  exact h.kern.blk.lt
 have hoff : ∀ g ∈ X.B.foot X.p, g ∉ [X.B.k] := by
  intro g hg hm
  rw [List.mem_singleton] at hm
  subst hm
  exact h.proc.off h.kern.blk (by decide) (by decide) (by decide) hg
 have hne : (wErr (X.kF F).next == 10) = false := by
  rw [beq_eq_false_iff_ne]
  unfold wErr
  split
  · decide
  · split
    · decide
    · split
      · decide
      · split <;> decide
 refine (procWrite_top w X.p (X.J F) h.proc h.may h.top h.at_ h.log hst (.int .i64 (fdOf b : Nat)) (.slice A m c) rfl rfl 0 (wErr (X.kF F).next) hne [X.B.k] hS hoff
  (fun W w4 => w.heap.size <= W.heap.size /\ KernOf w4 X.B.k { X.K with used := F.took X }) ?_).mono ?_
 · intro W hPW hTW
   have hpf : ∀ g ∈ X.K.foot X.B.k, g ∉ [X.p] := fun g hg hm => h.kern.off h.proc.blk (by decide) (by decide) ((List.mem_singleton.1 hm) ▸ hg)
   have hKW := h.kern.turns hTW hpf
   have hTb : TableOf W X.B.tb X.B.k X.D := (hTW.block _ (Blk.lt h.table) (by rw [List.mem_singleton]; exact Blk.ne_ h.table h.proc.blk (by decide))).trans h.table
   refine (sinkErr W X.B.tb X.B.k (X.kF F) X.D hKW hTb (fdOf b) (by cases b <;> decide) (X.sink b) (X.D_sink b) A m c hpos hf).mono ?_
   rintro e w4 ⟨rfl, hK4, hT4⟩
   rw [Job.took] at hK4
   exact ⟨rfl, hT4, hTW.size, hK4⟩
 · rintro e w' ⟨rfl, hP', W, w4, N, ⟨hsW, hK4⟩, hN, hT4', hTw4⟩
   have hTall : Turns ([X.p] ++ [X.B.k]) w w' := hTw4.then hT4' fun g hg hlt => by have := (hN g hg).1; omega
   have hsub : ∀ g ∈ [X.p] ++ [X.B.k], g ∈ X.foot F := by
    intro g hg
    simp only [List.mem_append, List.mem_cons, List.not_mem_nil, or_false] at hg
    simp only [Job.foot, PS.foot, KS.foot, List.mem_append, List.mem_cons, List.not_mem_nil, or_false, Option.mem_toList]
    rcases hg with rfl | rfl <;> simp
   have hkeep : ∀ g, g < w.heap.size -> g ≠ X.p -> g ≠ X.B.k -> w'.heap[g]? = w.heap[g]? := by
    intro g hg h1 h2
    refine hTall.block g hg ?_
    simp only [List.mem_append, List.mem_cons, List.not_mem_nil, or_false, not_or]
    exact ⟨h1, h2⟩
   have hold : ∀ g, g ∉ N -> g < w4.heap.size -> w'.heap[g]? = w4.heap[g]? := fun g h1 h2 => hT4'.block g h2 h1
   have hNold : ∀ g, g < w.heap.size -> g ∉ N := fun g hg hm => by have := (hN g hm).1; omega
   have hK' : KernOf w' X.B.k { X.K with used := F.took X } := hK4.same fun g hg => hold g (hNold g (h.kern.foot_lt g hg)) (hK4.foot_lt g hg)
   have hbk : ∀ {t : TypeId} {cs : Array Value} {g : Nat}, Blk w g t cs -> t ≠ 85 -> t ≠ 142 -> w'.heap[g]? = w.heap[g]? := fun hg h1 h2 =>
    hkeep _ hg.lt (Blk.ne_ hg h.proc.blk h1) (Blk.ne_ hg h.kern.blk h2)
   have hrow : ∀ {n : Nat} {v : Value} {xs : List Value}, OffRow w 0 5 v n xs -> OffRow w' 0 5 v n xs := fun hv => hv.same fun g hg =>
    hkeep g (hv.lt hg).2 (fun e => hv.blk_ne h.proc.blk (by decide) (e ▸ hg)) (fun e => hv.blk_ne h.kern.blk (by decide) (e ▸ hg))
   exact ⟨rfl, {
    proc := hP', kern := hK', may := h.may, top := h.top, at_ := h.at_, log := h.log, sinks := h.sinks, thing := h.thing
    table := (hbk h.table (by decide) (by decide)).trans h.table
    src := (hbk h.src (by decide) (by decide)).trans h.src
    inp := hrow h.inp
    sink := fun b => (hbk (h.sink b) (by decide) (by decide)).trans (h.sink b)
    row := fun b => hrow (h.row b)
    rows := h.rows
    inrow := h.inrow }, hTall.more hsub, fun g hg => .inl hg⟩
end
section
set_option maxRecDepth 100000
open Go.RowKit Go.Maps
abbrev MachAt (w : World) (m p : Nat) (f : Value) (done : Bool) (st : Int) : Prop := Blk w m 92 #[.pointer (some ⟨p, 0, none⟩), f, .bool done, .int .i64 st]
def PS.over (J : PS) : PS := { J with held := 0, lv := .slice none 0 0, log := [] }
set_option maxHeartbeats 2000000 in
theorem ended_any (w : World) (m p : Nat) (J : PS) (D : Nat -> Value) (f : Value) (st : Int) (hm : MachAt w m p f false st) (hp : ProcOf w p J) (ht : TableOf w J.tb J.k D) (hD : Plain D) :
 Calls Tryz.prog 64 #[.pointer (some ⟨m, 0, none⟩)] w fun e w' => e = .returned (.tuple #[]) /\ MachAt w' m p f true st /\ ProcOf w' p J.over /\ TableOf w' J.tb J.k (fun _ => .nilIface) /\ Turns [m, p, J.tb] w w' := by
 have hb := hp.blk
 have c0 : w.cell? ⟨m, 0, none⟩ = some (.pointer (some ⟨p, 0, none⟩)) := hm.cell 0
 have c2 : w.cell? ⟨m, 2, none⟩ = some (.bool false) := hm.cell 2
 have f2 : w.frozen? ⟨m, 2, none⟩ = false := hm.frozen 2
 have hmp : m ≠ p := Blk.ne_ hm hb (by decide)
 have b2 : Blk (w.setCell ⟨m, 2, none⟩ (.bool true)) m 92 #[.pointer (some ⟨p, 0, none⟩), f, .bool true, .int .i64 st] := hm.set_ 2 _
 obtain ⟨W, hW⟩ : ∃ W, w.setCell ⟨m, 2, none⟩ (.bool true) = W := ⟨_, rfl⟩
 have pW : Blk W p 85 (procCells J) := by rw [<- hW]; exact hb.far (by show p ≠ m; omega) _
 have TW : Turns [m, p, J.tb] w W := by rw [<- hW]; exact (Turns.refl _ w).setCell _ _ (by simp)
 have hWb : Blk W m 92 #[.pointer (some ⟨p, 0, none⟩), f, .bool true, .int .i64 st] := by rw [<- hW]; exact b2
 have d0 : W.cell? ⟨m, 0, none⟩ = some (.pointer (some ⟨p, 0, none⟩)) := hWb.cell 0
 have g8 : W.frozen? ⟨p, 8, none⟩ = false := pW.frozen 8
 have g10 : W.frozen? ⟨p, 10, none⟩ = false := pW.frozen 10
 have k8 : W.cell? ⟨p, 8, none⟩ = some (.int .i64 J.held) := pW.cell 8
 have k10 : W.cell? ⟨p, 10, none⟩ = some J.lv := pW.cell 10
 have k1 : W.cell? ⟨p, 1, none⟩ = some (.pointer (some ⟨J.tb, 0, none⟩)) := pW.cell 1
 obtain ⟨A, cp, hlv, _⟩ := own_slice hp.log
 rw [hlv] at k10
 go_enter Tryz.func64, Tryz.ntmps64
 go_wp2_with fail
 have HW := Lib.hid hW
 clear hW
 go_region
 obtain ⟨Y, hY⟩ : ∃ Y, ((W.setCell ⟨p, 8, none⟩ (.int .i64 0)).setCell ⟨p, 10, none⟩ (.slice none 0 0)).drew = Y := ⟨_, rfl⟩
 have pY : Blk Y p 85 (procCells J.over) := by
  rw [<- hY]
  exact ((pW.set_ 8 (.int .i64 0)).set_ 10 (.slice none 0 0)).drew
 have TY : Turns [p] W Y := by rw [<- hY]; exact (((Turns.refl _ W).setCell ⟨p, 8, none⟩ _ (fun _ => List.mem_singleton.2 rfl)).setCell ⟨p, 10, none⟩ _ (fun _ => List.mem_singleton.2 rfl)).drew
 have mY : MachAt Y m p f true st := (TY.block m hWb.lt (by rw [List.mem_singleton]; exact hmp)).trans hWb
 have tY : TableOf Y J.tb J.k D := (TY.block _ (Nat.lt_of_lt_of_le (Blk.lt ht) TW.size) (by rw [List.mem_singleton]; exact Blk.ne_ ht hb (by decide))).trans ((by rw [<- HW.out]; exact Blk.far ht (by show J.tb ≠ m; exact Blk.ne_ ht hm (by decide)) _ : TableOf W J.tb J.k D))
 have y0 : Y.cell? ⟨m, 0, none⟩ = some (.pointer (some ⟨p, 0, none⟩)) := mY.cell 0
 have y1 : Y.cell? ⟨p, 1, none⟩ = some (.pointer (some ⟨J.tb, 0, none⟩)) := pY.cell 1
 have hfree := kFree Y J.tb J.k D tY hD
 have T0 : Turns [m, p, J.tb] w Y := TW.trans (TY.more (by simp))
 have PY : ProcOf Y p J.over := by
  refine ⟨pY, ownsRow_same hp.args fun g hg => ?_, ownsRow_same hp.env fun g hg => ?_, World.ownsRow_nil _ _ _ _⟩
  · refine T0.block g (hp.args.lt g hg).2 ?_
    simp only [List.mem_cons, List.not_mem_nil, or_false, not_or]
    exact ⟨fun e => own_blk_ne hp.args hm (by decide) (e ▸ hg), fun e => own_blk_ne hp.args hb (by decide) (e ▸ hg), fun e => own_blk_ne hp.args ht (by decide) (e ▸ hg)⟩
  · refine T0.block g (hp.env.lt g hg).2 ?_
    simp only [List.mem_cons, List.not_mem_nil, or_false, not_or]
    exact ⟨fun e => own_blk_ne hp.env hm (by decide) (e ▸ hg), fun e => own_blk_ne hp.env hb (by decide) (e ▸ hg), fun e => own_blk_ne hp.env ht (by decide) (e ▸ hg)⟩
 have htp : J.tb ∉ J.over.foot p := PY.off tY (by decide) (by decide) (by decide)
 have htm : m ≠ J.tb := Blk.ne_ hm ht (by decide)
 clear d0 g8 g10 k8 k10 k1 c0 f2
 go_wp2_with (go_at_call 100; refine hfree.mono ?_; rintro e w4 ⟨rfl, hT4, hTu4⟩)
 go_returns
 exact ⟨rfl, (hTu4.block m mY.lt (by rw [List.mem_singleton]; exact htm)).trans mY, PY.turns hTu4 (fun g hg hm' => htp ((List.mem_singleton.1 hm') ▸ hg)), hT4, T0.trans (hTu4.more (by simp))⟩
set_option maxHeartbeats 2000000 in
theorem catch_idle (a b : Addr) (w : World) :
 CallsD Tryz.prog 99 #[.pointer (some a), .pointer (some b)] .returning w fun e u' w' => e = .returned (.tuple #[]) /\ u' = .returning /\ w' = w := by
 refine callsD_of_wpS Tryz.func99 rfl fun c₀ cs hu => ?_
 apply wpS_seq
 apply wpS_region
 simp [wpOpsS, go_sem, recoverD, hu, Tryz.ntmps99, Exit.thenS]
 refine wpS_of_wp ?_
 rw [show (#[Value.pointer (some a), Value.pointer (some b)] ++ (Array.replicate 16 undef).setIfInBounds 4 Value.nilIface) = #[Value.pointer (some a), Value.pointer (some b), undef, undef, undef, undef, Value.nilIface, undef, undef, undef, undef, undef, undef, undef, undef, undef, undef, undef] from rfl]
 go_wp2_with fail
 cases c₀
 simp_all [bodyPostS, results, Tryz.results99]
def MainDoes (w : World) (X : Job) (F : Flow) (id : FuncId) (caps : Array Value) (R : Int -> Flow -> Prop) : Prop :=
 ∀ W, Turns [X.p] w W -> JobOf W X F -> Calls Tryz.prog id (#[.pointer (some ⟨X.p, 0, none⟩)] ++ caps) W fun e w' => ∃ n F', e = .returned (.int .i64 n) /\ JobOf w' X F' /\ Went X F F' W w' /\ R n F'
set_option maxHeartbeats 2000000 in
theorem attempt_top (w : World) (m : Nat) (X : Job) (F : Flow) (id : FuncId) (caps : Array Value) (R : Int -> Flow -> Prop) (st : Int) (hm : MachAt w m X.p (.func (.func id) #[] caps) false st) (hX : JobOf w X F)
 (hen : ∀ args W, (callFunc id args).run Tryz.prog W = .ok (.enter id args) W) (hmain : MainDoes w X F id caps R) :
 Calls Tryz.prog 63 #[.pointer (some ⟨m, 0, none⟩)] w fun e w' => e = .returned (.bool true) /\ ∃ n F', JobOf w' X F' /\ R n F' /\ MachAt w' m X.p (.func (.func id) #[] caps) false n /\
  Turns ([m] ++ X.foot F) w w' /\ (∀ g ∈ X.foot F', g ∈ X.foot F \/ w.heap.size <= g) := by
 have hmf : ∀ (fn : Fn) (first cap : Array Value) (w : World), (Instr.makeFunc fn first cap).run Tryz.prog w = .ok (.func fn first cap) w := fun _ _ _ _ => rfl
 have HEN := Lib.hid hen
 have HM := Lib.hid hmain
 clear hen hmain
 go_enter_defers Tryz.func63, Tryz.ntmps63
 go_wp2_with fail
 obtain ⟨W, hW⟩ : ∃ W, (w.alloc (.cells #[.pointer (some ⟨m, 0, none⟩)] 47)).alloc (.cells #[.bool false] 4) = W := ⟨_, rfl⟩
 rw [hW]
 have hbW : Below w.heap.size w W := by rw [<- hW]; exact below_box (below_one w _) (Nat.le_refl _) _
 have kb : Blk W w.heap.size 47 #[.pointer (some ⟨m, 0, none⟩)] := by rw [<- hW]; exact (Blk.new w _ _).alloc _
 have ko : Blk W (w.heap.size + 1) 4 #[.bool false] := by rw [<- hW]; exact Blk.newNext w _ _ _
 have km : MachAt W m X.p (.func (.func id) #[] caps) false st := Blk.on hm hbW
 have kX := hX.below hbW
 have vm : MachAt W.drew m X.p (.func (.func id) #[] caps) false st := km
 have vX : JobOf W.drew X F := kX.same fun _ _ => rfl
 have vT : Turns [X.p] w W.drew := ((Turns.of_below hbW).more (by simp)).drew
 have b0 : W.cell? ⟨w.heap.size, 0, none⟩ = some (.pointer (some ⟨m, 0, none⟩)) := kb.cell 0
 have m0 : W.cell? ⟨m, 0, none⟩ = some (.pointer (some ⟨X.p, 0, none⟩)) := km.cell 0
 have m1 : W.cell? ⟨m, 1, none⟩ = some (.func (.func id) #[] caps) := km.cell 1
 have hcall := HM.out W.drew vT vX
 have hVs : w.heap.size + 1 < W.heap.size := ko.lt
 have hml : m < w.heap.size := hm.lt
 have am : m ∉ X.foot F := kX.off km (by decide) (by decide) (by decide) (by decide) (by decide) (by decide) (by decide) (by decide) (by decide)
 have ab : w.heap.size ∉ X.foot F := kX.off kb (by decide) (by decide) (by decide) (by decide) (by decide) (by decide) (by decide) (by decide) (by decide)
 have ao : w.heap.size + 1 ∉ X.foot F := kX.off ko (by decide) (by decide) (by decide) (by decide) (by decide) (by decide) (by decide) (by decide) (by decide)
 have AM := Lib.hid am
 have AB := Lib.hid ab
 have AO := Lib.hid ao
 have KM := Lib.hid km
 have KB := Lib.hid kb
 have KO := Lib.hid ko
 have HC := Lib.hid hcall
 have hen2 := HEN.out
 clear am ab ao hW km kb ko vm hcall
 go_region_held3 (fun Z => Z.cell? ⟨w.heap.size, 0, none⟩ = some (.pointer (some ⟨m, 0, none⟩)) /\ Z.cell? ⟨m, 0, none⟩ = some (.pointer (some ⟨X.p, 0, none⟩)) /\ Z.cell? ⟨m, 1, none⟩ = some (.func (.func id) #[] caps))
  (first | (refine ⟨?_, ?_, ?_⟩ <;> assumption) | (refine ⟨?_, ?_, ?_⟩ <;> (rw [World.cell?_setCell_other _ _ _ _ (by first | (simp; done) | (simp; omega))]; assumption)) | go_keep)
  (first | (refine HC.out.mono ?_; rintro e w1 ⟨n, F', rfl, hJ1, hW1, hR1⟩
            have q := (hW1.away KM.out.lt AM.out).1.trans KM.out
            have qb := (hW1.away KB.out.lt AB.out).1.trans KB.out
            have q0 : w1.cell? ⟨m, 0, none⟩ = some (.pointer (some ⟨X.p, 0, none⟩)) := Blk.cell q 0
            have q1 : w1.cell? ⟨m, 1, none⟩ = some (.func (.func id) #[] caps) := Blk.cell q 1
            have q3 : w1.cell? ⟨m, 3, none⟩ = some (.int .i64 st) := Blk.cell q 3
            have r3 : w1.frozen? ⟨m, 3, none⟩ = false := Blk.frozen q 3
            have p0 : w1.cell? ⟨w.heap.size, 0, none⟩ = some (.pointer (some ⟨m, 0, none⟩)) := Blk.cell qb 0))
 have qo := (hW1.away KO.out.lt AO.out).1.trans KO.out
 have o0 : w1.cell? ⟨w.heap.size + 1, 0, none⟩ = some (.bool false) := Blk.cell qo 0
 have o1 : w1.frozen? ⟨w.heap.size + 1, 0, none⟩ = false := Blk.frozen qo 0
 have hne : ¬ m = w.heap.size + 1 := by omega
 go_wp2_with fail
 refine leaves_cons (f := 99) (args := #[.pointer (some ⟨w.heap.size + 1, 0, none⟩), .pointer (some ⟨w.heap.size, 0, none⟩)]) (by simp) (by simp [go_sem]) ?_
 refine (catch_idle ⟨w.heap.size + 1, 0, none⟩ ⟨w.heap.size, 0, none⟩ _).mono ?_
 rintro e u' w'' ⟨rfl, rfl, rfl⟩
 have z0 : ((w1.setCell ⟨m, 3, none⟩ (.int .i64 n)).setCell ⟨w.heap.size + 1, 0, none⟩ (.bool true)).cell? ⟨w.heap.size + 1, 0, none⟩ = some (.bool true) := Blk.cell ((Blk.far qo (by show w.heap.size + 1 ≠ m; omega) _).set_ 0 (.bool true)) 0
 simp [Leaves, settle, results, Tryz.results63, go_sem, z0]
 have hTm : Turns [m, w.heap.size + 1] w1 ((w1.setCell ⟨m, 3, none⟩ (.int .i64 n)).setCell ⟨w.heap.size + 1, 0, none⟩ (.bool true)) := ((Turns.refl _ w1).setCell _ _ (by simp)).setCell _ _ (by simp)
 have TW := Turns.of_below hbW
 refine ⟨n, F', hJ1.turns hTm ?_, hR1, ?_, ?_, ?_⟩
 · intro g hg hm'
   simp only [List.mem_cons, List.not_mem_nil, or_false] at hm'
   rcases hm' with rfl | rfl
   · exact (hW1.away KM.out.lt AM.out).2 hg
   · exact (hW1.away KO.out.lt AO.out).2 hg
 · exact Blk.far (Blk.set_ q 3 _) (by show m ≠ w.heap.size + 1; omega) _
 · refine (((TW.more (S' := m :: X.foot F) (by simp)).drew.trans (hW1.turns.more (by intro g hg; exact List.mem_cons_of_mem _ hg))).setCell _ _ (by simp)).setCell _ _ (fun hlt => ?_)
   exact absurd hlt (by show ¬ w.heap.size + 1 < w.heap.size; omega)
 · intro g hg
   rcases hW1.news g hg with h1 | h1
   · exact .inl h1
   · exact .inr (Nat.le_trans hbW.size h1)
end
section
set_option maxRecDepth 100000
open Go.RowKit Go.Maps
structure JobEnd (w : World) (X : Job) (F : Flow) : Prop where
 proc : ProcOf w X.p (X.J F).over
 kern : KernOf w X.B.k (X.kF F)
 sink : ∀ b, SinkAt w (X.sink b) (F.val b)
 row : ∀ b, OffRow w 0 5 (F.val b) (F.said b).length (bytesC (F.said b))
 thing : ∀ b, X.K.tf (numK (if b then 2 else 3)) = some (sinkV (X.sink b))
theorem Job.plain (X : Job) : Plain X.D := by
 intro i hi
 by_cases h0 : i = 0
 · subst h0; exact .inr (.inl ⟨_, rfl⟩)
 by_cases h1 : i = 1
 · subst h1; exact .inr (.inr ⟨_, rfl⟩)
 by_cases h2 : i = 2
 · subst h2; exact .inr (.inr ⟨_, rfl⟩)
 exact .inl (by simp [Job.D, h0, h1, h2])
set_option maxHeartbeats 2000000 in
theorem goOn_top (w : World) (m : Nat) (X : Job) (F : Flow) (id : FuncId) (caps : Array Value) (R : Int -> Flow -> Prop) (st : Int) (hm : MachAt w m X.p (.func (.func id) #[] caps) false st) (hX : JobOf w X F) (h0 : F.held = 0)
 (hen : ∀ args W, (callFunc id args).run Tryz.prog W = .ok (.enter id args) W) (hmain : MainDoes w X F id caps R) :
 Calls Tryz.prog 32 #[.pointer (some ⟨m, 0, none⟩)] w fun e w' => e = .returned (.tuple #[]) /\ ∃ n F', JobEnd w' X F' /\ R n F' /\ MachAt w' m X.p (.func (.func id) #[] caps) true n /\
  Turns ([m] ++ X.foot F) w w' /\ (∀ g ∈ X.foot F', g ∈ X.foot F \/ w.heap.size <= g) := by
 have hb := hX.proc.blk
 have am : m ∉ X.foot F := hX.off hm (by decide) (by decide) (by decide) (by decide) (by decide) (by decide) (by decide) (by decide) (by decide)
 obtain ⟨V, hV⟩ : ∃ V, w.drew = V := ⟨_, rfl⟩
 have vX : JobOf V X F := by rw [<- hV]; exact hX.same fun _ _ => rfl
 have vm : MachAt V m X.p (.func (.func id) #[] caps) false st := by rw [<- hV]; exact hm
 have pV := vX.proc.blk
 have v0 : V.cell? ⟨m, 0, none⟩ = some (.pointer (some ⟨X.p, 0, none⟩)) := vm.cell 0
 have v8 : V.cell? ⟨X.p, 8, none⟩ = some (.int .i64 0) := by rw [pV.cell 8]; simp [procCells, Job.J, h0]
 have v11 : V.cell? ⟨X.p, 11, none⟩ = some (.int .i64 0) := by rw [pV.cell 11]; simp [procCells, Job.J, hX.at_]
 have i8 : V.frozen? ⟨X.p, 8, none⟩ = false := pV.frozen 8
 have i11 : V.frozen? ⟨X.p, 11, none⟩ = false := pV.frozen 11
 have hmp : m ≠ X.p := Blk.ne_ hm hb (by decide)
 obtain ⟨Y, hY⟩ : ∃ Y, ((V.setCell ⟨X.p, 11, none⟩ (.int .i64 0)).setCell ⟨X.p, 8, none⟩ (.int .i64 0)) = Y := ⟨_, rfl⟩
 have TY : Turns [X.p] V Y := by rw [<- hY]; exact (((Turns.refl _ V).setCell ⟨X.p, 11, none⟩ _ (fun _ => List.mem_singleton.2 rfl)).setCell ⟨X.p, 8, none⟩ _ (fun _ => List.mem_singleton.2 rfl))
 have pY : Blk Y X.p 85 (procCells (X.J F)) := by
  rw [<- hY]
  have h1 := (pV.set_ 11 (.int .i64 0)).set_ 8 (.int .i64 0)
  have e : ((procCells (X.J F)).setIfInBounds 11 (.int .i64 0)).setIfInBounds 8 (.int .i64 0) = procCells (X.J F) := by simp [procCells, Job.J, h0, hX.at_]
  rwa [e] at h1
 have hsame : ∀ g ∈ X.foot F, Y.heap[g]? = V.heap[g]? := by
  intro g hg
  by_cases e : g = X.p
  · subst e; exact (show Y.heap[X.p]? = _ from pY).trans (show V.heap[X.p]? = _ from pV).symm
  · exact TY.block g (vX.foot_lt g hg) (by rw [List.mem_singleton]; exact e)
 have yX : JobOf Y X F := vX.same hsame
 have ym : MachAt Y m X.p (.func (.func id) #[] caps) false st := (TY.block m vm.lt (by rw [List.mem_singleton]; exact hmp)).trans vm
 have T0 : Turns [X.p] w Y := by
  have h1 : Turns [X.p] w V := by rw [<- hV]; exact (Turns.refl _ w).drew
  exact h1.trans TY
 have hatt := attempt_top Y m X F id caps R st ym yX hen (fun W hW hJ => hmain W (T0.trans hW) hJ)
 have HA := Lib.hid hatt
 have HT := Lib.hid T0
 have AM := Lib.hid am
 clear hatt T0 am hen hmain TY pY hsame yX ym hb pV vX vm
 go_enter Tryz.func32, Tryz.ntmps32
 go_wp2_with fail
 refine still_tail 8 V hV (by kernel_rfl) (by kernel_rfl) ?_
 simp only [List.take_succ_cons, List.take_zero, List.drop_succ_cons, List.drop_zero]
 repeat still_step
 refine wpStill_nil ?_
 go_wp2_with (first
  | (go_at_call 63; refine HA.out.mono ?_; rintro e w1 ⟨rfl, n, F', hJ1, hR1, hm1, hT1, hn1⟩)
  | (go_at_call 64; refine (ended_any w1 m X.p (X.J F') X.D _ n hm1 hJ1.proc hJ1.table X.plain).mono ?_; rintro e w2 ⟨rfl, hm2, hp2, ht2, hT2⟩))
 go_returns
 have am1 : m ∉ X.foot F' := hJ1.off hm1 (by decide) (by decide) (by decide) (by decide) (by decide) (by decide) (by decide) (by decide) (by decide)
 have hkeep : ∀ {t : TypeId} {cs : Array Value} {g : Nat}, Blk w1 g t cs -> t ≠ 92 -> t ≠ 85 -> t ≠ 150 -> w2.heap[g]? = w1.heap[g]? := fun hg h1 h2 h3 =>
  hT2.block _ hg.lt (by
   simp only [List.mem_cons, List.not_mem_nil, or_false, not_or]
   exact ⟨Blk.ne_ hg hm1 h1, Blk.ne_ hg hJ1.proc.blk h2, Blk.ne_ hg hJ1.table h3⟩)
 have hT : Turns ([m] ++ X.foot F) w w2 := by
  refine ((HT.out.more ?_).trans hT1).then hT2 ?_
  · intro g hg; rw [List.mem_singleton] at hg; subst hg; simp [Job.foot, PS.foot]
  · intro g hg hlt
    simp only [List.mem_cons, List.not_mem_nil, or_false] at hg
    rcases hg with rfl | rfl | rfl
    · simp
    · simp [Job.foot, PS.foot]
    · simp only [List.mem_append]; refine .inr ?_; simp [Job.foot, Job.J]
 refine ⟨rfl, n, F', ⟨hp2, hJ1.kern.turns hT2 ?_, fun b => (hkeep (hJ1.sink b) (by decide) (by decide) (by decide)).trans (hJ1.sink b), fun b => (hJ1.row b).same fun g hg => hT2.block g ((hJ1.row b).lt hg).2 ?_, hJ1.thing⟩, hR1, hm2, hT, ?_⟩
 · intro g hg hm'
   simp only [List.mem_cons, List.not_mem_nil, or_false] at hm'
   rcases hm' with rfl | rfl | rfl
   · exact hJ1.kern.off hm1 (by decide) (by decide) hg
   · exact hJ1.kern.off hJ1.proc.blk (by decide) (by decide) hg
   · exact hJ1.kern.off hJ1.table (by decide) (by decide) hg
 · simp only [List.mem_cons, List.not_mem_nil, or_false, not_or]
   exact ⟨fun e => (hJ1.row b).blk_ne hm1 (by decide) (e ▸ hg), fun e => (hJ1.row b).blk_ne hJ1.proc.blk (by decide) (e ▸ hg), fun e => (hJ1.row b).blk_ne hJ1.table (by decide) (e ▸ hg)⟩
 · intro g hg
   rcases hn1 g hg with h1 | h1
   · exact .inl h1
   · exact .inr (Nat.le_trans HT.out.size h1)
end
end Go.Proofs.YtffffjngodinnaaGreatDoor
