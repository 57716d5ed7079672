/-
  Parts of the proof: A process that is stepped, a sink behind its descriptor 1: how it stands in memory; what Write does to it; What acts do to a job, as plain functions: no program in sight but the meaning of a fault.
-/
import Derived.Test.YtlncmknikjloeaaGreatDoorV14
import Derived.Test.YtlncmknikjloeaaGreatDoorV08
import Derived.Test.YtlncmknikjloeaaGreatDoorV10

section
namespace Go.Proofs.YtlncmknikjloeaaGreatDoor
open Go.RowKit Go.Maps

/-- what stays: the process, its kernel, the sink -/
structure Say where
  p : Nat
  B : PS
  K : KS
  sink : Nat
/-- what turns -/
structure Told where
  at_ : Nat
  lv : Value
  log : List (Int × Int)
  may : Bool
  steps : Nat
  held : Int
  peak : Int
  val : Value
  said : List UInt8
def Say.J (X : Say) (S : Told) : PS := { X.B with at_ := S.at_, lv := S.lv, log := S.log, may := S.may, steps := S.steps, held := S.held, peak := S.peak }
def Say.D (X : Say) : Nat → Value := fun i => if i = 1 then sinkV X.sink else .nilIface
def Say.foot (X : Say) (S : Told) : List Nat := ((X.J S).foot X.p ++ X.K.foot X.B.k) ++ [X.B.tb, X.sink] ++ S.val.ownBlock.toList
structure SayOf (w : World) (X : Say) (S : Told) : Prop where
  proc : ProcOf w X.p (X.J S)
  kern : KernOf w X.B.k X.K
  free : X.K.used = X.K.fl.length
  top : X.B.top = false
  table : TableOf w X.B.tb X.B.k X.D
  sink : SinkAt w X.sink S.val
  row : OffRow w 0 5 S.val S.said.length (bytesC S.said)

section
variable {w w' w'' : World} {X : Say} {S S' S'' : Told} {N : List Nat}
theorem SayOf.foot_lt (h : SayOf w X S) : ∀ g ∈ X.foot S, g < w.heap.size := by
  intro g hg
  simp only [Say.foot, List.mem_append, List.mem_cons, List.not_mem_nil, or_false, Option.mem_toList] at hg
  rcases hg with ((hg | hg) | rfl | rfl) | hg
  · exact h.proc.foot_lt g hg
  · exact h.kern.foot_lt g hg
  · exact Blk.lt h.table
  · exact h.sink.lt
  · exact (h.row.lt hg).2
theorem SayOf.same (h : SayOf w X S) (hb : ∀ g ∈ X.foot S, w'.heap[g]? = w.heap[g]?) : SayOf w' X S := by
  have m : ∀ g, (g ∈ (X.J S).foot X.p ∨ g ∈ X.K.foot X.B.k ∨ g = X.B.tb ∨ g = X.sink ∨ S.val.ownBlock = some g) → w'.heap[g]? = w.heap[g]? := by
    intro g hg
    refine hb g ?_
    simp only [Say.foot, List.mem_append, List.mem_cons, List.not_mem_nil, or_false, Option.mem_toList]
    rcases hg with hg | hg | rfl | rfl | hg <;> simp [*]
  exact { h with
    proc := h.proc.same fun g hg => m g (.inl hg)
    kern := h.kern.same fun g hg => m g (.inr (.inl hg))
    table := (m _ (.inr (.inr (.inl rfl)))).trans h.table
    sink := (m _ (.inr (.inr (.inr (.inl rfl))))).trans h.sink
    row := h.row.same fun g hg => m g (.inr (.inr (.inr (.inr hg)))) }
theorem SayOf.turns (h : SayOf w X S) (ht : Turns N w w') (hS : ∀ g ∈ X.foot S, g ∉ N) : SayOf w' X S := h.same fun g hg => ht.block g (h.foot_lt g hg) (hS g hg)
theorem SayOf.below (h : SayOf w X S) (hb : Below w.heap.size w w') : SayOf w' X S := h.turns (Turns.of_below hb) (by simp)
/-- what turns lies in the process's own blocks; those that it has more are new -/
structure Moved (X : Say) (S S' : Told) (w w' : World) : Prop where
  turns : Turns (X.foot S) w w'
  news : ∀ g ∈ X.foot S', g ∈ X.foot S ∨ w.heap.size ≤ g
theorem Moved.refl (X : Say) (S : Told) (w : World) : Moved X S S w w := ⟨Turns.refl _ w, fun _ h => .inl h⟩
theorem Moved.trans (h : Moved X S S' w w') (h' : Moved X S' S'' w' w'') : Moved X S S'' w w'' := by
  refine ⟨h.turns.then h'.turns fun g hg hlt => ?_, fun g hg => ?_⟩
  · rcases h.news g hg with h1 | h1
    · exact h1
    · omega
  · rcases h'.news g hg with h1 | h1
    · exact h.news g h1
    · exact .inr (Nat.le_trans h.turns.size h1)
theorem Moved.of_below (X : Say) (S : Told) (h : Below w.heap.size w w') : Moved X S S w w' := ⟨(Turns.of_below h).more (by simp), fun _ h => .inl h⟩
theorem Moved.away {g : Nat} (h : Moved X S S' w w') (hg : g < w.heap.size) (ha : g ∉ X.foot S) : w'.heap[g]? = w.heap[g]? ∧ g ∉ X.foot S' :=
  ⟨h.turns.block g hg ha, fun hm => by rcases h.news g hm with h1 | h1; exact ha h1; omega⟩
theorem SayOf.off {g : Nat} {t : TypeId} {cs : Array Value} (h : SayOf w X S) (hg : Blk w g t cs) (h1 : t ≠ 89) (h2 : t ≠ 9) (h3 : t ≠ 168) (h4 : t ≠ 72) (h5 : t ≠ 63)
    (h6 : t ≠ 99) (h8 : t ≠ 93) (h9 : t ≠ 5) : g ∉ X.foot S := by
  intro hm
  simp only [Say.foot, List.mem_append, List.mem_cons, List.not_mem_nil, or_false, Option.mem_toList] at hm
  rcases hm with ((hm | hm) | rfl | rfl) | hm
  · exact h.proc.off hg h1 h2 h3 hm
  · exact h.kern.off hg h4 h5 hm
  · exact Blk.ne_ hg h.table h6 rfl
  · exact Blk.ne_ hg h.sink h8 rfl
  · exact h.row.blk_ne hg h9.symm hm
/-- the process alone has turned, but for its log -/
theorem SayOf.proc1 (h : SayOf w X S) (ht : Turns [X.p] w w') (hp : ProcOf w' X.p (X.J S')) (hv : S'.val = S.val) (hs : S'.said = S.said) (hl : S'.lv = S.lv) : SayOf w' X S' ∧ Moved X S S' w w' := by
  have hb := h.proc.blk
  have hbk : ∀ {t : TypeId} {cs : Array Value} {g : Nat}, Blk w g t cs → t ≠ 89 → w'.heap[g]? = w.heap[g]? := fun hg h1 => ht.block _ hg.lt (by rw [List.mem_singleton]; exact Blk.ne_ hg hb h1)
  refine ⟨{ proc := hp, kern := h.kern.turns ht fun g hg hm => h.kern.off hb (by decide) (by decide) ((List.mem_singleton.1 hm) ▸ hg), free := h.free, top := h.top, table := (hbk h.table (by decide)).trans h.table, sink := ?_, row := ?_ }, ht.more ?_, ?_⟩
  · rw [hv]; exact (hbk h.sink (by decide)).trans h.sink
  · rw [hv, hs]; exact h.row.same fun g hg => ht.block g (h.row.lt hg).2 (by rw [List.mem_singleton]; exact fun e => h.row.blk_ne hb (by decide) (e ▸ hg))
  · intro g hg; rw [List.mem_singleton] at hg; subst hg; simp [Say.foot, PS.foot]
  · intro g hg
    left
    have e : X.foot S' = X.foot S := by
      unfold Say.foot
      rw [hv]
      congr 3
      simp only [PS.foot, Say.J, hl]
    rwa [← e]
end

theorem sayReplay (w : World) (X : Say) (S : Told) (h : SayOf w X S) (n er : Int) (hq : S.log[S.at_]? = some (n, er)) (hlog : S.log.length ≤ 1000000) (A : Option Addr) (m c : Nat) :
    Calls Tryz.prog 68 #[.pointer (some ⟨X.p, 0, none⟩), .int .i64 1, .slice A m c] w fun e w' => e = .returned (.tuple #[.int .i64 n, .int .i64 er]) ∧ SayOf w' X { S with at_ := S.at_ + 1 } ∧ Moved X S { S with at_ := S.at_ + 1 } w w' := by
  refine (procWrite_replay w X.p (X.J S) h.proc n er hq hlog (.int .i64 1) (.slice A m c) rfl rfl).mono ?_
  rintro e w' ⟨rfl, hP, hT⟩
  exact ⟨rfl, h.proc1 hT hP rfl rfl rfl⟩

theorem sayWait (w : World) (X : Say) (S : Told) (h : SayOf w X S) (hm : S.may = false) (ha : S.at_ = S.log.length) (A : Option Addr) (m c : Nat) :
    Calls Tryz.prog 68 #[.pointer (some ⟨X.p, 0, none⟩), .int .i64 1, .slice A m c] w fun e w' => e = .panicked waitsP ∧ Below w.heap.size w w' :=
  procWrite_wait w X.p (X.J S) h.proc hm ha 1 A m c

/-- a state that has told so many bytes more -/
def Told.does (S : Told) (bs : List UInt8) (lv v : Value) : Told := { S with at_ := S.at_ + 1, steps := S.steps + 1, may := false, lv := lv, log := S.log ++ [((bs.length : Int), 0)], val := v, said := S.said ++ bs }

set_option maxRecDepth 100000 in
set_option maxHeartbeats 2000000 in
theorem sayDo (w : World) (X : Say) (S : Told) (h : SayOf w X S) (hm : S.may = true) (ha : S.at_ = S.log.length) (hlog : S.log.length ≤ 1000000) (hst : S.steps < 4611686018427387904) (A : Option Addr) (c : Nat) (bs : List UInt8) (hb : Reads w w.heap.size 1 A bs.length (bytesC bs))
    (hA : ∀ ad, A = some ad → ad.block ∉ X.foot S) (hc : bs.length ≤ c) (hpos : 0 < bs.length) (hl : S.said.length + bs.length ≤ 140737488355000) :
    Calls Tryz.prog 68 #[.pointer (some ⟨X.p, 0, none⟩), .int .i64 1, .slice A bs.length c] w fun e w' => e = .returned (.tuple #[.int .i64 (bs.length : Int), .int .i64 0]) ∧
      ∃ lv v, SayOf w' X (S.does bs lv v) ∧ Moved X S (S.does bs lv v) w w' := by
  have hpb := h.proc.blk
  have hS : ∀ g ∈ [X.B.k, X.sink] ++ S.val.ownBlock.toList, g < w.heap.size := by
    intro g hg
    simp only [List.mem_append, List.mem_cons, List.not_mem_nil, or_false, Option.mem_toList] at hg
    rcases hg with (rfl | rfl) | hg
    · exact h.kern.blk.lt
    · exact h.sink.lt
    · exact (h.row.lt hg).2
  have hoff : ∀ g ∈ (X.J S).foot X.p, g ∉ [X.B.k, X.sink] ++ S.val.ownBlock.toList := by
    intro g hp hm
    simp only [List.mem_append, List.mem_cons, List.not_mem_nil, or_false, Option.mem_toList] at hm
    rcases hm with (rfl | rfl) | hm
    · exact h.proc.off h.kern.blk (by decide) (by decide) (by decide) hp
    · exact h.proc.off h.sink (by decide) (by decide) (by decide) hp
    · rcases h.row.2 with ⟨e, _⟩ | ⟨g', off, cap, cur, e, _, hgb, _⟩
      · rw [e] at hm; simp [Value.ownBlock] at hm
      · obtain rfl : g' = g := by rw [e] at hm; simpa [Value.ownBlock] using hm
        exact h.proc.off (show Blk w g' _ cur from hgb) (by decide) (by decide) (by decide) hp
  have hkn : X.K.next = (0, 0) := KS.next_free h.free
  refine (procWrite_do w X.p (X.J S) h.proc hm h.top ha hlog hst (.int .i64 1) (.slice A bs.length c) rfl rfl (bs.length : Int) 0 rfl ([X.B.k, X.sink] ++ S.val.ownBlock.toList) hS hoff
    (fun W w4 => w.heap.size ≤ W.heap.size ∧ KernOf w4 X.B.k X.K ∧ ∃ v', SinkAt w4 X.sink v' ∧ OffRow w4 0 5 v' (S.said.length + bs.length) (bytesC (S.said ++ bs)) ∧ (v'.ownBlock = S.val.ownBlock ∨ ∃ g, v'.ownBlock = some g ∧ W.heap.size ≤ g)) ?_).mono ?_
  · intro W hPW hTW
    have hpf : ∀ g ∈ X.K.foot X.B.k, g ∉ [X.p] := fun g hg hm => h.kern.off hpb (by decide) (by decide) ((List.mem_singleton.1 hm) ▸ hg)
    have hKW := h.kern.turns hTW hpf
    have hTb : TableOf W X.B.tb X.B.k X.D := (hTW.block _ (Blk.lt h.table) (by rw [List.mem_singleton]; exact Blk.ne_ h.table hpb (by decide))).trans h.table
    have hsW : SinkAt W X.sink S.val := (hTW.block _ h.sink.lt (by rw [List.mem_singleton]; exact Blk.ne_ h.sink hpb (by decide))).trans h.sink
    have hrW : OffRow W 0 5 S.val S.said.length (bytesC S.said) := h.row.same fun g hg => hTW.block g (h.row.lt hg).2 (by rw [List.mem_singleton]; rintro rfl; exact h.row.blk_ne hpb (by decide) hg)
    have hbW : Reads W W.heap.size 1 A bs.length (bytesC bs) := (hb.turns hTW (Nat.le_refl _) (by intro ad hA' hm; rw [List.mem_singleton] at hm; exact hA ad hA' (by rw [hm]; simp [Say.foot, PS.foot]))).more hTW.size
    have hAk : ∀ ad, A = some ad → ad.block ≠ X.B.k := fun ad hA' hm => hA ad hA' (by rw [hm]; simp [Say.foot, KS.foot])
    refine (sinkOk W X.B.tb X.B.k X.K X.D hKW hTb 1 (by decide) X.sink rfl S.said S.val hsW 0 hrW (Nat.zero_le _) A c bs hbW hAk hc hpos hl (by rw [hkn]; rfl) bs.length (by rw [hkn]; rfl)).mono ?_
    rintro e w4 ⟨rfl, hK4, ⟨v', hs4, hr4, hv4⟩, hT4⟩
    rw [KS.took_free h.free] at hK4
    rw [List.take_length] at hr4
    exact ⟨rfl, hT4, hTW.size, hK4, v', hs4, hr4, hv4⟩
  · rintro e w' ⟨rfl, lv, hP', ⟨W, w4, N, ⟨hsW, hK4, v', hs4, hr4, hv4⟩, hN, hT4', hTw4⟩, hlv⟩
    have hTall : Turns ([X.p] ++ ([X.B.k, X.sink] ++ S.val.ownBlock.toList) ++ S.lv.ownBlock.toList) w w' := (hTw4.more (by intro g hg; simp only [List.mem_append] at hg ⊢; exact .inl hg)).then hT4' fun g hg hlt => by
      simp only [List.mem_append] at hg ⊢
      rcases hg with (hg | hg) | hg
      · have := (hN g hg).1; omega
      · exact .inl (.inl hg)
      · exact .inr hg
    have hsub : ∀ g ∈ [X.p] ++ ([X.B.k, X.sink] ++ S.val.ownBlock.toList) ++ S.lv.ownBlock.toList, g ∈ X.foot S := by
      intro g hg
      simp only [List.mem_append, List.mem_cons, List.not_mem_nil, or_false, Option.mem_toList] at hg
      simp only [Say.foot, PS.foot, KS.foot, Say.J, List.mem_append, List.mem_cons, List.not_mem_nil, or_false, Option.mem_toList]
      rcases hg with (rfl | (rfl | rfl) | hg) | hg <;> simp [*]
    have hkeep : ∀ g, g < w.heap.size → g ≠ X.p → g ≠ X.B.k → g ≠ X.sink → S.val.ownBlock ≠ some g → S.lv.ownBlock ≠ some g → w'.heap[g]? = w.heap[g]? := by
      intro g hg h1 h2 h3 h4 h5
      refine hTall.block g hg ?_
      simp only [List.mem_append, List.mem_cons, List.not_mem_nil, or_false, Option.mem_toList, not_or]
      exact ⟨⟨h1, ⟨h2, h3⟩, h4⟩, h5⟩
    have hlvb : ∀ g, g ∈ S.lv.ownBlock.toList → g ∈ (X.J S).foot X.p := fun g hg => by simp only [PS.foot, Say.J, List.mem_append]; exact .inr hg
    have hold : ∀ g, g ∉ N → g ∉ (X.J S).foot X.p → g < w4.heap.size → w'.heap[g]? = w4.heap[g]? := fun g h1 h2 h3 => hT4'.block g h3 (by
      simp only [List.mem_append, not_or]
      exact ⟨⟨h1, fun hm => h2 (by rw [List.mem_singleton] at hm; subst hm; simp [PS.foot])⟩, fun hm => h2 (hlvb g hm)⟩)
    have hNold : ∀ g, g < w.heap.size → g ∉ N := fun g hg hm => by have := (hN g hm).1; omega
    have hK' : KernOf w' X.B.k X.K := hK4.same fun g hg => hold g (hNold g (h.kern.foot_lt g hg)) (fun hm => by
      simp only [PS.foot, Say.J, List.mem_append, List.mem_cons, List.not_mem_nil, or_false, Option.mem_toList] at hm
      rcases hm with ((rfl | hm) | hm) | hm
      · exact h.kern.off hpb (by decide) (by decide) hg
      · exact h.kern.off_own (OffRow.of_own h.proc.args) (by decide) (by decide) hm hg
      · exact h.kern.off_own (OffRow.of_own h.proc.env) (by decide) (by decide) hm hg
      · obtain ⟨c, fz, hk⟩ := Lib.ownsRow_kind h.proc.log g hm
        simp only [KS.foot, List.mem_append, List.mem_cons, List.not_mem_nil, or_false, Option.mem_toList] at hg
        rcases hg with (rfl | rfl) | hg
        · have h1 := h.kern.blk
          unfold Blk at h1
          rw [hk] at h1
          injection h1 with h1
          injection h1 with _ h1
          exact absurd h1 (by decide)
        · exact h.kern.things.own_ne h.proc.log hm
        · exact own_ne_own h.kern.row h.proc.log (by decide) hg hm) (hK4.foot_lt g hg)
    have hs' : SinkAt w' X.sink v' := (hold _ (hNold _ h.sink.lt) (fun hm => h.proc.off h.sink (by decide) (by decide) (by decide) hm) hs4.lt).trans hs4
    have hvoff : ∀ g, v'.ownBlock = some g → g ∉ N ∧ g ∉ (X.J S).foot X.p := by
      intro g hg
      rcases hv4 with e | ⟨g', e, hg'⟩
      · rw [e] at hg
        exact ⟨hNold g (h.row.lt hg).2, fun hm => hoff g hm (by simp [hg])⟩
      · rw [hg] at e
        cases e
        exact ⟨fun hm => by have := (hN g hm).2; omega, fun hm => by have := h.proc.foot_lt g hm; omega⟩
    have hr' : OffRow w' 0 5 v' (S.said.length + bs.length) (bytesC (S.said ++ bs)) := hr4.same fun g hg => hold g (hvoff g hg).1 (hvoff g hg).2 (hr4.lt hg).2
    have hnew : ∀ g, v'.ownBlock = some g → S.val.ownBlock = some g ∨ w.heap.size ≤ g := by
      intro g hg
      rcases hv4 with e | ⟨g', e, hg'⟩
      · exact .inl (e ▸ hg)
      · rw [hg] at e; cases e
        exact .inr (Nat.le_trans hsW hg')
    have htb : w'.heap[X.B.tb]? = w.heap[X.B.tb]? := hkeep _ (Blk.lt h.table) (Blk.ne_ h.table hpb (by decide)) (Blk.ne_ h.table h.kern.blk (by decide)) (Blk.ne_ h.table h.sink (by decide)) (h.row.blk_ne h.table (by decide)) (own_blk_ne h.proc.log h.table (by decide))
    refine ⟨rfl, lv, v', ?_, hTall.more hsub, ?_⟩
    · exact {
        proc := hP', kern := hK', free := h.free, top := h.top
        table := htb.trans h.table
        sink := hs'
        row := by
          show OffRow w' 0 _ v' (S.said ++ bs).length (bytesC (S.said ++ bs))
          rw [List.length_append]
          exact hr' }
    · intro g hg
      simp only [Say.foot, PS.foot, Say.J, Told.does, List.mem_append, List.mem_cons, List.not_mem_nil, or_false, Option.mem_toList] at hg
      have hin : ∀ g, (g ∈ (X.J S).foot X.p ∨ g ∈ X.K.foot X.B.k ∨ g = X.B.tb ∨ g = X.sink ∨ S.val.ownBlock = some g) → g ∈ X.foot S := by
        intro g hg
        simp only [Say.foot, List.mem_append, List.mem_cons, List.not_mem_nil, or_false, Option.mem_toList]
        rcases hg with hg | hg | rfl | rfl | hg <;> simp [*]
      rcases hg with (((((rfl | hg) | hg) | hg) | hg) | rfl | rfl) | hg
      · exact .inl (hin _ (.inl (by simp [PS.foot])))
      · exact .inl (hin _ (.inl (by simp [PS.foot, Say.J, hg])))
      · exact .inl (hin _ (.inl (by simp [PS.foot, Say.J, hg])))
      · rcases hlv with e | ⟨g', e, hle⟩
        · exact .inl (hin _ (.inl (by rw [hg] at e; simp only [PS.foot, Say.J, List.mem_append, Option.mem_toList] at e ⊢; exact .inr e.symm)))
        · rw [hg] at e; cases e; exact .inr hle
      · exact .inl (hin _ (.inr (.inl hg)))
      · exact .inl (hin _ (.inr (.inr (.inl rfl))))
      · exact .inl (hin _ (.inr (.inr (.inr (.inl rfl)))))
      · rcases hnew g hg with h1 | h1
        · exact .inl (hin _ (.inr (.inr (.inr (.inr h1)))))
        · exact .inr h1

end Go.Proofs.YtlncmknikjloeaaGreatDoor
end

section
namespace Go.Proofs.YtlncmknikjloeaaGreatDoor
open Go.RowKit Go.Maps

/-- what of a job's flow is no matter of memory -/
structure PF where
  steps : Nat
  held : Int
  peak : Int
  inb : List UInt8
  said : Bool → List UInt8
  used : Nat
def Flow.pl (F : Flow) : PF := { steps := F.steps, held := F.held, peak := F.peak, inb := F.inb, said := F.said, used := F.used }

namespace PF
/-- the next fault -/
def next (fl : List (Int × Int)) (s : PF) : Int × Int := fl.getD s.used (0, 0)
def took (fl : List (Int × Int)) (s : PF) : Nat := if s.used = fl.length then s.used else s.used + 1
/-- a transfer that failed -/
def failed (fl : List (Int × Int)) (s : PF) : PF := { s with steps := s.steps + 1, used := s.took fl }
/-- how many bytes of so many -/
def some_ (fl : List (Int × Int)) (s : PF) (m : Nat) : Nat := (shortN (m : Int) (s.next fl)).toNat
def wrote (fl : List (Int × Int)) (s : PF) (b : Bool) (bs : List UInt8) : PF := { s with steps := s.steps + 1, said := fun b' => if b' = b then s.said b ++ bs else s.said b', used := s.took fl }
def read (fl : List (Int × Int)) (s : PF) (n : Nat) : PF := { s with steps := s.steps + 1, inb := s.inb.drop n, used := s.took fl }
/-- how many transfers there may be yet -/
def left (fl : List (Int × Int)) (s : PF) : Nat := fl.length - s.used

/-- all bytes are written: -1, or 1 -/
def all (fl : List (Int × Int)) : Nat → PF → Bool → List UInt8 → PF × Int
  | 0, s, _, _ => (s, -1)
  | f + 1, s, b, bs =>
    if bs = [] then (s, -1)
    else if wErr (s.next fl) = 9 then all fl f (s.failed fl) b bs
    else if wErr (s.next fl) = 0 then all fl f (s.wrote fl b (bs.take (s.some_ fl bs.length))) b (bs.drop (s.some_ fl bs.length))
    else (s.failed fl, 1)
/-- bytes are read: none, when that fails -/
def reads (fl : List (Int × Int)) : Nat → PF → Nat → PF × Option (List UInt8)
  | 0, s, _ => (s, none)
  | f + 1, s, m =>
    if (s.next fl).1 = 2 then reads fl f (s.failed fl) m
    else if (s.next fl).1 = 4 then (s.failed fl, none)
    else (s.read fl (s.some_ fl (min m s.inb.length)), some (s.inb.take (s.some_ fl (min m s.inb.length))))
def holds (s : PF) (h m : Int) : PF := { s with held := h, peak := m }

section
variable {fl : List (Int × Int)} {s : PF}
theorem next_free (h : s.used = fl.length) : s.next fl = (0, 0) := by
  unfold next; rw [h]; simp
theorem wErr_zero : wErr (0, 0) = 0 := rfl
theorem took_lt (h : wErr (s.next fl) ≠ 0 ∨ (s.next fl).1 = 2) (hu : s.used ≤ fl.length) : s.took fl = s.used + 1 ∧ s.used < fl.length := by
  by_cases e : s.used = fl.length
  · rw [next_free e] at h
    rcases h with h | h
    · exact absurd wErr_zero h
    · exact absurd h (by decide)
  · exact ⟨if_neg e, by omega⟩
theorem took_le (hu : s.used ≤ fl.length) : s.took fl ≤ fl.length ∧ s.used ≤ s.took fl := by
  unfold took; split <;> omega
theorem some_pos {m : Nat} (h : 0 < m) : 0 < s.some_ fl m ∧ s.some_ fl m ≤ m := by
  unfold some_ shortN
  split <;> omega
theorem some_le (m : Nat) : s.some_ fl m ≤ m := by
  unfold some_ shortN
  split <;> omega
theorem some_eq (m : Nat) : shortN (m : Int) (s.next fl) = ((s.some_ fl m : Nat) : Int) := by
  unfold some_ shortN
  split <;> omega
end
end PF

section
variable {X : Job} {F : Flow}
theorem Flow.pl_next : (X.kF F).next = F.pl.next X.K.fl := rfl
theorem Flow.pl_took : F.took X = F.pl.took X.K.fl := rfl
theorem Flow.pl_failed : (F.failed X).pl = F.pl.failed X.K.fl := rfl
theorem Flow.pl_wrote (b : Bool) (bs : List UInt8) (v : Value) : (F.wrote X b bs v).pl = F.pl.wrote X.K.fl b bs := rfl
theorem JobOf.used_le {w : World} (h : JobOf w X F) : F.pl.used ≤ X.K.fl.length := h.kern.used
end

end Go.Proofs.YtlncmknikjloeaaGreatDoor
end
