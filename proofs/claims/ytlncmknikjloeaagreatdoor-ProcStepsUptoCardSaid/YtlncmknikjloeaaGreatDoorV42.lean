/-
  Parts of the proof: A machine that tells piece after piece: walks over Step, Kill, and what it tells of itself; Walks over Go and Acts of a process that is stepped.
-/
import Derived.Test.YtlncmknikjloeaaGreatDoorV41
import Derived.Test.YtlncmknikjloeaaGreatDoorV22

section
namespace Go.Proofs.YtlncmknikjloeaaGreatDoor
open Go.RowKit Go.Maps Go.Shelf

set_option maxHeartbeats 1000000 in
theorem machDone (w : World) (m p : Nat) (f : Value) (d : Bool) (st : Int) (hm : MachAt w m p f d st) : Calls Tryz.prog 13 #[.pointer (some ⟨m, 0, none⟩)] w fun e w' => e = .returned (.bool d) ∧ w' = w := by
  have c2 : w.cell? ⟨m, 2, none⟩ = some (.bool d) := hm.cell 2
  have hl := hm.lt
  go_enter Tryz.func13, Tryz.ntmps13
  go_wp2_with fail
  go_returns
  exact ⟨rfl, rfl⟩
set_option maxHeartbeats 1000000 in
theorem machStatus (w : World) (m p : Nat) (f : Value) (d : Bool) (st : Int) (hm : MachAt w m p f d st) : Calls Tryz.prog 19 #[.pointer (some ⟨m, 0, none⟩)] w fun e w' => e = .returned (.int .i64 st) ∧ w' = w := by
  have c3 : w.cell? ⟨m, 3, none⟩ = some (.int .i64 st) := hm.cell 3
  have hl := hm.lt
  go_enter Tryz.func19, Tryz.ntmps19
  go_wp2_with fail
  go_returns
  exact ⟨rfl, rfl⟩
set_option maxHeartbeats 1000000 in
theorem machHeld (w : World) (m p : Nat) (f : Value) (d : Bool) (st : Int) (hm : MachAt w m p f d st) (J : PS) (hp : ProcOf w p J) : Calls Tryz.prog 16 #[.pointer (some ⟨m, 0, none⟩)] w fun e w' => e = .returned (.int .i64 J.held) ∧ w' = w := by
  have c0 : w.cell? ⟨m, 0, none⟩ = some (.pointer (some ⟨p, 0, none⟩)) := hm.cell 0
  have cx : w.cell? ⟨p, 8, none⟩ = some (.int .i64 J.held) := by rw [hp.blk.cell 8]; simp [procCells]
  have hl := hm.lt
  have hl2 := hp.blk.lt
  clear hp
  go_enter Tryz.func16, Tryz.ntmps16
  go_wp2_with fail
  go_returns
  exact ⟨rfl, rfl⟩
set_option maxHeartbeats 1000000 in
theorem machPeak (w : World) (m p : Nat) (f : Value) (d : Bool) (st : Int) (hm : MachAt w m p f d st) (J : PS) (hp : ProcOf w p J) : Calls Tryz.prog 22 #[.pointer (some ⟨m, 0, none⟩)] w fun e w' => e = .returned (.int .i64 J.peak) ∧ w' = w := by
  have c0 : w.cell? ⟨m, 0, none⟩ = some (.pointer (some ⟨p, 0, none⟩)) := hm.cell 0
  have cx : w.cell? ⟨p, 9, none⟩ = some (.int .i64 J.peak) := by rw [hp.blk.cell 9]; simp [procCells]
  have hl := hm.lt
  have hl2 := hp.blk.lt
  clear hp
  go_enter Tryz.func22, Tryz.ntmps22
  go_wp2_with fail
  go_returns
  exact ⟨rfl, rfl⟩
set_option maxHeartbeats 1000000 in
theorem machSteps (w : World) (m p : Nat) (f : Value) (d : Bool) (st : Int) (hm : MachAt w m p f d st) (J : PS) (hp : ProcOf w p J) : Calls Tryz.prog 21 #[.pointer (some ⟨m, 0, none⟩)] w fun e w' => e = .returned (.int .i64 (J.steps : Int)) ∧ w' = w := by
  have c0 : w.cell? ⟨m, 0, none⟩ = some (.pointer (some ⟨p, 0, none⟩)) := hm.cell 0
  have cx : w.cell? ⟨p, 15, none⟩ = some (.int .i64 (J.steps : Int)) := by rw [hp.blk.cell 15]; simp [procCells]
  have hl := hm.lt
  have hl2 := hp.blk.lt
  clear hp
  go_enter Tryz.func21, Tryz.ntmps21
  go_wp2_with fail
  go_returns
  exact ⟨rfl, rfl⟩

set_option maxHeartbeats 1000000 in
theorem stepDone (w : World) (m p : Nat) (f : Value) (st : Int) (hm : MachAt w m p f true st) : Calls Tryz.prog 18 #[.pointer (some ⟨m, 0, none⟩)] w fun e w' => e = .returned (.bool true) ∧ w' = w := by
  have c2 : w.cell? ⟨m, 2, none⟩ = some (.bool true) := hm.cell 2
  have hl := hm.lt
  go_enter Tryz.func18, Tryz.ntmps18
  go_wp2_with fail
  go_returns
  exact ⟨rfl, rfl⟩
set_option maxHeartbeats 1000000 in
theorem killDone (w : World) (m p : Nat) (f : Value) (st : Int) (hm : MachAt w m p f true st) : Calls Tryz.prog 17 #[.pointer (some ⟨m, 0, none⟩)] w fun e w' => e = .returned (.tuple #[]) ∧ w' = w := by
  have c2 : w.cell? ⟨m, 2, none⟩ = some (.bool true) := hm.cell 2
  have hl := hm.lt
  go_enter Tryz.func17, Tryz.ntmps17
  go_wp2_with fail
  first | go_end0 | go_returns
  exact ⟨rfl, rfl⟩

section
variable {w : World} {X : Say} {S : Told}
/-- the process's flag alone has turned -/
theorem say_may {b : Bool} (h : SayOf w X S) : SayOf (w.setCell ⟨X.p, 12, none⟩ (.bool b)) X { S with may := b } ∧ Moved X S { S with may := b } w (w.setCell ⟨X.p, 12, none⟩ (.bool b)) := by
  have hT : Turns [X.p] w (w.setCell ⟨X.p, 12, none⟩ (.bool b)) := (Turns.refl _ w).setCell _ _ (fun _ => List.mem_singleton.2 rfl)
  refine h.proc1 hT (h.proc.set1 hT ?_ ⟨rfl, rfl⟩ ⟨rfl, rfl⟩ ⟨rfl, rfl⟩) rfl rfl rfl
  have b1 := h.proc.blk.set_ 12 (.bool b)
  rw [show procCells (X.J { S with may := b }) = (procCells (X.J S)).setIfInBounds 12 (.bool b) by simp [procCells, Say.J]]
  exact b1
theorem over_may (h : SayOver w X S) (hm : S.may = false) : SayOver (w.setCell ⟨X.p, 12, none⟩ (.bool false)) X S ∧ Turns [X.p] w (w.setCell ⟨X.p, 12, none⟩ (.bool false)) := by
  have hT : Turns [X.p] w (w.setCell ⟨X.p, 12, none⟩ (.bool false)) := (Turns.refl _ w).setCell _ _ (fun _ => List.mem_singleton.2 rfl)
  have hb := h.proc.blk
  have hbk : ∀ {t : TypeId} {cs : Array Value} {g : Nat}, Blk w g t cs → t ≠ 89 → (w.setCell ⟨X.p, 12, none⟩ (.bool false)).heap[g]? = w.heap[g]? := fun hg h1 => hT.block _ hg.lt (by rw [List.mem_singleton]; exact Blk.ne_ hg hb h1)
  refine ⟨⟨h.proc.set1 hT ?_ ⟨rfl, rfl⟩ ⟨rfl, rfl⟩ ⟨rfl, rfl⟩, h.kern.turns hT fun g hg hmm => h.kern.off hb (by decide) (by decide) ((List.mem_singleton.1 hmm) ▸ hg), (hbk h.table (by decide)).trans h.table, (hbk h.sink (by decide)).trans h.sink, h.row.same fun g hg => hT.block g (h.row.lt hg).2 (by rw [List.mem_singleton]; exact fun e => h.row.blk_ne hb (by decide) (e ▸ hg))⟩, hT⟩
  have b1 := hb.set_ 12 (.bool false)
  have e : procCells (X.J S).over = (procCells (X.J S).over).setIfInBounds 12 (.bool false) := by simp [procCells, Say.J, PS.over, hm]
  rw [e]
  exact b1

variable {wb : World} {L bl bk : Nat} {l : List ActIt} {parts : List (List UInt8)} {m c : Nat}
theorem PlanAt.tick {pcs : List (List UInt8)} (h : PlanAt pcs c true (c + 1) 7 S) : PlanAt pcs (c + 1) false (c + 1) 7 S := by
  have e1 : max (c + 1) c = c + 1 := by omega
  have e2 : max (c + 1) (c + 1) = c + 1 := by omega
  refine ⟨h.at_, ?_, ?_, ?_, h.held, h.peak, ?_⟩
  · rw [e2]; have := h.log; rwa [e1] at this
  · rw [h.may]; simp
  · rw [e2]; have := h.steps; rwa [e1] at this
  · rw [e2]; have := h.said; rwa [e1] at this
theorem PlanAt.begin {pcs : List (List UInt8)} (h : PlanAt pcs c false c 7 S) (b : Bool) : PlanAt pcs c b 0 0 ({ S with may := b } : Told).back := by
  have e1 : max c c = c := by omega
  have e2 : max 0 c = c := by omega
  refine ⟨rfl, ?_, ?_, ?_, rfl, ⟨h.peak.1, h.peak.2.1, fun e => absurd e (by decide)⟩, ?_⟩
  · rw [e2]; have := h.log; rwa [e1] at this
  · show b = (b && decide (0 ≤ c)); simp
  · rw [e2]; have := h.steps; rwa [e1] at this
  · rw [e2]; have := h.said; rwa [e1] at this

set_option maxRecDepth 100000 in
set_option maxHeartbeats 2000000 in
theorem stepWait (hpl : Plays wb L bl bk l parts) (hst : Stays wb L X S w) (h : SayOf w X S) (hm : MachAt w m X.p (mainV bl bk) false 0) (hp : PlanAt (Pl.pieces parts) c false c 7 S) (hu : c + 1 < (Pl.pieces parts).length) :
    Calls Tryz.prog 18 #[.pointer (some ⟨m, 0, none⟩)] w fun e w' => e = .returned (.bool false) ∧ MachAt w' m X.p (mainV bl bk) false 0 ∧ ∃ S', SayOf w' X S' ∧ PlanAt (Pl.pieces parts) (c + 1) false (c + 1) 7 S' ∧ Stays wb L X S' w' ∧ Moved X S S' w w' := by
  have hpb := h.proc.blk
  have hmp : m ≠ X.p := Blk.ne_ hm hpb (by decide)
  have c0 : w.cell? ⟨m, 0, none⟩ = some (.pointer (some ⟨X.p, 0, none⟩)) := hm.cell 0
  have c2 : w.cell? ⟨m, 2, none⟩ = some (.bool false) := hm.cell 2
  have d12 : w.cell? ⟨X.p, 12, none⟩ = some (.bool S.may) := by rw [hpb.cell 12]; rfl
  have e12 : w.frozen? ⟨X.p, 12, none⟩ = false := hpb.frozen 12
  have lm := hm.lt
  have lp := hpb.lt
  obtain ⟨W, hW⟩ : ∃ W, w.setCell ⟨X.p, 12, none⟩ (.bool true) = W := ⟨_, rfl⟩
  obtain ⟨h1, h2⟩ := say_may (b := true) h
  rw [hW] at h1 h2
  have hmW : MachAt W m X.p (mainV bl bk) false 0 := by rw [← hW]; exact hm.far hmp _
  have hsW : Stays wb L X { S with may := true } W := hst.turns h2.turns (fun g hg h3 h4 => hst.off g h3 h4 hg) h2.news
  have hgo := goOn_say_wait hpl hsW h1 hmW (hp.begin true) hu
  have H2 := Lib.hid h2
  have HST := Lib.hid hst
  clear hpl hst h hm hp h1 h2 hmW hsW hpb
  go_enter Tryz.func18, Tryz.ntmps18
  go_wp2_with (go_at_call 41; refine hgo.mono ?_; rintro e w1 ⟨rfl, hm1, S', hS1, hP1, hs1, hM1⟩
               have k0 : w1.cell? ⟨m, 0, none⟩ = some (.pointer (some ⟨X.p, 0, none⟩)) := hm1.cell 0
               have k2 : w1.cell? ⟨m, 2, none⟩ = some (.bool false) := hm1.cell 2
               have k12 : w1.cell? ⟨X.p, 12, none⟩ = some (.bool S'.may) := (by rw [hS1.proc.blk.cell 12]; rfl)
               have f12 : w1.frozen? ⟨X.p, 12, none⟩ = false := hS1.proc.blk.frozen 12
               have l1 := hm1.lt
               have l2 := hS1.proc.blk.lt)
  go_returns
  obtain ⟨h3, h4⟩ := say_may (b := false) hS1
  have hmay : S'.may = false := by rw [hP1.may]; simp [upTo]
  have hsame : ({ S' with may := false } : Told) = S' := by cases S'; simp only at hmay; subst hmay; rfl
  rw [hsame] at h3 h4
  have hmv := (H2.out.trans hM1).trans h4
  exact ⟨rfl, hm1.far hmp _, S', h3, hP1.tick, HST.out.turns hmv.turns (fun g hg h3 h4 => HST.out.off g h3 h4 hg) hmv.news, hmv⟩

set_option maxRecDepth 100000 in
set_option maxHeartbeats 2000000 in
theorem stepOver (hpl : Plays wb L bl bk l parts) (hst : Stays wb L X S w) (h : SayOf w X S) (hm : MachAt w m X.p (mainV bl bk) false 0) (hp : PlanAt (Pl.pieces parts) c false c 7 S) (hu : c + 1 = (Pl.pieces parts).length) :
    Calls Tryz.prog 18 #[.pointer (some ⟨m, 0, none⟩)] w fun e w' => e = .returned (.bool true) ∧ MachAt w' m X.p (mainV bl bk) true 0 ∧ ∃ S', SayOver w' X S' ∧ PlanAt (Pl.pieces parts) (c + 1) false (c + 1) 7 S' ∧ Turns ([m] ++ X.foot S) w w' ∧ (∀ g ∈ X.foot S', g ∈ X.foot S ∨ w.heap.size ≤ g) ∧ ∀ g ∈ X.foot S', g < w'.heap.size := by
  have hpb := h.proc.blk
  have hpf : X.p ∈ X.foot S := by simp [Say.foot, PS.foot]
  have hmp : m ≠ X.p := Blk.ne_ hm hpb (by decide)
  have c0 : w.cell? ⟨m, 0, none⟩ = some (.pointer (some ⟨X.p, 0, none⟩)) := hm.cell 0
  have c2 : w.cell? ⟨m, 2, none⟩ = some (.bool false) := hm.cell 2
  have d12 : w.cell? ⟨X.p, 12, none⟩ = some (.bool S.may) := by rw [hpb.cell 12]; rfl
  have e12 : w.frozen? ⟨X.p, 12, none⟩ = false := hpb.frozen 12
  have lm := hm.lt
  have lp := hpb.lt
  obtain ⟨W, hW⟩ : ∃ W, w.setCell ⟨X.p, 12, none⟩ (.bool true) = W := ⟨_, rfl⟩
  obtain ⟨h1, h2⟩ := say_may (b := true) h
  rw [hW] at h1 h2
  have hmW : MachAt W m X.p (mainV bl bk) false 0 := by rw [← hW]; exact hm.far hmp _
  have hsW : Stays wb L X { S with may := true } W := hst.turns h2.turns (fun g hg h3 h4 => hst.off g h3 h4 hg) h2.news
  have hgo := goOn_say_over hpl hsW h1 hmW (hp.begin true) hu
  have H2 := Lib.hid h2
  clear hpl hst h hm hp h1 h2 hmW hsW hpb
  go_enter Tryz.func18, Tryz.ntmps18
  go_wp2_with (go_at_call 41; refine hgo.mono ?_; rintro e w1 ⟨rfl, hm1, S', hS1, hP1, hT1, hn1, hf1⟩
               have k0 : w1.cell? ⟨m, 0, none⟩ = some (.pointer (some ⟨X.p, 0, none⟩)) := hm1.cell 0
               have k2 : w1.cell? ⟨m, 2, none⟩ = some (.bool true) := hm1.cell 2
               have k12 : w1.cell? ⟨X.p, 12, none⟩ = some (.bool S'.may) := (by rw [hS1.proc.blk.cell 12]; rfl)
               have f12 : w1.frozen? ⟨X.p, 12, none⟩ = false := hS1.proc.blk.frozen 12
               have l1 := hm1.lt
               have l2 := hS1.proc.blk.lt)
  go_returns
  have hmay : S'.may = false := by rw [hP1.may]; simp [upTo]
  obtain ⟨h3, h4⟩ := over_may hS1 hmay
  refine ⟨rfl, hm1.far hmp _, S', h3, hP1.tick, ?_, fun g hg => ?_, fun g hg => Nat.lt_of_lt_of_le (hf1 g hg) h4.size⟩
  · exact ((H2.out.turns.more (by intro g hg; exact List.mem_append.2 (.inr hg))).trans hT1).trans (h4.more (by intro g hg; rw [List.mem_singleton] at hg; subst hg; exact List.mem_append.2 (.inr hpf)))
  · rcases hn1 g hg with h5 | h5
    · exact .inl h5
    · exact .inr (Nat.le_trans H2.out.turns.size h5)

set_option maxRecDepth 100000 in
set_option maxHeartbeats 2000000 in
theorem killWait (h : SayOf w X S) (hm : MachAt w m X.p (mainV bl bk) false 0) :
    Calls Tryz.prog 17 #[.pointer (some ⟨m, 0, none⟩)] w fun e w' => e = .returned (.tuple #[]) ∧ MachAt w' m X.p (mainV bl bk) true 137 ∧ SayOver w' X S ∧ Turns ([m] ++ X.foot S) w w' := by
  have hpb := h.proc.blk
  have hmp : m ≠ X.p := Blk.ne_ hm hpb (by decide)
  have hmo := h.offM hm (.inl rfl)
  have c2 : w.cell? ⟨m, 2, none⟩ = some (.bool false) := hm.cell 2
  have c3 : w.cell? ⟨m, 3, none⟩ = some (.int .i64 0) := hm.cell 3
  have f3 : w.frozen? ⟨m, 3, none⟩ = false := hm.frozen 3
  have lm := hm.lt
  obtain ⟨W, hW⟩ : ∃ W, w.setCell ⟨m, 3, none⟩ (.int .i64 137) = W := ⟨_, rfl⟩
  have hT : Turns [m] w W := by rw [← hW]; exact (Turns.refl _ w).setCell _ _ (fun _ => List.mem_singleton.2 rfl)
  have hmW : MachAt W m X.p (mainV bl bk) false 137 := by rw [← hW]; exact hm.set_ 3 _
  have hSW : SayOf W X S := h.turns hT (fun g hg hmm => hmo ((List.mem_singleton.1 hmm) ▸ hg))
  have hen := ended_any W m X.p (X.J S) X.D (mainV bl bk) 137 hmW hSW.proc hSW.table X.plain
  have HT := Lib.hid hT
  have HS := Lib.hid hSW
  have HM := Lib.hid hmW
  clear h hm hT hmW hSW hpb
  go_enter Tryz.func17, Tryz.ntmps17
  go_wp2_with (go_at_call 40; refine hen.mono ?_; rintro e w1 ⟨rfl, hm1, hp1, ht1, hT1⟩)
  first | go_end0 | go_returns
  have h3 := HS.out
  have hkm := HM.out
  have hT1' : Turns [m, X.p, X.B.tb] W w1 := hT1
  have hkeep : ∀ {t : TypeId} {cs : Array Value} {g : Nat}, Blk W g t cs → t ≠ 116 → t ≠ 89 → t ≠ 99 → w1.heap[g]? = W.heap[g]? := fun hg a2 a3 a4 => hT1'.block _ hg.lt (by
    simp only [List.mem_cons, List.not_mem_nil, or_false, not_or]
    exact ⟨Blk.ne_ hg hkm a2, Blk.ne_ hg h3.proc.blk a3, Blk.ne_ hg h3.table a4⟩)
  refine ⟨rfl, hm1, ⟨hp1, h3.kern.turns hT1' ?_, ht1, (hkeep h3.sink (by decide) (by decide) (by decide)).trans h3.sink, h3.row.same fun g hg => hT1'.block g (h3.row.lt hg).2 ?_⟩, ?_⟩
  · intro g hg hmm
    simp only [List.mem_cons, List.not_mem_nil, or_false] at hmm
    rcases hmm with rfl | rfl | rfl
    · exact h3.kern.off hkm (by decide) (by decide) hg
    · exact h3.kern.off h3.proc.blk (by decide) (by decide) hg
    · exact h3.kern.off h3.table (by decide) (by decide) hg
  · simp only [List.mem_cons, List.not_mem_nil, or_false, not_or]
    exact ⟨fun e => h3.row.blk_ne hkm (by decide) (e ▸ hg), fun e => h3.row.blk_ne h3.proc.blk (by decide) (e ▸ hg), fun e => h3.row.blk_ne h3.table (by decide) (e ▸ hg)⟩
  · refine (HT.out.more (by intro g hg; rw [List.mem_singleton] at hg; simp [hg])).trans (hT1'.more ?_)
    intro g hg
    simp only [List.mem_cons, List.not_mem_nil, or_false] at hg
    rcases hg with rfl | rfl | rfl <;> simp [Say.foot, PS.foot]
end

end Go.Proofs.YtlncmknikjloeaaGreatDoor
end

section
namespace Go.Proofs.YtlncmknikjloeaaGreatDoor
open Go.RowKit Go.Maps Go.Shelf

section
variable {wb : World} {L bl bk : Nat} {l : List ActIt} {parts : List (List UInt8)} {X : Say} {S : Told}

set_option maxRecDepth 100000 in
set_option maxHeartbeats 1000000 in
theorem go_say_wait (w : World) (hpl : Plays wb L bl bk l parts) (hst : Stays wb L X S w) (h : SayOf w X S) (hp : PlanAt (Pl.pieces parts) 0 false 0 0 S.back) (hu : 0 < (Pl.pieces parts).length) :
    Calls Tryz.prog 37 #[.pointer (some ⟨X.p, 0, none⟩), mainV bl bk] w fun e w' => e = .returned (.pointer (some ⟨w.heap.size, 0, none⟩)) ∧ MachAt w' w.heap.size X.p (mainV bl bk) false 0 ∧ ∃ S', SayOf w' X S' ∧ PlanAt (Pl.pieces parts) 0 false 0 7 S' ∧ Stays wb L X S' w' ∧ Moved X S S' w w' := by
  have hb := h.proc.blk
  have c13 : w.cell? ⟨X.p, 13, none⟩ = some (.bool false) := by rw [hb.cell 13]; simp [procCells, Say.J, h.top]
  have lp := hb.lt
  have bm := below_one w (.cells #[.pointer (some ⟨X.p, 0, none⟩), mainV bl bk, .bool false, .int .i64 0] 116)
  have hm1 := Moved.of_below X S bm
  have hgo := goOn_say_wait hpl (hst.turns hm1.turns (fun g hg h3 h4 => hst.off g h3 h4 hg) hm1.news) (h.below bm) (Blk.new w 116 #[.pointer (some ⟨X.p, 0, none⟩), mainV bl bk, .bool false, .int .i64 0]) hp hu
  have H1 := Lib.hid hm1
  clear hpl hst h hp hb bm hm1 hu
  unfold mainV at hgo ⊢
  go_enter Tryz.func37, Tryz.ntmps37
  go_wp2_with (go_at_call 41; refine hgo.mono ?_; rintro e w1 ⟨rfl, hm, S', hS, hP, hs, hM⟩)
  go_returns
  exact ⟨rfl, hm, S', hS, hP, hs, H1.out.trans hM⟩

set_option maxRecDepth 100000 in
set_option maxHeartbeats 1000000 in
theorem go_say_over (w : World) (hpl : Plays wb L bl bk l parts) (hst : Stays wb L X S w) (h : SayOf w X S) (hp : PlanAt (Pl.pieces parts) 0 false 0 0 S.back) (hu : 0 = (Pl.pieces parts).length) :
    Calls Tryz.prog 37 #[.pointer (some ⟨X.p, 0, none⟩), mainV bl bk] w fun e w' => e = .returned (.pointer (some ⟨w.heap.size, 0, none⟩)) ∧ MachAt w' w.heap.size X.p (mainV bl bk) true 0 ∧ ∃ S', SayOver w' X S' ∧ PlanAt (Pl.pieces parts) 0 false 0 7 S' ∧ Turns (X.foot S) w w' ∧ (∀ g ∈ X.foot S', g ∈ X.foot S ∨ w.heap.size ≤ g) ∧ ∀ g ∈ X.foot S', g < w'.heap.size := by
  have hb := h.proc.blk
  have c13 : w.cell? ⟨X.p, 13, none⟩ = some (.bool false) := by rw [hb.cell 13]; simp [procCells, Say.J, h.top]
  have lp := hb.lt
  have bm := below_one w (.cells #[.pointer (some ⟨X.p, 0, none⟩), mainV bl bk, .bool false, .int .i64 0] 116)
  have hm1 := Moved.of_below X S bm
  have hgo := goOn_say_over hpl (hst.turns hm1.turns (fun g hg h3 h4 => hst.off g h3 h4 hg) hm1.news) (h.below bm) (Blk.new w 116 #[.pointer (some ⟨X.p, 0, none⟩), mainV bl bk, .bool false, .int .i64 0]) hp hu
  have H1 := Lib.hid hm1
  clear hpl hst h hp hb bm hm1 hu
  unfold mainV at hgo ⊢
  go_enter Tryz.func37, Tryz.ntmps37
  go_wp2_with (go_at_call 41; refine hgo.mono ?_; rintro e w1 ⟨rfl, hm, S', hS, hP, hT, hn, hf⟩)
  go_returns
  refine ⟨rfl, hm, S', hS, hP, H1.out.turns.then hT fun g hg hlt => ?_, fun g hg => ?_, hf⟩
  · rcases List.mem_append.1 hg with h1 | h1
    · rw [List.mem_singleton] at h1; omega
    · exact h1
  · rcases hn g hg with h1 | h1
    · exact .inl h1
    · exact .inr (Nat.le_trans H1.out.turns.size h1)
end

theorem below_stays {w : World} {X : Say} {S : Told} (W : World) (h : SayOf w X S) : Stays W w.heap.size X S W :=
  ⟨KeptFrom.refl _ _, fun g h1 _ hm => by have := h.foot_lt g hm; omega⟩

set_option maxRecDepth 100000 in
theorem acts_say_wait (w : World) (X : Say) (S : Told) (h : SayOf w X S) (parts : List (List UInt8)) (hp : PlanAt (Pl.pieces parts) 0 false 0 0 S.back) (hu : 0 < (Pl.pieces parts).length) (hbig : parts.flatten.length ≤ 1048576) (hmany : parts.length ≤ 1000000) (A : Option Addr) (c : Nat) (l : List ActIt)
    (hs : l.map ActIt.strip = (4, 7, []) :: parts.map fun p => (2, 0, p)) (hr : Reads w w.heap.size 3 A l.length (actsC l)) (hB : ∀ a ∈ l, Bytes w w.heap.size (.slice a.A a.bs.length a.c) a.bs ∧ a.bs.length ≤ 140737488355328) :
    Calls Tryz.prog 12 #[.pointer (some ⟨X.p, 0, none⟩), .slice A l.length c] w fun e w' => ∃ m, e = .returned (.pointer (some ⟨m, 0, none⟩)) ∧ w.heap.size ≤ m ∧ ∃ wb bl bk l' S', Plays wb w.heap.size bl bk l' parts ∧ MachAt w' m X.p (mainV bl bk) false 0 ∧ SayOf w' X S' ∧ PlanAt (Pl.pieces parts) 0 false 0 7 S' ∧ Stays wb w.heap.size X S' w' ∧ Moved X S S' w w' := by
  have hlen : l.length = parts.length + 1 := by have := congrArg List.length hs; simpa using this
  refine acts_new w X.p A c l hr (by omega) hB (fun m w' => w.heap.size ≤ m ∧ ∃ wb bl bk l' S', Plays wb w.heap.size bl bk l' parts ∧ MachAt w' m X.p (mainV bl bk) false 0 ∧ SayOf w' X S' ∧ PlanAt (Pl.pieces parts) 0 false 0 7 S' ∧ Stays wb w.heap.size X S' w' ∧ Moved X S S' w w') ?_
  intro W bl bk l' hb hst hin
  have hpl : Plays W w.heap.size bl bk l' parts := ⟨hin, hst.trans hs, hbig, hmany⟩
  refine (go_say_wait W hpl (below_stays W h) (h.below hb) hp hu).mono ?_
  rintro e w' ⟨rfl, hm, S', h1, h2, h3, h4⟩
  exact ⟨_, rfl, hb.size, W, bl, bk, l', S', hpl, hm, h1, h2, h3, (Moved.of_below X S hb).trans h4⟩

set_option maxRecDepth 100000 in
theorem acts_say_over (w : World) (X : Say) (S : Told) (h : SayOf w X S) (parts : List (List UInt8)) (hp : PlanAt (Pl.pieces parts) 0 false 0 0 S.back) (hu : 0 = (Pl.pieces parts).length) (hbig : parts.flatten.length ≤ 1048576) (hmany : parts.length ≤ 1000000) (A : Option Addr) (c : Nat) (l : List ActIt)
    (hs : l.map ActIt.strip = (4, 7, []) :: parts.map fun p => (2, 0, p)) (hr : Reads w w.heap.size 3 A l.length (actsC l)) (hB : ∀ a ∈ l, Bytes w w.heap.size (.slice a.A a.bs.length a.c) a.bs ∧ a.bs.length ≤ 140737488355328) :
    Calls Tryz.prog 12 #[.pointer (some ⟨X.p, 0, none⟩), .slice A l.length c] w fun e w' => ∃ m, e = .returned (.pointer (some ⟨m, 0, none⟩)) ∧ w.heap.size ≤ m ∧ ∃ bl bk S', MachAt w' m X.p (mainV bl bk) true 0 ∧ SayOver w' X S' ∧ PlanAt (Pl.pieces parts) 0 false 0 7 S' ∧ Turns (X.foot S) w w' ∧ (∀ g ∈ X.foot S', g ∈ X.foot S ∨ w.heap.size ≤ g) ∧ ∀ g ∈ X.foot S', g < w'.heap.size := by
  have hlen : l.length = parts.length + 1 := by have := congrArg List.length hs; simpa using this
  refine acts_new w X.p A c l hr (by omega) hB (fun m w' => w.heap.size ≤ m ∧ ∃ bl bk S', MachAt w' m X.p (mainV bl bk) true 0 ∧ SayOver w' X S' ∧ PlanAt (Pl.pieces parts) 0 false 0 7 S' ∧ Turns (X.foot S) w w' ∧ (∀ g ∈ X.foot S', g ∈ X.foot S ∨ w.heap.size ≤ g) ∧ ∀ g ∈ X.foot S', g < w'.heap.size) ?_
  intro W bl bk l' hb hst hin
  have hpl : Plays W w.heap.size bl bk l' parts := ⟨hin, hst.trans hs, hbig, hmany⟩
  refine (go_say_over W hpl (below_stays W h) (h.below hb) hp hu).mono ?_
  rintro e w' ⟨rfl, hm, S', h1, h2, h3, h4, h6⟩
  refine ⟨_, rfl, hb.size, bl, bk, S', hm, h1, h2, ((Turns.of_below hb).more (by simp)).trans h3, fun g hg => ?_, h6⟩
  rcases h4 g hg with h5 | h5
  · exact .inl h5
  · exact .inr (Nat.le_trans hb.size h5)

end Go.Proofs.YtlncmknikjloeaaGreatDoor
end
