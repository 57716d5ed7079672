/-
  Parts of the proof: The main function of a machine that tells piece after piece; A machine that tells piece after piece: what goOn, Step, Kill do to it.
-/
import Derived.Test.YtlncmknikjloeaaGreatDoorV40
import Derived.Test.YtlncmknikjloeaaGreatDoorV22
import Derived.Test.YtlncmknikjloeaaGreatDoorV23
import Derived.Test.YtlncmknikjloeaaGreatDoorV24

section
namespace Go.Proofs.YtlncmknikjloeaaGreatDoor
open Go.RowKit Go.Maps Go.Shelf

namespace Pl
/-- the pieces that are told: the parts that are not empty -/
def pieces (parts : List (List UInt8)) : List (List UInt8) := parts.filter fun p => !p.isEmpty
theorem pieces_snoc_nil (l : List (List UInt8)) : pieces (l ++ [[]]) = pieces l := by simp [pieces]
theorem pieces_snoc {p : List UInt8} (l : List (List UInt8)) (h : p ≠ []) : pieces (l ++ [p]) = pieces l ++ [p] := by
  have : p.isEmpty = false := by cases p; exact absurd rfl h; rfl
  simp [pieces, this]
/-- how many pieces there are among the first parts -/
def cnt (parts : List (List UInt8)) (i : Nat) : Nat := (pieces (parts.take i)).length
theorem cnt_zero (parts : List (List UInt8)) : cnt parts 0 = 0 := by simp [cnt, pieces]
theorem cnt_all (parts : List (List UInt8)) (i : Nat) (h : parts.length ≤ i) : cnt parts i = (pieces parts).length := by rw [cnt, List.take_of_length_le h]
theorem take_snoc {parts : List (List UInt8)} {i : Nat} {p : List UInt8} (h : parts[i]? = some p) : parts.take (i + 1) = parts.take i ++ [p] := by rw [List.take_add_one, h]; rfl
theorem cnt_nil {parts : List (List UInt8)} {i : Nat} (h : parts[i]? = some []) : cnt parts (i + 1) = cnt parts i := by rw [cnt, take_snoc h, pieces_snoc_nil]; rfl
theorem cnt_some {parts : List (List UInt8)} {i : Nat} {p : List UInt8} (h : parts[i]? = some p) (hp : p ≠ []) : cnt parts (i + 1) = cnt parts i + 1 ∧ (pieces parts)[cnt parts i]? = some p := by
  refine ⟨by rw [cnt, take_snoc h, pieces_snoc _ hp, List.length_append]; rfl, ?_⟩
  have e : pieces parts = pieces (parts.take (i + 1)) ++ pieces (parts.drop (i + 1)) := by rw [pieces, pieces, pieces, ← List.filter_append, List.take_append_drop]
  rw [e, take_snoc h, pieces_snoc _ hp, List.append_assoc, List.getElem?_append_right (by simp [cnt])]
  simp [cnt]
theorem pieces_flatten (parts : List (List UInt8)) : (pieces parts).flatten = parts.flatten := by
  induction parts with
  | nil => rfl
  | cons p l ih =>
    cases p with
    | nil => rw [show pieces ([] :: l) = pieces l by simp [pieces], ih]; rfl
    | cons x p => rw [show pieces ((x :: p) :: l) = (x :: p) :: pieces l by simp [pieces], List.flatten_cons, List.flatten_cons, ih]
end Pl

set_option maxRecDepth 100000 in
set_option maxHeartbeats 1000000 in
theorem sayHold (w : World) (X : Say) (S : Told) (h : SayOf w X S) (h0 : S.held = 0) (hp : 0 ≤ S.peak ∧ S.peak ≤ 7) :
    Calls Tryz.prog 53 #[.pointer (some ⟨X.p, 0, none⟩), .int .i64 7] w fun e w' => e = .returned (.tuple #[]) ∧ SayOf w' X { S with held := 7, peak := 7 } ∧ Moved X S { S with held := 7, peak := 7 } w w' := by
  have hB := h.proc.blk
  have c8 : w.cell? ⟨X.p, 8, none⟩ = some (.int .i64 0) := by rw [hB.cell 8]; simp [procCells, Say.J, h0]
  have c9 : w.cell? ⟨X.p, 9, none⟩ = some (.int .i64 S.peak) := by rw [hB.cell 9]; rfl
  have f8 : w.frozen? ⟨X.p, 8, none⟩ = false := hB.frozen 8
  have f9 : w.frozen? ⟨X.p, 9, none⟩ = false := hB.frozen 9
  have lp := hB.lt
  have fin : ∀ b : Int, b = 7 → SayOf (((w.setCell ⟨X.p, 8, none⟩ (.int .i64 7)).setCell ⟨X.p, 9, none⟩ (.int .i64 b)).drew) X { S with held := 7, peak := 7 } ∧ Moved X S { S with held := 7, peak := 7 } w (((w.setCell ⟨X.p, 8, none⟩ (.int .i64 7)).setCell ⟨X.p, 9, none⟩ (.int .i64 b)).drew) := by
    rintro b rfl
    have hT : Turns [X.p] w (((w.setCell ⟨X.p, 8, none⟩ (.int .i64 7)).setCell ⟨X.p, 9, none⟩ (.int .i64 7)).drew) := (((Turns.refl [X.p] w).setCell ⟨X.p, 8, none⟩ _ (fun _ => List.mem_singleton.2 rfl)).setCell ⟨X.p, 9, none⟩ _ (fun _ => List.mem_singleton.2 rfl)).drew
    refine h.proc1 hT (h.proc.set1 hT ?_ ⟨rfl, rfl⟩ ⟨rfl, rfl⟩ ⟨rfl, rfl⟩) rfl rfl rfl
    have b1 : Blk ((w.setCell ⟨X.p, 8, none⟩ (.int .i64 7)).setCell ⟨X.p, 9, none⟩ (.int .i64 7)) X.p 89 _ := (hB.set_ 8 (.int .i64 7)).set_ 9 (.int .i64 7)
    rw [show procCells (X.J { S with held := 7, peak := 7 }) = ((procCells (X.J S)).setIfInBounds 8 (.int .i64 7)).setIfInBounds 9 (.int .i64 7) by simp [procCells, Say.J]]
    exact b1
  have hp2 := hp.2
  clear hB h hp
  go_enter Tryz.func53, Tryz.ntmps53
  go_wp2_with fail
  all_goals go_region
  all_goals go_wp2_with fail
  all_goals
    go_end0
    exact ⟨rfl, fin _ (by omega)⟩

set_option maxRecDepth 100000 in
set_option maxHeartbeats 1000000 in
theorem sayHoldAct (w : World) (X : Say) (S : Told) (h : SayOf w X S) (h0 : S.held = 0) (hp : 0 ≤ S.peak ∧ S.peak ≤ 7) (A : Option Addr) (m c : Nat) :
    Calls Tryz.prog 52 #[.pointer (some ⟨X.p, 0, none⟩), .agg #[.int .i64 4, .int .i64 7, .slice A m c]] w fun e w' => e = .returned (.int .i64 (-1)) ∧ SayOf w' X { S with held := 7, peak := 7 } ∧ Moved X S { S with held := 7, peak := 7 } w w' := by
  have bW := below_one w (.cells #[.int .i64 4, .int .i64 7, .slice A m c] 41)
  have hq := sayHold _ X S (h.below bW) h0 hp
  have kb := (Blk.new w 41 #[.int .i64 4, .int .i64 7, .slice A m c]).cell 1
  have HB := Lib.hid bW
  clear h bW
  go_enter Tryz.func52, Tryz.ntmps52
  go_wp2_with (go_at_call 53; refine hq.mono ?_; rintro e w1 ⟨rfl, hS1, hM1⟩)
  go_returns
  exact ⟨rfl, hS1, (Moved.of_below X S HB.out).trans hM1⟩

/-- where a machine's main function stands ahead of a round -/
structure SayInv (X : Say) (S : Told) (wb w0 : World) (L : Nat) (parts : List (List UInt8)) (c : Nat) (b : Bool) (i : Nat) (W : World) (S' : Told) : Prop where
  say : SayOf W X S'
  moved : Moved X S S' w0 W
  kept : KeptFrom L wb W
  off : ∀ g, L ≤ g → g < wb.heap.size → g ∉ X.foot S'
  first : i = 0 → PlanAt (Pl.pieces parts) c b 0 0 S'
  later : ∀ j, i = j + 1 → PlanAt (Pl.pieces parts) c b (Pl.cnt parts j) 7 S' ∧ Pl.cnt parts j ≤ upTo b c
theorem SayInv.below {X : Say} {S : Told} {wb w0 : World} {L : Nat} {parts : List (List UInt8)} {c : Nat} {b : Bool} {i : Nat} {W W' : World} {S' : Told} (h : SayInv X S wb w0 L parts c b i W S') (hb : Below W.heap.size W W') : SayInv X S wb w0 L parts c b i W' S' :=
  ⟨h.say.below hb, h.moved.trans (.of_below X S' hb), ⟨Nat.le_trans h.kept.1 hb.size, fun g h1 h2 => (hb.block g (Nat.lt_of_lt_of_le h2 h.kept.1)).trans (h.kept.2 g h1 h2)⟩, h.off, h.first, h.later⟩
theorem SayInv.moves {X : Say} {S : Told} {wb w0 : World} {L : Nat} {parts : List (List UInt8)} {c : Nat} {b : Bool} {i : Nat} {W W' : World} {S' S'' : Told} (h : SayInv X S wb w0 L parts c b i W S') (hs : SayOf W' X S'') (hm : Moved X S' S'' W W') (j : Nat) (hp : PlanAt (Pl.pieces parts) c b (Pl.cnt parts j) 7 S'') (hu : Pl.cnt parts j ≤ upTo b c) : SayInv X S wb w0 L parts c b (j + 1) W' S'' := by
  refine ⟨hs, h.moved.trans hm, ⟨Nat.le_trans h.kept.1 hm.turns.size, fun g h1 h2 => ?_⟩, fun g h1 h2 => ?_, fun e => by omega, fun k e => ?_⟩
  · exact (hm.away (Nat.lt_of_lt_of_le h2 h.kept.1) (h.off g h1 h2)).1.trans (h.kept.2 g h1 h2)
  · exact (hm.away (Nat.lt_of_lt_of_le h2 h.kept.1) (h.off g h1 h2)).2
  · obtain rfl : j = k := by omega
    exact ⟨hp, hu⟩

/-- what comes of the main function: it has to wait, or it is through -/
def SayEnds (X : Say) (S : Told) (pcs : List (List UInt8)) (c : Nat) (b : Bool) (w : World) (e : Ending) (w' : World) : Prop :=
  e = (if upTo b c < pcs.length then .panicked waitsP else .returned (.int .i64 0)) ∧ ∃ S', SayOf w' X S' ∧ PlanAt pcs c b (upTo b c) 7 S' ∧ Moved X S S' w w'

set_option maxRecDepth 100000 in
theorem sayMain (wb w : World) (X : Say) (S : Told) (h : SayOf w X S) (parts : List (List UInt8)) (c : Nat) (b : Bool) (hp : PlanAt (Pl.pieces parts) c b 0 0 S) (hu : upTo b c ≤ (Pl.pieces parts).length) (hbig : parts.flatten.length ≤ 1048576) (hmany : parts.length ≤ 1000000) (L bl bk : Nat) (l : List ActIt) (hl : ActsIn wb L bl bk l) (hkb : KeptFrom L wb w)
    (hs : l.map ActIt.strip = (4, 7, []) :: parts.map fun p => (2, 0, p)) (hoff : ∀ g, L ≤ g → g < wb.heap.size → g ∉ X.foot S) :
    Calls Tryz.prog 38 #[.pointer (some ⟨X.p, 0, none⟩), .pointer (some ⟨bl, 0, none⟩), .pointer (some ⟨bk, 0, none⟩)] w fun e w' => SayEnds X S (Pl.pieces parts) c b w e w' := by
  have hlen : l.length = parts.length + 1 := by have := congrArg List.length hs; simpa using this
  have hc : c ≤ (Pl.pieces parts).length := by unfold upTo at hu; split at hu <;> omega
  have hpl : (Pl.pieces parts).length ≤ 1000000 := Nat.le_trans (List.length_filter_le _ _) hmany
  have hat0 : ∀ a, l[0]? = some a → a.k = 4 ∧ a.n = 7 := by
    intro a ha
    have h1 : (l.map ActIt.strip)[0]? = some a.strip := by rw [List.getElem?_map, ha]; rfl
    rw [hs] at h1
    simp only [List.getElem?_cons_zero, Option.some.injEq, ActIt.strip, Prod.mk.injEq] at h1
    exact ⟨h1.1.symm, h1.2.1.symm⟩
  have hatS : ∀ j a, l[j + 1]? = some a → a.k = 2 ∧ parts[j]? = some a.bs := by
    intro j a ha
    have h1 : (l.map ActIt.strip)[j + 1]? = some a.strip := by rw [List.getElem?_map, ha]; rfl
    rw [hs, List.getElem?_cons_succ, List.getElem?_map, Option.map_eq_some_iff] at h1
    obtain ⟨p, h2, h3⟩ := h1
    simp only [ActIt.strip, Prod.mk.injEq] at h3
    exact ⟨h3.1.symm, by rw [h2, h3.2.2]⟩
  refine acts_gen wb w X.p L bl bk l hl ?_ (by omega) (fun i W => ∃ S', SayInv X S wb w L parts c b i W S') (SayEnds X S (Pl.pieces parts) c b w) (fun i W ⟨S', hI⟩ => hI.kept) (fun i W W' ⟨S', hI⟩ hb => ⟨S', hI.below hb⟩)
    ⟨S, h, Moved.refl _ _ _, hkb, hoff, fun _ => hp, fun j e => by omega⟩ ?_ ?_
  · intro a ha
    obtain ⟨j, hj⟩ := List.getElem?_of_mem ha
    cases j with
    | zero => rw [(hat0 a hj).1]; decide
    | succ j => rw [(hatS j a hj).1]; decide
  · rintro W ⟨S', hI⟩
    obtain ⟨h1, h2⟩ := hI.later parts.length hlen
    rw [Pl.cnt_all _ _ (Nat.le_refl _)] at h1 h2
    have e : (Pl.pieces parts).length = upTo b c := by omega
    rw [e] at h1
    exact ⟨by rw [if_neg (by omega)], S', hI.say, h1, hI.moved⟩
  · rintro i a W ha ⟨S', hI⟩
    cases i with
    | zero =>
      obtain ⟨hk, hn⟩ := hat0 a ha
      have hP := hI.first rfl
      refine ⟨52, by rw [hk]; rfl, .inl fun W' hb => ?_⟩
      rw [hk, hn]
      refine (sayHoldAct W' X S' (hI.say.below hb) hP.held ⟨hP.peak.1, hP.peak.2.1⟩ a.A a.bs.length a.c).mono ?_
      rintro e w' ⟨rfl, h1, h2⟩
      exact ⟨-1, rfl, by decide, _, (hI.below hb).moves h1 h2 0 (by
        rw [Pl.cnt_zero]
        exact ⟨hP.at_, hP.log, hP.may, hP.steps, rfl, ⟨(show (0 : Int) ≤ 7 by decide), (show (7 : Int) ≤ 7 by decide), fun _ => rfl⟩, hP.said⟩) (by rw [Pl.cnt_zero]; exact Nat.zero_le _)⟩
    | succ j =>
      obtain ⟨hk, hbs⟩ := hatS j a ha
      obtain ⟨hP, hcu⟩ := hI.later j rfl
      refine ⟨49, by rw [hk]; rfl, ?_⟩
      rw [hk]
      obtain ⟨bs, hbe⟩ : ∃ bs, a.bs = bs := ⟨_, rfl⟩
      have hba := hl.bytes a (List.mem_of_getElem? ha)
      rw [hbe] at hbs hba ⊢
      by_cases hnil : bs = []
      · left
        intro W' hb
        subst hnil
        refine (out_of W' X 2 a.n a.A 0 a.c (fun _ w' => Below W'.heap.size W' w') (fun V hV => (sayAllNone V _ _ a.A a.c).mono (by rintro e w' ⟨rfl, rfl⟩; exact ⟨rfl, hV⟩))).mono ?_
        rintro e w' ⟨rfl, h1⟩
        refine ⟨-1, rfl, by decide, S', ?_⟩
        have hI2 := (hI.below hb).below h1
        exact hI2.moves hI2.say (Moved.refl _ _ _) (j + 1) (by rw [Pl.cnt_nil hbs]; exact hP) (by rw [Pl.cnt_nil hbs]; exact hcu)
      · obtain ⟨hcs, hpc⟩ := Pl.cnt_some hbs hnil
        have hpos : 0 < bs.length := List.length_pos_iff.2 hnil
        have hcl : Pl.cnt parts j < (Pl.pieces parts).length := (List.getElem?_eq_some_iff.1 hpc).1
        by_cases hlt : Pl.cnt parts j < upTo b c
        · left
          intro W' hb
          have hsz : S'.said.length + bs.length ≤ 140737488355000 := by
            have h1 : S'.said.length ≤ parts.flatten.length := by
              rw [hP.said, ← Pl.pieces_flatten parts]
              have : (Pl.pieces parts).flatten.length = ((Pl.pieces parts).take (max (Pl.cnt parts j) c)).flatten.length + ((Pl.pieces parts).drop (max (Pl.cnt parts j) c)).flatten.length := by
                rw [← List.length_append, ← List.flatten_append, List.take_append_drop]
              omega
            have h2 : bs.length ≤ parts.flatten.length := by
              have e : parts.flatten = (parts.take (j + 1)).flatten ++ (parts.drop (j + 1)).flatten := by rw [← List.flatten_append, List.take_append_drop]
              rw [e, Pl.take_snoc hbs, List.flatten_append, List.length_append, List.length_append]
              simp
              omega
            omega
          have hoffA : ∀ ad, a.A = some ad → ad.block ∉ X.foot S' := fun ad e => by
            have h2 := hba.2.lt ad.block (by rw [e]; rfl)
            exact hI.off _ h2.1 h2.2
          have hrd : ∀ V, Below W.heap.size W V → Reads V V.heap.size 1 a.A bs.length (bytesC bs) := fun V hV => by
            have h3 : W.ownsRow L 5 1 (.slice a.A bs.length a.c) bs.length (bytesC bs) := ownsRow_same hba.2 fun g hg => hI.kept.2 g (hba.2.lt g hg).1 (hba.2.lt g hg).2
            obtain ⟨_, _, e, _, _, hr⟩ := own_slice h3
            cases e
            exact (hr.below hV).more hV.size
          refine (out_of W' X 2 a.n a.A bs.length a.c (fun _ w' => ∃ S'', SayOf w' X S'' ∧ PlanAt (Pl.pieces parts) c b (Pl.cnt parts j + 1) 7 S'' ∧ Moved X S' S'' W' w') (fun V hV => by
            refine (sayAllGo V X S' ((hI.say.below hb).below hV) (Pl.pieces parts) c _ b 7 hP hc hpl hlt a.A a.c bs hpc (hrd V (below_step hb hV (Nat.le_refl _))) hoffA hba.1 hpos hsz).mono ?_
            rintro e w' ⟨rfl, S'', h1, h2, h3⟩
            exact ⟨rfl, S'', h1, h2, (Moved.of_below X S' hV).trans h3⟩)).mono ?_
          rintro e w' ⟨rfl, S'', h1, h2, h3⟩
          exact ⟨-1, rfl, by decide, S'', (hI.below hb).moves h1 h3 (j + 1) (by rw [hcs]; exact h2) (by rw [hcs]; omega)⟩
        · right
          intro W' hb
          have heq : Pl.cnt parts j = upTo b c := by omega
          refine (out_stop W' X 2 a.n a.A bs.length a.c (fun w' => Below W'.heap.size W' w') (fun V hV => (sayAllStop V X S' ((hI.say.below hb).below hV) (Pl.pieces parts) c _ b 7 hP hc hcl heq a.A bs.length a.c hpos).mono (by rintro e w' ⟨rfl, h1⟩; exact ⟨rfl, below_step hV h1 (Nat.le_refl _)⟩))).mono ?_
          rintro e w' ⟨rfl, h1⟩
          have hI2 := (hI.below hb).below h1
          rw [heq] at hP hcl
          exact ⟨rfl, by rw [if_pos hcl], S', hI2.say, hP, hI2.moved⟩

end Go.Proofs.YtlncmknikjloeaaGreatDoor
end

section
namespace Go.Proofs.YtlncmknikjloeaaGreatDoor
open Go.RowKit Go.Maps Go.Shelf

/-- a process of such a machine that has ended -/
structure SayOver (w : World) (X : Say) (S : Told) : Prop where
  proc : ProcOf w X.p (X.J S).over
  kern : KernOf w X.B.k X.K
  table : TableOf w X.B.tb X.B.k (fun _ => .nilIface)
  sink : SinkAt w X.sink S.val
  row : OffRow w 0 5 S.val S.said.length (bytesC S.said)
theorem PS.over_foot {J : PS} {p g : Nat} (h : g ∈ J.over.foot p) : g ∈ J.foot p := by
  simp [PS.foot, PS.over, Value.ownBlock] at h ⊢
  rcases h with h | h | h <;> simp [h]
theorem Say.plain (X : Say) : Plain X.D := by
  intro i hi
  by_cases h1 : i = 1
  · subst h1; exact .inr (.inr ⟨_, rfl⟩)
  exact .inl (by simp [Say.D, h1])
theorem SayOver.same {w w' : World} {X : Say} {S : Told} (h : SayOver w X S) (hb : ∀ g ∈ X.foot S, w'.heap[g]? = w.heap[g]?) : SayOver w' X S := by
  have m : ∀ g, (g ∈ (X.J S).over.foot X.p ∨ g ∈ X.K.foot X.B.k ∨ g = X.B.tb ∨ g = X.sink ∨ S.val.ownBlock = some g) → w'.heap[g]? = w.heap[g]? := by
    intro g hg
    refine hb g ?_
    simp only [Say.foot, List.mem_append, List.mem_cons, List.not_mem_nil, or_false, Option.mem_toList]
    rcases hg with hg | hg | rfl | rfl | hg
    · exact .inl (.inl (.inl (PS.over_foot hg)))
    all_goals simp [*]
  exact {
    proc := h.proc.same fun g hg => m g (.inl hg)
    kern := h.kern.same fun g hg => m g (.inr (.inl hg))
    table := (m _ (.inr (.inr (.inl rfl)))).trans h.table
    sink := (m _ (.inr (.inr (.inr (.inl rfl))))).trans h.sink
    row := h.row.same fun g hg => m g (.inr (.inr (.inr (.inr hg)))) }
/-- blocks of the machine's own kinds are none of the process's -/
theorem SayOf.offM {w : World} {X : Say} {S : Told} {g : Nat} {t : TypeId} {cs : Array Value} (h : SayOf w X S) (hg : Blk w g t cs) (ht : t = 116 ∨ t = 4 ∨ t = 43) : g ∉ X.foot S := by
  rcases ht with rfl | rfl | rfl <;> exact h.off hg (by decide) (by decide) (by decide) (by decide) (by decide) (by decide) (by decide) (by decide)
theorem Moved.keeps {w w' : World} {X : Say} {S S' : Told} (h : SayOf w X S) (hm : Moved X S S' w w') : Keeps w w' := fun _ _ _ hg ht => (hm.away hg.lt (h.offM hg ht)).1.trans hg

/-- the machine's function value -/
def mainV (bl bk : Nat) : Value := .func (.func 38) #[] #[.pointer (some ⟨bl, 0, none⟩), .pointer (some ⟨bk, 0, none⟩)]
/-- what stays of a machine of acts: where its acts lie -/
structure Plays (wb : World) (L bl bk : Nat) (l : List ActIt) (parts : List (List UInt8)) : Prop where
  acts : ActsIn wb L bl bk l
  strip : l.map ActIt.strip = (4, 7, []) :: parts.map fun p => (2, 0, p)
  big : parts.flatten.length ≤ 1048576
  many : parts.length ≤ 1000000
/-- and is as it was -/
structure Stays (wb : World) (L : Nat) (X : Say) (S : Told) (w : World) : Prop where
  kept : KeptFrom L wb w
  off : ∀ g, L ≤ g → g < wb.heap.size → g ∉ X.foot S
theorem Stays.turns {wb : World} {L : Nat} {X : Say} {S S' : Told} {w w' : World} {N : List Nat} (h : Stays wb L X S w) (ht : Turns N w w') (hN : ∀ g ∈ N, L ≤ g → g < wb.heap.size → False) (hnew : ∀ g ∈ X.foot S', g ∈ X.foot S ∨ w.heap.size ≤ g) : Stays wb L X S' w' := by
  refine ⟨⟨Nat.le_trans h.kept.1 ht.size, fun g h1 h2 => (ht.block g (Nat.lt_of_lt_of_le h2 h.kept.1) (fun hm => hN g hm h1 h2)).trans (h.kept.2 g h1 h2)⟩, fun g h1 h2 hm => ?_⟩
  rcases hnew g hm with h3 | h3
  · exact h.off g h1 h2 h3
  · have := h.kept.1; omega

section
variable {wb w : World} {L bl bk : Nat} {l : List ActIt} {parts : List (List UInt8)} {X : Say} {S : Told} {m c : Nat} {b : Bool} {st : Int}

/-- the process set back to its beginning -/
def Told.back (S : Told) : Told := { S with at_ := 0, held := 0 }
theorem say_back {W : World} (h : SayOf w X S) (ht : Turns [X.p] w W) (hp : ProcOf W X.p { X.J S with at_ := 0, held := 0 }) : SayOf W X S.back ∧ Moved X S S.back w W := h.proc1 ht hp rfl rfl rfl
theorem foot_back : X.foot S.back = X.foot S := rfl

set_option maxRecDepth 100000 in
theorem goOn_say_wait (hpl : Plays wb L bl bk l parts) (hst : Stays wb L X S w) (h : SayOf w X S) (hm : MachAt w m X.p (mainV bl bk) false st) (hp : PlanAt (Pl.pieces parts) c b 0 0 S.back) (hu : upTo b c < (Pl.pieces parts).length) :
    Calls Tryz.prog 41 #[.pointer (some ⟨m, 0, none⟩)] w fun e w' => e = .returned (.tuple #[]) ∧ MachAt w' m X.p (mainV bl bk) false st ∧ ∃ S', SayOf w' X S' ∧ PlanAt (Pl.pieces parts) c b (upTo b c) 7 S' ∧ Stays wb L X S' w' ∧ Moved X S S' w w' := by
  have hpf : X.p ∈ X.foot S := by simp [Say.foot, PS.foot]
  refine (goOn_waits w m X.p (X.J S) 38 #[.pointer (some ⟨bl, 0, none⟩), .pointer (some ⟨bk, 0, none⟩)] st (fun W w' => SayOf W X S.back ∧ ∃ S', SayOf w' X S' ∧ PlanAt (Pl.pieces parts) c b (upTo b c) 7 S' ∧ Moved X S.back S' W w') hm h.proc
    (enters_of Tryz.func38 (by kernel_rfl) rfl) ?_).mono ?_
  · intro W hT hP
    obtain ⟨h1, h2⟩ := say_back h hT hP
    have hs1 : Stays wb L X S.back W := hst.turns h2.turns (fun g hg h3 h4 => hst.off g h3 h4 hg) h2.news
    refine (sayMain wb W X S.back h1 parts c b hp (Nat.le_of_lt hu) hpl.big hpl.many L bl bk l hpl.acts hs1.kept hpl.strip hs1.off).mono ?_
    rintro e w' ⟨he, S', h3, h4, h5⟩
    rw [if_pos hu] at he
    exact ⟨he, ⟨h1, S', h3, h4, h5⟩, h5.keeps h1⟩
  · rintro e w' ⟨rfl, B, W, w1, hT, ⟨h1, S', h3, h4, h5⟩, hB, hk, hTB, hM⟩
    have hBo : B ∉ X.foot S' := h3.offM hk (.inr (.inl rfl))
    have hm1 : Moved X S S.back w W := ⟨hT.more (by intro g hg; rw [List.mem_singleton] at hg; subst hg; exact hpf), fun g hg => .inl hg⟩
    have hm2 := hm1.trans h5
    have hm3 : Moved X S S' w w' := ⟨hm2.turns.then hTB fun g hg hlt => by rw [List.mem_singleton] at hg; omega, hm2.news⟩
    refine ⟨rfl, hM, S', h3.turns hTB (fun g hg hmm => by rw [List.mem_singleton] at hmm; exact hBo (hmm ▸ hg)), h4, ?_, hm3⟩
    exact hst.turns hm3.turns (fun g hg h6 h7 => hst.off g h6 h7 hg) hm3.news

set_option maxRecDepth 100000 in
theorem goOn_say_over (hpl : Plays wb L bl bk l parts) (hst : Stays wb L X S w) (h : SayOf w X S) (hm : MachAt w m X.p (mainV bl bk) false st) (hp : PlanAt (Pl.pieces parts) c b 0 0 S.back) (hu : upTo b c = (Pl.pieces parts).length) :
    Calls Tryz.prog 41 #[.pointer (some ⟨m, 0, none⟩)] w fun e w' => e = .returned (.tuple #[]) ∧ MachAt w' m X.p (mainV bl bk) true 0 ∧ ∃ S', SayOver w' X S' ∧ PlanAt (Pl.pieces parts) c b (upTo b c) 7 S' ∧ Turns ([m] ++ X.foot S) w w' ∧ (∀ g ∈ X.foot S', g ∈ X.foot S ∨ w.heap.size ≤ g) ∧ ∀ g ∈ X.foot S', g < w'.heap.size := by
  have hpf : X.p ∈ X.foot S := by simp [Say.foot, PS.foot]
  have htf : X.B.tb ∈ X.foot S := by simp [Say.foot]
  refine (goOn_over w m X.p (X.J S) 38 #[.pointer (some ⟨bl, 0, none⟩), .pointer (some ⟨bk, 0, none⟩)] st X.D X.plain (fun W w' J1 => SayOf W X S.back ∧ ∃ S', J1 = X.J S' ∧ SayOf w' X S' ∧ PlanAt (Pl.pieces parts) c b (upTo b c) 7 S' ∧ Moved X S.back S' W w') hm h.proc 0
    (enters_of Tryz.func38 (by kernel_rfl) rfl) ?_).mono ?_
  · intro W hT hP
    obtain ⟨h1, h2⟩ := say_back h hT hP
    have hs1 : Stays wb L X S.back W := hst.turns h2.turns (fun g hg h3 h4 => hst.off g h3 h4 hg) h2.news
    refine (sayMain wb W X S.back h1 parts c b hp (Nat.le_of_eq hu) hpl.big hpl.many L bl bk l hpl.acts hs1.kept hpl.strip hs1.off).mono ?_
    rintro e w' ⟨he, S', h3, h4, h5⟩
    rw [if_neg (by omega)] at he
    exact ⟨0, he, ⟨rfl, X.J S', ⟨h1, S', rfl, h3, h4, h5⟩, h3.proc, h3.table⟩, h5.keeps h1⟩
  · rintro e w' ⟨rfl, B, W, w1, J1, hT, ⟨h1, S', rfl, h3, h4, h5⟩, _, _, hB, hk, ⟨cs, hkm⟩, hTB, hM, hPo, hTo⟩
    have hBo : B ∉ X.foot S' := h3.offM hk (.inr (.inl rfl))
    have hmo : m ∉ X.foot S' := h3.offM hkm (.inl rfl)
    have hm1 : Moved X S S.back w W := ⟨hT.more (by intro g hg; rw [List.mem_singleton] at hg; subst hg; exact hpf), fun g hg => .inl hg⟩
    have hm2 := hm1.trans h5
    have hTB' : Turns [B, m, X.p, X.B.tb] w1 w' := hTB
    have hkeep : ∀ {t : TypeId} {cs : Array Value} {g : Nat}, Blk w1 g t cs → t ≠ 4 → t ≠ 116 → t ≠ 89 → t ≠ 99 → w'.heap[g]? = w1.heap[g]? := fun hg a1 a2 a3 a4 => hTB'.block _ hg.lt (by
      simp only [List.mem_cons, List.not_mem_nil, or_false, not_or]
      exact ⟨Blk.ne_ hg hk a1, Blk.ne_ hg hkm a2, Blk.ne_ hg h3.proc.blk a3, Blk.ne_ hg h3.table a4⟩)
    refine ⟨rfl, hM, S', ⟨hPo, h3.kern.turns hTB' ?_, hTo, (hkeep h3.sink (by decide) (by decide) (by decide) (by decide)).trans h3.sink, h3.row.same fun g hg => hTB'.block g (h3.row.lt hg).2 ?_⟩, h4, ?_, hm2.news, fun g hg => Nat.lt_of_lt_of_le (h3.foot_lt g hg) hTB'.size⟩
    · intro g hg hmm
      simp only [List.mem_cons, List.not_mem_nil, or_false] at hmm
      rcases hmm with rfl | rfl | rfl | rfl
      · exact h3.kern.off hk (by decide) (by decide) hg
      · exact h3.kern.off hkm (by decide) (by decide) hg
      · exact h3.kern.off h3.proc.blk (by decide) (by decide) hg
      · exact h3.kern.off h3.table (by decide) (by decide) hg
    · simp only [List.mem_cons, List.not_mem_nil, or_false, not_or]
      exact ⟨fun e => h3.row.blk_ne hk (by decide) (e ▸ hg), fun e => h3.row.blk_ne hkm (by decide) (e ▸ hg), fun e => h3.row.blk_ne h3.proc.blk (by decide) (e ▸ hg), fun e => h3.row.blk_ne h3.table (by decide) (e ▸ hg)⟩
    · refine (hm2.turns.more (S' := [m] ++ X.foot S) (by intro g hg; simp [hg])).then hTB' fun g hg hlt => ?_
      simp only [List.mem_cons, List.not_mem_nil, or_false] at hg
      simp only [List.mem_append, List.mem_cons, List.not_mem_nil, or_false]
      rcases hg with rfl | rfl | rfl | rfl
      · omega
      · exact .inl rfl
      · exact .inr hpf
      · exact .inr htf
end

end Go.Proofs.YtlncmknikjloeaaGreatDoor
end
