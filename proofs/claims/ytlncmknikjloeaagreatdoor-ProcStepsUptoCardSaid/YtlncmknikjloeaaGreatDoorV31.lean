/-
  Parts of the proof: Walks over tree.from, look, Find, Stat.
-/
import Derived.Test.YtlncmknikjloeaaGreatDoorV30
import Derived.StillTailTactics
import Derived.Deep.RegionWith
import Derived.Deep.RegionHeld3
import Derived.Test.YtlncmknikjloeaaGreatDoorV05
import Derived.Test.YtlncmknikjloeaaGreatDoorV04

section
namespace Go.Proofs.YtlncmknikjloeaaGreatDoor
open Go.RowKit Go.Maps

set_option maxRecDepth 100000 in
set_option maxHeartbeats 2000000 in
theorem from_any (w : World) (t : Nat) (S : TS) (T : Abs.T) (β : Nat → Nat) (h : TreeIs w t S T β) (cwd path : ByteArray) (hc : cwd.size < 1073741824) (hp : path.size < 1073741824) :
    Calls Tryz.prog 103 #[.pointer (some ⟨t, 0, none⟩), .string cwd, .string path] w fun e w' => e = .returned (leadsV β (T.start cwd.data.toList path.data.toList)) ∧ Below w.heap.size w w' := by
  have c0 : w.cell? ⟨t, 0, none⟩ = some (.pointer (some ⟨β 1, 0, none⟩)) := by rw [h.mem.blk.cell 0, ← h.rep.root]; rfl
  have hl := leads_any w t S T β h 1 h.wf.root_live cwd hc
  obtain ⟨r, hr⟩ : ∃ r, T.leads 1 (Abs.parts cwd.data.toList) = r := ⟨_, rfl⟩
  rw [hr] at hl
  obtain ⟨q, hq⟩ : ∃ q, T.start cwd.data.toList path.data.toList = q := ⟨_, rfl⟩
  rw [hq]
  unfold Abs.T.start at hq
  rw [hr] at hq
  cases r with
  | error e =>
    have he := Abs.T.leads_ne0 hr
    have he1 : ((e : Int) != 0) = true := by simpa using he
    simp only at hq
    subst hq
    clear hr he
    unfold leadsV at hl ⊢
    go_enter Tryz.func103, Tryz.ntmps103
    go_wp2_with (go_at_call 104; refine hl.mono ?_; rintro e w' ⟨rfl, hb⟩)
    go_ret2
    exact ⟨rfl, hb⟩
  | ok i =>
    obtain ⟨x, hx⟩ := h.wf.leads_live _ _ h.wf.root_live hr
    obtain ⟨y, hy, by0, _, _, _, hyd, _, _, _, _⟩ := h.at_ hx
    have k3 : w.cell? ⟨β i, 3, none⟩ = some (.bool x.dir) := by rw [by0.cell 3, ← hyd]; rfl
    have lb := by0.lt
    have lt' := h.mem.blk.lt
    have hdx : T.isDir i = x.dir := by simp [Abs.T.isDir, hx]
    simp only [hdx] at hq
    clear hr hx hy by0 hyd hdx
    unfold leadsV ptrV at hl
    simp only at hl
    cases hd : x.dir with
    | false =>
      rw [hd] at k3 hq
      simp only [if_true] at hq
      subst hq
      go_enter Tryz.func103, Tryz.ntmps103
      go_wp2_with (go_at_call 104; refine hl.mono ?_; rintro e w' ⟨rfl, hb⟩; have k32 := (hb.cell (p := ⟨β i, 3, none⟩) lb).trans k3)
      go_ret2
      exact ⟨rfl, hb⟩
    | true =>
      rw [hd] at k3 hq
      simp only [Bool.true_eq_false, if_false] at hq
      obtain ⟨⟨l⟩⟩ := path
      cases l with
      | nil =>
        simp only at hq
        subst hq
        go_enter Tryz.func103, Tryz.ntmps103
        go_wp2_with (go_at_call 104; refine hl.mono ?_; rintro e w' ⟨rfl, hb⟩; have k32 := (hb.cell (p := ⟨β i, 3, none⟩) lb).trans k3)
        go_ret2
        exact ⟨rfl, hb⟩
      | cons c l =>
        simp only at hq
        by_cases h47 : c = 47
        · rw [if_pos h47] at hq
          subst hq h47
          go_enter Tryz.func103, Tryz.ntmps103
          go_wp2_with (go_at_call 104; refine hl.mono ?_; rintro e w' ⟨rfl, hb⟩; have k32 := (hb.cell (p := ⟨β i, 3, none⟩) lb).trans k3; have c02 := (hb.cell (p := ⟨t, 0, none⟩) lt').trans c0)
          go_ret2
          exact ⟨rfl, hb⟩
        · rw [if_neg h47] at hq
          subst hq
          have hz : ((c.toNat : Int) == 47) = false := beq_eq_false_iff_ne.2 (fun e => h47 (UInt8.toNat_inj.1 (show c.toNat = (47 : UInt8).toNat from by exact_mod_cast e)))
          have hz' : ((((⟨⟨c :: l⟩⟩ : ByteArray)[0]'(Nat.succ_pos _)).toNat : Int) == 47) = false := hz
          clear h47
          go_enter Tryz.func103, Tryz.ntmps103
          go_wp2_with (go_at_call 104; refine hl.mono ?_; rintro e w' ⟨rfl, hb⟩; have k32 := (hb.cell (p := ⟨β i, 3, none⟩) lb).trans k3; have c02 := (hb.cell (p := ⟨t, 0, none⟩) lt').trans c0)
          go_ret2
          exact ⟨rfl, hb⟩

/-- what look answers, as leads does -/
theorem slash_suffix (s : ByteArray) : Lib.hasSuffix s.data.toList [47] = Abs.slash s.data.toList := by
  unfold Lib.hasSuffix Abs.slash
  rw [Bool.eq_iff_iff, List.isSuffixOf_iff_suffix, beq_iff_eq, List.getLast?_eq_some_iff]
  exact ⟨fun ⟨t, ht⟩ => ⟨t, ht.symm⟩, fun ⟨t, ht⟩ => ⟨t, ht.symm⟩⟩

set_option maxRecDepth 100000 in
set_option maxHeartbeats 2000000 in
theorem look_any (w : World) (t : Nat) (S : TS) (T : Abs.T) (β : Nat → Nat) (h : TreeIs w t S T β) (cwd path : ByteArray) (hc : cwd.size < 1073741824) (hp : path.size < 1073741824) :
    Calls Tryz.prog 87 #[.pointer (some ⟨t, 0, none⟩), .string cwd, .string path] w fun e w' => e = .returned (leadsV β (T.look cwd.data.toList path.data.toList)) ∧ Below w.heap.size w w' := by
  have hf := from_any w t S T β h cwd path hc hp
  obtain ⟨r, hr⟩ : ∃ r, T.start cwd.data.toList path.data.toList = r := ⟨_, rfl⟩
  rw [hr] at hf
  obtain ⟨q, hq⟩ : ∃ q, T.look cwd.data.toList path.data.toList = q := ⟨_, rfl⟩
  rw [hq]
  unfold Abs.T.look at hq
  rw [hr] at hq
  cases r with
  | error e =>
    have he := Abs.T.start_ne0 hr
    have he1 : ((e : Int) != 0) = true := by simpa using he
    simp only at hq
    subst hq
    clear hr he
    unfold leadsV at hf ⊢
    go_enter Tryz.func87, Tryz.ntmps87
    go_wp2_with (go_at_call 103; refine hf.mono ?_; rintro e w' ⟨rfl, hb⟩)
    go_ret2
    exact ⟨rfl, hb⟩
  | ok i =>
    obtain ⟨x, hx, hxd⟩ := Abs.isDir_of (h.wf.start_dir hr)
    simp only at hq
    obtain ⟨r2, hr2⟩ : ∃ r, T.leads i (Abs.parts path.data.toList) = r := ⟨_, rfl⟩
    rw [hr2] at hq
    have hl := fun w2 (hb : Below w.heap.size w w2) => leads_any w2 t S T β (h.below hb) i ⟨x, hx⟩ path hp
    rw [hr2] at hl
    unfold leadsV ptrV at hf
    simp only at hf
    clear hr
    cases r2 with
    | error e =>
      have he := Abs.T.leads_ne0 hr2
      have he1 : ((e : Int) != 0) = true := by simpa using he
      simp only at hq
      subst hq
      clear hr2 he
      unfold leadsV at hl ⊢
      simp only at hl
      go_enter Tryz.func87, Tryz.ntmps87
      go_wp2_with (first | (go_at_call 103; refine hf.mono ?_; rintro e w' ⟨rfl, hb⟩) | (go_at_call 104; refine (hl _ hb).mono ?_; rintro e w2 ⟨rfl, hb2⟩))
      go_ret2
      exact ⟨rfl, hb.trans (hb2.mono hb.size)⟩
    | ok j =>
      obtain ⟨z, hz⟩ := h.wf.leads_live _ _ ⟨x, hx⟩ hr2
      obtain ⟨y, hy, by0, _, _, _, hyd, _, _, _, _⟩ := h.at_ hz
      have k3 : w.cell? ⟨β j, 3, none⟩ = some (.bool z.dir) := by rw [by0.cell 3, ← hyd]; rfl
      have lb := by0.lt
      have hdz : T.isDir j = z.dir := by simp [Abs.T.isDir, hz]
      simp only [hdz] at hq
      have hsf := fun w2 => Tryz.strings_HasSuffix path ⟨#[47]⟩ w2 (by omega)
      rw [slash_suffix] at hsf
      clear hx hxd hr2 hz hy by0 hyd hdz
      unfold leadsV ptrV at hl
      simp only at hl
      cases hs : Abs.slash path.data.toList with
      | false =>
        rw [hs] at hsf hq
        simp only [Bool.false_and, Bool.false_eq_true, if_false] at hq
        subst hq
        go_enter Tryz.func87, Tryz.ntmps87
        go_wp2_with (first | (go_at_call 103; refine hf.mono ?_; rintro e w' ⟨rfl, hb⟩) | (go_at_call 104; refine (hl _ hb).mono ?_; rintro e w2 ⟨rfl, hb2⟩; have k32 := (hb2.cell (p := ⟨β j, 3, none⟩) (Nat.lt_of_lt_of_le lb hb.size)).trans ((hb.cell (p := ⟨β j, 3, none⟩) lb).trans k3)) | (go_at_call 105; refine (hsf _).mono ?_; rintro e w3 ⟨rfl, rfl⟩))
        go_ret2
        exact ⟨rfl, hb.trans (hb2.mono hb.size)⟩
      | true =>
        rw [hs] at hsf hq
        simp only [Bool.true_and] at hq
        cases hd : z.dir with
        | true =>
          rw [hd] at k3 hq
          simp only [Bool.not_true, Bool.false_eq_true, if_false] at hq
          subst hq
          go_enter Tryz.func87, Tryz.ntmps87
          go_wp2_with (first | (go_at_call 103; refine hf.mono ?_; rintro e w' ⟨rfl, hb⟩) | (go_at_call 104; refine (hl _ hb).mono ?_; rintro e w2 ⟨rfl, hb2⟩; have k32 := (hb2.cell (p := ⟨β j, 3, none⟩) (Nat.lt_of_lt_of_le lb hb.size)).trans ((hb.cell (p := ⟨β j, 3, none⟩) lb).trans k3)) | (go_at_call 105; refine (hsf _).mono ?_; rintro e w3 ⟨rfl, rfl⟩))
          go_ret2
          exact ⟨rfl, hb.trans (hb2.mono hb.size)⟩
        | false =>
          rw [hd] at k3 hq
          simp only [Bool.not_false, if_true] at hq
          subst hq
          go_enter Tryz.func87, Tryz.ntmps87
          go_wp2_with (first | (go_at_call 103; refine hf.mono ?_; rintro e w' ⟨rfl, hb⟩) | (go_at_call 104; refine (hl _ hb).mono ?_; rintro e w2 ⟨rfl, hb2⟩; have k32 := (hb2.cell (p := ⟨β j, 3, none⟩) (Nat.lt_of_lt_of_le lb hb.size)).trans ((hb.cell (p := ⟨β j, 3, none⟩) lb).trans k3)) | (go_at_call 105; refine (hsf _).mono ?_; rintro e w3 ⟨rfl, rfl⟩))
          go_ret2
          exact ⟨rfl, hb.trans (hb2.mono hb.size)⟩

theorem Boxed6 {w w' : World} {t : TypeId} {cs : Array Value} (hb : Below (w.alloc (.cells cs t)).heap.size (w.alloc (.cells cs t)) w') : Blk w' w.heap.size t cs := (hb.block _ (by simp)).trans (Blk.new w t cs)

theorem blk6 {w : World} {g : Nat} {t : TypeId} {a0 a1 a2 a3 a4 a5 : Value} (h : Blk w g t #[a0, a1, a2, a3, a4, a5]) : Blk w g t #[a0, a1, a2, a3, a4, a5] ∧ w.cell? ⟨g, 0, none⟩ = some a0 ∧ w.cell? ⟨g, 1, none⟩ = some a1 ∧ w.cell? ⟨g, 2, none⟩ = some a2 ∧ w.cell? ⟨g, 3, none⟩ = some a3 ∧ w.cell? ⟨g, 4, none⟩ = some a4 ∧ w.cell? ⟨g, 5, none⟩ = some a5 ∧
    w.frozen? ⟨g, 0, none⟩ = false ∧ w.frozen? ⟨g, 1, none⟩ = false ∧ w.frozen? ⟨g, 2, none⟩ = false ∧ w.frozen? ⟨g, 3, none⟩ = false ∧ w.frozen? ⟨g, 4, none⟩ = false ∧ w.frozen? ⟨g, 5, none⟩ = false ∧ g < w.heap.size :=
  ⟨h, h.cell 0, h.cell 1, h.cell 2, h.cell 3, h.cell 4, h.cell 5, h.frozen 0, h.frozen 1, h.frozen 2, h.frozen 3, h.frozen 4, h.frozen 5, h.lt⟩
theorem set6 {w : World} {g : Nat} {t : TypeId} {a0 a1 a2 a3 a4 a5 : Value} (h : Blk w g t #[a0, a1, a2, a3, a4, a5]) (v0 v1 v2 v3 v4 v5 : Value) : Blk ((((((w.setCell ⟨g, 0, none⟩ v0).setCell ⟨g, 1, none⟩ v1).setCell ⟨g, 2, none⟩ v2).setCell ⟨g, 3, none⟩ v3).setCell ⟨g, 4, none⟩ v4).setCell ⟨g, 5, none⟩ v5) g t #[v0, v1, v2, v3, v4, v5] :=
  (((((h.set_ 0 v0).set_ 1 v1).set_ 2 v2).set_ 3 v3).set_ 4 v4).set_ 5 v5
theorem below_drewN' {B : Nat} {a w : World} (h : Below B a w) : Below B a w.drew := ⟨h.os, h.tape, h.output, h.size, h.block⟩
theorem below6 {B g : Nat} {a w : World} (h : Below B a w) (hg : B ≤ g) (v0 v1 v2 v3 v4 v5 : Value) : Below B a ((((((w.setCell ⟨g, 0, none⟩ v0).setCell ⟨g, 1, none⟩ v1).setCell ⟨g, 2, none⟩ v2).setCell ⟨g, 3, none⟩ v3).setCell ⟨g, 4, none⟩ v4).setCell ⟨g, 5, none⟩ v5) :=
  (((((h.setCell (p := ⟨g, 0, none⟩) hg _).setCell (p := ⟨g, 1, none⟩) hg _).setCell (p := ⟨g, 2, none⟩) hg _).setCell (p := ⟨g, 3, none⟩) hg _).setCell (p := ⟨g, 4, none⟩) hg _).setCell (p := ⟨g, 5, none⟩) hg _
/-- how what stands at a number is told -/
def statV (T : Abs.T) (i : Nat) : Value := match T.get i with
  | none => .agg #[.int .i64 0, .bool false, .int .i64 0, .int .i64 0, .int .i64 0, .int .i64 0]
  | some x => .agg #[.int .i64 (i : Int), .bool x.dir, .int .i64 x.mode, .int .i64 x.tick, .int .i64 (x.data.length : Int), .int .i64 (if x.dir then 1 else (T.links i : Int))]
def statR (T : Abs.T) : Except Nat Nat → Value
  | .ok j => .tuple #[statV T j, .int .i64 0]
  | .error e => .tuple #[.agg #[.int .i64 0, .bool false, .int .i64 0, .int .i64 0, .int .i64 0, .int .i64 0], .int .i64 (e : Int)]

set_option maxRecDepth 100000 in
set_option maxHeartbeats 2000000 in
theorem stat_any (w : World) (t : Nat) (S : TS) (T : Abs.T) (β : Nat → Nat) (h : TreeIs w t S T β) (cwd path : ByteArray) (hc : cwd.size < 1073741824) (hp : path.size < 1073741824) :
    Calls Tryz.prog 72 #[.pointer (some ⟨t, 0, none⟩), .string cwd, .string path] w fun e w' => e = .returned (statR T (T.look cwd.data.toList path.data.toList)) ∧ Below w.heap.size w w' := by
  have hl := fun w2 (hb : Below w.heap.size w w2) => look_any w2 t S T β (h.below hb) cwd path hc hp
  obtain ⟨r, hr⟩ : ∃ r, T.look cwd.data.toList path.data.toList = r := ⟨_, rfl⟩
  rw [hr] at hl ⊢
  have hA := fun o => (Below.refl w.heap.size w).alloc (Nat.le_refl _) o
  cases r with
  | error e =>
    have he := Abs.T.look_ne0 hr
    have he1 : ((e : Int) != 0) = true := by simpa using he
    clear hr he
    unfold leadsV at hl
    unfold statR
    go_enter Tryz.func72, Tryz.ntmps72
    go_wp2_with (go_at_call 87; refine (hl _ (hA _)).mono ?_; rintro e w' ⟨rfl, hb⟩; obtain ⟨bR, r0, r1, r2, r3, r4, r5, s0, s1, s2, s3, s4, s5, lR⟩ := blk6 (Boxed6 hb))
    obtain ⟨_, x0, x1, x2, x3, x4, x5, _⟩ := blk6 (set6 bR (.int .i64 0) (.bool false) (.int .i64 0) (.int .i64 0) (.int .i64 0) (.int .i64 0))
    refine bodyPost_ret (v := .tuple #[.agg #[.int .i64 0, .bool false, .int .i64 0, .int .i64 0, .int .i64 0, .int .i64 0], .int .i64 (e : Int)]) (by simp [results, Tryz.results72, go_sem, x0, x1, x2, x3, x4, x5]) rfl ?_
    exact ⟨rfl, below6 ((hA _).trans (hb.mono (by simp))) (Nat.le_refl _) _ _ _ _ _ _⟩
  | ok i =>
    obtain ⟨x, hx⟩ := h.wf.look_live hr
    obtain ⟨y, hy, by0, hin, hmo, hti, hyd, hda, _, hli, _⟩ := h.at_ hx
    unfold leadsV ptrV at hl
    have k0 : w.cell? ⟨β i, 0, none⟩ = some (.int .i64 (i : Int)) := by rw [by0.cell 0, ← hin]; rfl
    have k1 : w.cell? ⟨β i, 1, none⟩ = some (.int .i64 x.mode) := by rw [by0.cell 1, ← hmo]; rfl
    have k2 : w.cell? ⟨β i, 2, none⟩ = some (.int .i64 x.tick) := by rw [by0.cell 2, ← hti]; rfl
    have k3 : w.cell? ⟨β i, 3, none⟩ = some (.bool x.dir) := by rw [by0.cell 3, ← hyd]; rfl
    have k7 : w.cell? ⟨β i, 7, none⟩ = some (.int .i64 (T.links i : Int)) := by rw [by0.cell 7, ← hli]; rfl
    obtain ⟨A, cp, hdv, _, _⟩ := (h.mem.item _ _ hy).2.1.form
    have k4 : w.cell? ⟨β i, 4, none⟩ = some (.slice A x.data.length cp) := by rw [by0.cell 4, ← hda, ← hdv]; rfl
    have lb := by0.lt
    have hsv : statV T i = .agg #[.int .i64 (i : Int), .bool x.dir, .int .i64 x.mode, .int .i64 x.tick, .int .i64 (x.data.length : Int), .int .i64 (if x.dir then 1 else (T.links i : Int))] := by simp [statV, hx]
    unfold statR
    simp only [hsv]
    obtain ⟨nl, hnl⟩ : ∃ nl, T.links i = nl := ⟨_, rfl⟩
    rw [hnl] at k7 ⊢
    clear hr hx hy by0 hin hmo hti hyd hda hli hdv hsv hnl
    cases hd : x.dir with
    | true =>
      rw [hd] at k3
      go_enter Tryz.func72, Tryz.ntmps72
      go_wp2_with (go_at_call 87; refine (hl _ (hA _)).mono ?_; rintro e w' ⟨rfl, hb⟩; obtain ⟨bR, r0, r1, r2, r3, r4, r5, s0, s1, s2, s3, s4, s5, lR⟩ := blk6 (Boxed6 hb))
      have lb' : β i < w'.heap.size := Nat.lt_of_lt_of_le lb (Nat.le_trans (by simp) hb.size)
      have q0 := (show w'.cell? ⟨β i, 0, none⟩ = _ from ((hb.cell (p := ⟨β i, 0, none⟩) (by simp; omega)).trans (World.cell?_alloc_lt w _ ⟨β i, 0, none⟩ lb)).trans k0)
      have q1 := (show w'.cell? ⟨β i, 1, none⟩ = _ from ((hb.cell (p := ⟨β i, 1, none⟩) (by simp; omega)).trans (World.cell?_alloc_lt w _ ⟨β i, 1, none⟩ lb)).trans k1)
      have q2 := (show w'.cell? ⟨β i, 2, none⟩ = _ from ((hb.cell (p := ⟨β i, 2, none⟩) (by simp; omega)).trans (World.cell?_alloc_lt w _ ⟨β i, 2, none⟩ lb)).trans k2)
      have q3 := (show w'.cell? ⟨β i, 3, none⟩ = _ from ((hb.cell (p := ⟨β i, 3, none⟩) (by simp; omega)).trans (World.cell?_alloc_lt w _ ⟨β i, 3, none⟩ lb)).trans k3)
      have q4 := (show w'.cell? ⟨β i, 4, none⟩ = _ from ((hb.cell (p := ⟨β i, 4, none⟩) (by simp; omega)).trans (World.cell?_alloc_lt w _ ⟨β i, 4, none⟩ lb)).trans k4)
      have q7 := (show w'.cell? ⟨β i, 7, none⟩ = _ from ((hb.cell (p := ⟨β i, 7, none⟩) (by simp; omega)).trans (World.cell?_alloc_lt w _ ⟨β i, 7, none⟩ lb)).trans k7)
      have bR' : Blk w'.drew w.heap.size 149 _ := bR
      clear r0 r1 r2 r3 r4 r5 s0 s1 s2 s3 s4 s5
      go_region_held3 (fun W => W.cell? ⟨β i, 0, none⟩ = some (.int .i64 (i : Int)) ∧ W.cell? ⟨β i, 1, none⟩ = some (.int .i64 x.mode) ∧ W.cell? ⟨β i, 2, none⟩ = some (.int .i64 x.tick) ∧ W.cell? ⟨β i, 3, none⟩ = some (.bool true) ∧ W.cell? ⟨β i, 4, none⟩ = some (.slice A x.data.length cp)) (first | go_keep | (go_split_ands; refine ⟨?_, ?_, ?_, ?_, ?_⟩ <;> first | assumption | (rw [World.cell?_drew]; rw [World.cell?_alloc_lt _ _ _ (by first | exact lb' | (simp; exact lb'))]; assumption) | (rw [World.cell?_alloc_lt _ _ _ (by first | exact lb' | (simp; exact lb'))]; assumption))) (fail)
      all_goals
        go_wp2_with (first
          | (refine wpList_store_blk rfl 149 (.tmp 6) (.tmp 54) rfl w.heap.size 149 #[.int .i64 0, .bool false, .int .i64 0, .int .i64 0, .int .i64 0, .int .i64 0] #[.int .i64 (i : Int), .bool true, .int .i64 x.mode, .int .i64 x.tick, .int .i64 (x.data.length : Int), .int .i64 1] rfl rfl (show Blk _ _ _ _ from bR.alloc _) rfl (by kernel_rfl) (by kernel_rfl) ?_; intro w9 b9 g9)
          | (refine wpList_load_row rfl 149 (.tmp 10) rfl w'.heap.size rfl 149 #[.int .i64 (i : Int), .bool true, .int .i64 x.mode, .int .i64 x.tick, .int .i64 (x.data.length : Int), .int .i64 1] (0, 0) _ (World.alloc_heap_new w' _) Tryz.underlying149 rfl (by kernel_rfl) ?_))
        obtain ⟨_, x0, x1, x2, x3, x4, x5, _⟩ := blk6 b9
        refine bodyPost_ret (v := .tuple #[.agg #[.int .i64 (i : Int), .bool true, .int .i64 x.mode, .int .i64 x.tick, .int .i64 (x.data.length : Int), .int .i64 1], .int .i64 0]) (by simp [results, Tryz.results72, go_sem, x0, x1, x2, x3, x4, x5]) rfl ?_
        exact ⟨rfl, (below_drewN' ((((hA _).trans (hb.mono (by simp)))).alloc (by omega) _)).grown g9 (by simp; omega) (fun k e => by cases e; exact Nat.le_refl _)⟩
    | false =>
      rw [hd] at k3
      go_enter Tryz.func72, Tryz.ntmps72
      go_wp2_with (go_at_call 87; refine (hl _ (hA _)).mono ?_; rintro e w' ⟨rfl, hb⟩; obtain ⟨bR, r0, r1, r2, r3, r4, r5, s0, s1, s2, s3, s4, s5, lR⟩ := blk6 (Boxed6 hb))
      have lb' : β i < w'.heap.size := Nat.lt_of_lt_of_le lb (Nat.le_trans (by simp) hb.size)
      have q0 := (show w'.cell? ⟨β i, 0, none⟩ = _ from ((hb.cell (p := ⟨β i, 0, none⟩) (by simp; omega)).trans (World.cell?_alloc_lt w _ ⟨β i, 0, none⟩ lb)).trans k0)
      have q1 := (show w'.cell? ⟨β i, 1, none⟩ = _ from ((hb.cell (p := ⟨β i, 1, none⟩) (by simp; omega)).trans (World.cell?_alloc_lt w _ ⟨β i, 1, none⟩ lb)).trans k1)
      have q2 := (show w'.cell? ⟨β i, 2, none⟩ = _ from ((hb.cell (p := ⟨β i, 2, none⟩) (by simp; omega)).trans (World.cell?_alloc_lt w _ ⟨β i, 2, none⟩ lb)).trans k2)
      have q3 := (show w'.cell? ⟨β i, 3, none⟩ = _ from ((hb.cell (p := ⟨β i, 3, none⟩) (by simp; omega)).trans (World.cell?_alloc_lt w _ ⟨β i, 3, none⟩ lb)).trans k3)
      have q4 := (show w'.cell? ⟨β i, 4, none⟩ = _ from ((hb.cell (p := ⟨β i, 4, none⟩) (by simp; omega)).trans (World.cell?_alloc_lt w _ ⟨β i, 4, none⟩ lb)).trans k4)
      have q7 := (show w'.cell? ⟨β i, 7, none⟩ = _ from ((hb.cell (p := ⟨β i, 7, none⟩) (by simp; omega)).trans (World.cell?_alloc_lt w _ ⟨β i, 7, none⟩ lb)).trans k7)
      have bR' : Blk w'.drew w.heap.size 149 _ := bR
      clear r0 r1 r2 r3 r4 r5 s0 s1 s2 s3 s4 s5
      go_region_held3 (fun W => W.cell? ⟨β i, 0, none⟩ = some (.int .i64 (i : Int)) ∧ W.cell? ⟨β i, 1, none⟩ = some (.int .i64 x.mode) ∧ W.cell? ⟨β i, 2, none⟩ = some (.int .i64 x.tick) ∧ W.cell? ⟨β i, 3, none⟩ = some (.bool false) ∧ W.cell? ⟨β i, 4, none⟩ = some (.slice A x.data.length cp)) (first | go_keep | (go_split_ands; refine ⟨?_, ?_, ?_, ?_, ?_⟩ <;> first | assumption | (rw [World.cell?_drew]; rw [World.cell?_alloc_lt _ _ _ (by first | exact lb' | (simp; exact lb'))]; assumption) | (rw [World.cell?_alloc_lt _ _ _ (by first | exact lb' | (simp; exact lb'))]; assumption))) (fail)
      all_goals
        go_wp2_with (first
          | (refine wpList_store_blk rfl 149 (.tmp 6) (.tmp 54) rfl w.heap.size 149 #[.int .i64 0, .bool false, .int .i64 0, .int .i64 0, .int .i64 0, .int .i64 0] #[.int .i64 (i : Int), .bool false, .int .i64 x.mode, .int .i64 x.tick, .int .i64 (x.data.length : Int), .int .i64 (nl : Int)] rfl rfl (show Blk _ _ _ _ from bR.alloc _) rfl (by kernel_rfl) (by kernel_rfl) ?_; intro w9 b9 g9)
          | (refine wpList_load_row rfl 149 (.tmp 10) rfl w'.heap.size rfl 149 #[.int .i64 (i : Int), .bool false, .int .i64 x.mode, .int .i64 x.tick, .int .i64 (x.data.length : Int), .int .i64 (nl : Int)] (0, 0) _ (World.alloc_heap_new w' _) Tryz.underlying149 rfl (by kernel_rfl) ?_))
        obtain ⟨_, x0, x1, x2, x3, x4, x5, _⟩ := blk6 b9
        refine bodyPost_ret (v := .tuple #[.agg #[.int .i64 (i : Int), .bool false, .int .i64 x.mode, .int .i64 x.tick, .int .i64 (x.data.length : Int), .int .i64 (nl : Int)], .int .i64 0]) (by simp [results, Tryz.results72, go_sem, x0, x1, x2, x3, x4, x5]) rfl ?_
        exact ⟨rfl, (below_drewN' ((((hA _).trans (hb.mono (by simp)))).alloc (by omega) _)).grown g9 (by simp; omega) (fun k e => by cases e; exact Nat.le_refl _)⟩

end Go.Proofs.YtlncmknikjloeaaGreatDoor
end
