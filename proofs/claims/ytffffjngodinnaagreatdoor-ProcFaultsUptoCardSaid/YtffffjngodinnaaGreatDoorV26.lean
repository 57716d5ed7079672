/-
  Parts of the proof: Plain facts on a tree with one entry more. No program in this text; Plain facts on a tree in which a file has one name more. No program in this text; Plain facts on a tree one of whose entries has turned, but for names and place. No program in this text; Zeros appended to a row, and bytes copied into one. Of no program.
-/
import Derived.Test.YtffffjngodinnaaGreatDoorV12
import Derived.Test.YtffffjngodinnaaGreatDoorV03
import Derived.Lib.AppendZerosOnto
import Derived.Laws.CopyRow
import Derived.Laws.Tables

section
namespace Go.Proofs.YtffffjngodinnaaGreatDoor.Abs

theorem nlt_irrefl : ∀ a : Name, nlt a a = false
  | [] => rfl
  | a :: l => by
    unfold nlt
    rw [if_neg (UInt8.lt_irrefl a), if_neg (UInt8.lt_irrefl a)]
    exact nlt_irrefl l
theorem nlt_trans : ∀ {a b c : Name}, nlt a b = true → nlt b c = true → nlt a c = true
  | [], [], _, h, _ => by cases h
  | [], _ :: _, [], _, h => by cases h
  | [], _ :: _, _ :: _, _, _ => rfl
  | _ :: _, [], _, h, _ => by cases h
  | _ :: _, _ :: _, [], _, h => by cases h
  | a :: l, b :: m, c :: k, h, h' => by
    unfold nlt at h h' ⊢
    by_cases hab : a < b
    · by_cases hbc : b < c
      · rw [if_pos (UInt8.lt_trans hab hbc)]
      · rw [if_neg hbc] at h'
        split at h'
        · cases h'
        · have : b = c := UInt8.le_antisymm (UInt8.not_lt.1 (by assumption)) (UInt8.not_lt.1 hbc)
          subst this
          rw [if_pos hab]
    · rw [if_neg hab] at h
      split at h
      · cases h
      · have : a = b := UInt8.le_antisymm (UInt8.not_lt.1 (by assumption)) (UInt8.not_lt.1 hab)
        subst this
        by_cases hbc : a < c
        · rw [if_pos hbc]
        · rw [if_neg hbc] at h' ⊢
          split at h'
          · cases h'
          · rename_i hn
            rw [if_neg hn]
            exact nlt_trans h h'
theorem nlt_total : ∀ {a b : Name}, a ≠ b → nlt a b = false → nlt b a = true
  | [], [], h, _ => absurd rfl h
  | [], _ :: _, _, h => by cases h
  | _ :: _, [], _, _ => rfl
  | a :: l, b :: m, h, h' => by
    unfold nlt at h' ⊢
    by_cases hab : a < b
    · rw [if_pos hab] at h'; cases h'
    · rw [if_neg hab] at h'
      by_cases hba : b < a
      · rw [if_pos hba]
      · rw [if_neg hba] at h' ⊢
        rw [if_neg hab]
        have : a = b := UInt8.le_antisymm (UInt8.not_lt.1 hba) (UInt8.not_lt.1 hab)
        subst this
        exact nlt_total (fun e => h (by rw [e])) h'
theorem lk_of_mem {l : List (Name × Nat)} {n : Name} {j : Nat} (hs : l.Pairwise (fun a b => nlt a.1 b.1 = true)) (h : (n, j) ∈ l) : lk l n = some j := by
  induction l with
  | nil => cases h
  | cons p l ih =>
    obtain ⟨m, i⟩ := p
    rw [List.pairwise_cons] at hs
    unfold lk
    rcases List.mem_cons.1 h with e | h
    · injection e with e1 e2; subst e1; subst e2; rw [if_pos rfl]
    · have := hs.1 _ h
      rw [if_neg (by rintro rfl; rw [nlt_irrefl] at this; cases this)]
      exact ih hs.2 h
theorem lk_mem {l : List (Name × Nat)} {n : Name} {j : Nat} (h : lk l n = some j) : (n, j) ∈ l := by
  induction l with
  | nil => cases h
  | cons p l ih =>
    obtain ⟨m, i⟩ := p
    unfold lk at h
    split at h
    · rename_i e; subst e; cases h; simp
    · exact List.mem_cons_of_mem _ (ih h)
theorem ins_mem {l : List (Name × Nat)} {n : Name} {j : Nat} {p : Name × Nat} (h : p ∈ ins n j l) : p = (n, j) ∨ p ∈ l := by
  induction l with
  | nil => simp [ins] at h; exact .inl h
  | cons q l ih =>
    unfold ins at h
    split at h
    · rcases List.mem_cons.1 h with h | h
      · exact .inl h
      · exact .inr h
    · rcases List.mem_cons.1 h with h | h
      · exact .inr (by rw [h]; simp)
      · exact (ih h).imp id (List.mem_cons_of_mem _)
theorem ins_sorted {l : List (Name × Nat)} {n : Name} (j : Nat) (hs : l.Pairwise (fun a b => nlt a.1 b.1 = true)) (h : lk l n = none) : (ins n j l).Pairwise (fun a b => nlt a.1 b.1 = true) := by
  induction l with
  | nil => simp [ins]
  | cons q l ih =>
    obtain ⟨m, i⟩ := q
    rw [List.pairwise_cons] at hs
    unfold lk at h
    split at h
    · cases h
    · rename_i hne
      unfold ins
      split
      · rename_i hlt
        refine List.pairwise_cons.2 ⟨fun p hp => ?_, List.pairwise_cons.2 hs⟩
        rcases List.mem_cons.1 hp with rfl | hp
        · exact hlt
        · exact nlt_trans hlt (hs.1 p hp)
      · rename_i hlt
        refine List.pairwise_cons.2 ⟨fun p hp => ?_, ih hs.2 h⟩
        rcases ins_mem hp with rfl | hp
        · exact nlt_total hne (by simpa using hlt)
        · exact hs.1 p hp
theorem lk_ins {l : List (Name × Nat)} {n m : Name} {j : Nat} (h : lk l n = none) : lk (ins n j l) m = if m = n then some j else lk l m := by
  induction l with
  | nil => simp [ins, lk]
  | cons p l ih =>
    obtain ⟨q, i⟩ := p
    unfold lk at h
    split at h
    · cases h
    · rename_i hq
      unfold ins
      split
      · rfl
      · show (if m = q then some i else lk (ins n j l) m) = if m = n then some j else if m = q then some i else lk l m
        rw [ih h]
        by_cases h1 : m = q
        · subst h1
          rw [if_pos rfl, if_pos rfl, if_neg (fun e => hq e.symm)]
        · rw [if_neg h1, if_neg h1]
theorem ins_length (n : Name) (j : Nat) (l : List (Name × Nat)) : (ins n j l).length = l.length + 1 := by
  induction l with
  | nil => rfl
  | cons p l ih => unfold ins; split <;> simp [ih]
theorem ins_count (n : Name) (j k : Nat) (l : List (Name × Nat)) : (ins n j l).countP (fun q => q.2 == k) = l.countP (fun q => q.2 == k) + if j = k then 1 else 0 := by
  induction l with
  | nil => simp [ins, List.countP_cons]
  | cons p l ih =>
    unfold ins
    split
    · rw [List.countP_cons]
      by_cases h : j = k <;> simp [h]
    · rw [List.countP_cons, ih, List.countP_cons]
      simp only
      omega
theorem geti_seti {l : List (Nat × Ent)} {i j : Nat} {f : Ent → Ent} : geti (seti l i f) j = if j = i then (geti l j).map f else geti l j := by
  induction l with
  | nil => simp [seti, geti]
  | cons p l ih =>
    obtain ⟨k, x⟩ := p
    unfold seti at ih ⊢
    rw [List.map_cons]
    by_cases hk : k = i
    · subst hk
      rw [if_pos rfl]
      show (if j = k then some (f x) else geti _ j) = if j = k then (if j = k then some x else geti l j).map f else if j = k then some x else geti l j
      by_cases hj : j = k
      · simp [hj]
      · simp only [if_neg hj, ih]
    · rw [if_neg hk]
      show (if j = k then some x else geti _ j) = if j = i then (if j = k then some x else geti l j).map f else if j = k then some x else geti l j
      by_cases hj : j = k
      · subst hj; simp [hk]
      · simp only [if_neg hj, ih]
theorem geti_append {l m : List (Nat × Ent)} {j : Nat} : geti (l ++ m) j = match geti l j with | some x => some x | none => geti m j := by
  induction l with
  | nil => simp [geti]
  | cons p l ih =>
    obtain ⟨k, x⟩ := p
    rw [List.cons_append]
    show (if j = k then some x else geti (l ++ m) j) = match (if j = k then some x else geti l j) with | some x => some x | none => geti m j
    by_cases hj : j = k
    · rw [if_pos hj, if_pos hj]
    · rw [if_neg hj, if_neg hj]; exact ih
theorem geti_mem {l : List (Nat × Ent)} {j : Nat} {x : Ent} (h : geti l j = some x) : (j, x) ∈ l := by
  induction l with
  | nil => cases h
  | cons p l ih =>
    obtain ⟨k, y⟩ := p
    unfold geti at h
    split at h
    · rename_i e; subst e; cases h; simp
    · exact List.mem_cons_of_mem _ (ih h)
theorem geti_of_mem {l : List (Nat × Ent)} {j : Nat} {x : Ent} (hn : (l.map (·.1)).Nodup) (h : (j, x) ∈ l) : geti l j = some x := by
  induction l with
  | nil => cases h
  | cons p l ih =>
    obtain ⟨k, y⟩ := p
    rw [List.map_cons, List.nodup_cons] at hn
    unfold geti
    rcases List.mem_cons.1 h with e | h2
    · injection e with e1 e2; subst e1; subst e2; rw [if_pos rfl]
    · rw [if_neg (fun e => hn.1 (by subst e; exact List.mem_map.2 ⟨_, h2, rfl⟩))]
      exact ih hn.2 h2
theorem seti_keys (l : List (Nat × Ent)) (i : Nat) (f : Ent → Ent) : (seti l i f).map (·.1) = l.map (·.1) := by
  unfold seti
  rw [List.map_map]
  refine List.map_congr_left fun p _ => ?_
  simp only [Function.comp]
  split <;> rfl
/-- a sum over all entries when one of them turns -/
theorem sum_seti {l : List (Nat × Ent)} {i : Nat} {f : Ent → Ent} {g : Ent → Nat} {x : Ent} {c : Nat} (hn : (l.map (·.1)).Nodup) (hx : geti l i = some x) (hg : g (f x) = g x + c) : ((seti l i f).map fun p => g p.2).sum = (l.map fun p => g p.2).sum + c := by
  induction l with
  | nil => cases hx
  | cons p l ih =>
    obtain ⟨k, y⟩ := p
    rw [List.map_cons, List.nodup_cons] at hn
    unfold geti at hx
    unfold seti at ih ⊢
    rw [List.map_cons, List.map_cons, List.map_cons, List.sum_cons, List.sum_cons]
    by_cases hk : i = k
    · subst hk
      rw [if_pos rfl] at hx
      injection hx with hx; subst hx
      have hrest : (l.map fun p => if p.1 = i then (p.1, f p.2) else p) = l := by
        refine (List.map_congr_left fun q hq => ?_).trans (List.map_id l)
        rw [if_neg (fun e => hn.1 (by rw [← e]; exact List.mem_map.2 ⟨q, hq, rfl⟩))]; rfl
      rw [if_pos rfl, hrest]
      simp only [hg]; omega
    · rw [if_neg hk] at hx
      rw [if_neg (fun e => hk e.symm), ih hn.2 hx]; omega

/-- the tree with a new file or directory n in the directory d -/
def T.made (t : T) (d : Nat) (n : Name) (x : Ent) : T := { ents := seti t.ents d (fun y => { y with names := ins n t.next y.names }) ++ [(t.next, x)], next := t.next + 1 }
section
variable {t : T} {d i : Nat} {n : Name} {x y z : Ent}
theorem T.WF.next_none (h : t.WF) : t.get t.next = none := by
  cases hg : t.get t.next with
  | none => rfl
  | some x => have := (h.lt _ _ hg).2; omega
theorem T.WF.made_get (h : t.WF) (hy : t.get d = some y) : (t.made d n x).get i = if i = t.next then some x else if i = d then some { y with names := ins n t.next y.names } else t.get i := by
  have hd := (h.lt d y hy).2
  unfold T.made T.get
  rw [geti_append, geti_seti]
  by_cases hi : i = t.next
  · subst hi
    rw [if_neg (by omega), show geti t.ents t.next = none from h.next_none]
    simp [geti]
  · rw [if_neg hi]
    by_cases hid : i = d
    · subst hid
      rw [if_pos rfl, if_pos rfl, show geti t.ents i = some y from hy]; rfl
    · rw [if_neg hid, if_neg hid]
      cases geti t.ents i with
      | none => simp [geti, hi]
      | some z => rfl
theorem T.WF.links_none (h : t.WF) (hn : t.get i = none) : t.links i = 0 := by
  unfold T.links
  have key : ∀ l : List (Nat × Ent), (∀ p ∈ l, p ∈ t.ents) → (l.map fun p => p.2.names.countP fun q => q.2 == i).sum = 0 := by
    intro l
    induction l with
    | nil => intro _; rfl
    | cons p l ih =>
      intro hl
      rw [List.map_cons, List.sum_cons, ih (fun q hq => hl q (List.mem_cons_of_mem _ hq)), Nat.add_zero, List.countP_eq_zero]
      rintro ⟨nm, j⟩ hq he
      have hj : j = i := by simpa using he
      subst hj
      have hx : t.get p.1 = some p.2 := geti_of_mem h.nodup (hl p (by simp))
      obtain ⟨y, hy⟩ := (h.live _ _ _ _ hx (lk_of_mem (h.sorted _ _ hx) hq)).2
      rw [hn] at hy; cases hy
  exact key _ (fun _ hp => hp)
theorem T.WF.made_links (h : t.WF) (hy : t.get d = some y) (hx : x.names = []) : (t.made d n x).links i = t.links i + if i = t.next then 1 else 0 := by
  have hs := sum_seti (g := fun y => y.names.countP fun q => q.2 == i) (f := fun y => { y with names := ins n t.next y.names }) (c := if t.next = i then 1 else 0) h.nodup hy (ins_count n t.next i y.names)
  unfold T.links T.made
  rw [List.map_append, List.sum_append, hs]
  simp only [List.map_cons, List.map_nil, List.sum_cons, List.sum_nil, hx, List.countP_nil, Nat.add_zero]
  by_cases e : i = t.next
  · rw [if_pos e, if_pos e.symm]
  · rw [if_neg e, if_neg (fun e' => e e'.symm)]
theorem T.WF.made_many (h : t.WF) (hy : t.get d = some y) (hx : x.names = []) : (t.made d n x).many = t.many + 1 := by
  have hs := sum_seti (g := fun y => y.names.length) (f := fun y => { y with names := ins n t.next y.names }) (c := 1) h.nodup hy (ins_length n t.next y.names)
  unfold T.many T.made
  rw [List.map_append, List.sum_append, hs]
  simp [hx]
theorem T.WF.depth_dp (h : t.WF) {dp : Nat → Nat} (h1 : dp 1 = 0) (hdp : ∀ i x, t.get i = some x → x.dir = true → i ≠ 1 → dp i = dp x.up + 1 ∧ dp i ≤ 10) (hy : t.get d = some y) (hd : y.dir = true) : t.depth d = dp d := by
  have key : ∀ n i, (∃ x, t.get i = some x ∧ x.dir = true) → dp i < n → t.depthN n i = dp i := by
    intro n
    induction n with
    | zero => intro i _ h; omega
    | succ n ih =>
      rintro i ⟨x, hx, hd⟩ hlt
      unfold T.depthN
      by_cases hi : i = 1
      · subst hi; rw [if_pos rfl, h1]
      · rw [if_neg hi, hx]
        have h2 := (hdp i x hx hd hi).1
        simp only
        rw [ih x.up (h.up i x hx hd) (by omega), h2]
        omega
  refine key 11 d ⟨y, hy, hd⟩ ?_
  by_cases e : d = 1
  · subst e; omega
  · have := (hdp d y hy hd e).2; omega

theorem T.WF.made_wf (h : t.WF) (hy : t.get d = some y) (hd : y.dir = true) (hn : lk y.names n = none) (hx : x.names = []) (hxu : x.dir = true → x.up = d) (hdep : t.depth d < 10) : (t.made d n x).WF := by
  have hdl := (h.lt d y hy).2
  have hd0 := (h.lt d y hy).1
  have hg := fun i => h.made_get (n := n) (x := x) (i := i) hy
  have hold : ∀ {i z}, t.get i = some z → i ≠ t.next := fun {i z} hz => by have := (h.lt i z hz).2; omega
  -- an old number has what it had, but for the directory's names
  have hnew : ∀ {i z}, t.get i = some z → ∃ z', (t.made d n x).get i = some z' ∧ z'.dir = z.dir ∧ z'.up = z.up := by
    intro i z hz
    rw [hg, if_neg (hold hz)]
    by_cases e : i = d
    · subst e
      rw [hy] at hz; cases hz
      exact ⟨_, if_pos rfl, rfl, rfl⟩
    · exact ⟨z, by rw [if_neg e]; exact hz, rfl, rfl⟩
  have hback : ∀ {i z'}, (t.made d n x).get i = some z' → (i = t.next ∧ z' = x) ∨ (i ≠ t.next ∧ i = d ∧ z' = { y with names := ins n t.next y.names }) ∨ (i ≠ t.next ∧ i ≠ d ∧ t.get i = some z') := by
    intro i z' hz
    rw [hg] at hz
    by_cases e1 : i = t.next
    · rw [if_pos e1] at hz; cases hz; exact .inl ⟨e1, rfl⟩
    · rw [if_neg e1] at hz
      by_cases e2 : i = d
      · rw [if_pos e2] at hz; cases hz; exact .inr (.inl ⟨e1, e2, rfl⟩)
      · rw [if_neg e2] at hz; exact .inr (.inr ⟨e1, e2, hz⟩)
  obtain ⟨xr, hxr, hxrd, hxru⟩ := h.root
  have hne1 : t.next ≠ 1 := fun e => by have := (h.lt 1 xr hxr).2; omega
  refine ⟨?_, ?_, ?_, ?_, ?_, ?_, ?_, ?_⟩
  · show (List.map _ (_ ++ _)).Nodup
    rw [List.map_append, seti_keys, List.nodup_append]
    refine ⟨h.nodup, by simp, ?_⟩
    rintro a ha b hb rfl
    obtain ⟨p, hp, rfl⟩ := List.mem_map.1 ha
    have := (h.lt _ _ (geti_of_mem h.nodup hp)).2
    simp at hb; omega
  · obtain ⟨z', hz', e1, e2⟩ := hnew hxr
    exact ⟨z', hz', e1.trans hxrd, e2.trans hxru⟩
  · intro i z' hz
    show 0 < i ∧ i < t.next + 1
    rcases hback hz with ⟨e, _⟩ | ⟨_, e, _⟩ | ⟨_, _, hz⟩
    · have := (h.lt 1 xr hxr).2; omega
    · omega
    · have := h.lt i z' hz; omega
  · intro i z' m j hz hl
    rcases hback hz with ⟨_, e⟩ | ⟨_, _, e⟩ | ⟨_, _, hz⟩
    · subst e; rw [hx] at hl; cases hl
    · subst e
      simp only at hl
      rw [lk_ins hn] at hl
      split at hl
      · injection hl with hl; subst hl
        exact ⟨hne1, x, by rw [hg, if_pos rfl]⟩
      · obtain ⟨h1, z, hz⟩ := h.live _ _ _ _ hy hl
        obtain ⟨z2, hz2, _⟩ := hnew hz
        exact ⟨h1, z2, hz2⟩
    · obtain ⟨h1, z, hz⟩ := h.live _ _ _ _ hz hl
      obtain ⟨z2, hz2, _⟩ := hnew hz
      exact ⟨h1, z2, hz2⟩
  · intro i z' hz hf
    rcases hback hz with ⟨_, e⟩ | ⟨_, _, e⟩ | ⟨_, _, hz⟩
    · subst e; exact hx
    · subst e; simp only at hf; rw [hd] at hf; cases hf
    · exact h.file _ _ hz hf
  · intro i z' hz
    rcases hback hz with ⟨_, e⟩ | ⟨_, _, e⟩ | ⟨_, _, hz⟩
    · subst e; rw [hx]; exact List.Pairwise.nil
    · subst e; exact ins_sorted _ (h.sorted _ _ hy) hn
    · exact h.sorted _ _ hz
  · intro i z' hz hzd
    have hup : ∀ {k z}, t.get k = some z → z.dir = true → ∃ y', (t.made d n x).get k = some y' ∧ y'.dir = true := fun {k z} hz hzd => by
      obtain ⟨z2, hz2, e, _⟩ := hnew hz
      exact ⟨z2, hz2, e.trans hzd⟩
    rcases hback hz with ⟨_, e⟩ | ⟨_, _, e⟩ | ⟨_, _, hz⟩
    · subst e; rw [hxu hzd]; exact hup hy hd
    · subst e
      obtain ⟨z2, hz2, hd2⟩ := h.up _ _ hy hd
      exact hup hz2 hd2
    · obtain ⟨z2, hz2, hd2⟩ := h.up _ _ hz hzd
      exact hup hz2 hd2
  · obtain ⟨dp, h1, hdp⟩ := h.rank
    have hdd := h.depth_dp h1 hdp hy hd
    refine ⟨fun i => if i = t.next then dp d + 1 else dp i, by simp only; rw [if_neg (Ne.symm hne1)]; exact h1, ?_⟩
    intro i z' hz hzd hi1
    rcases hback hz with ⟨e0, e⟩ | ⟨e0, e1, e⟩ | ⟨e0, _, hz⟩
    · subst e
      simp only [if_pos e0]
      rw [hxu hzd, if_neg (by omega)]
      omega
    · subst e
      obtain ⟨z2, hz2, _⟩ := h.up _ _ hy hd
      have := (h.lt _ _ hz2).2
      simp only [if_neg e0]
      rw [if_neg (by omega)]
      subst e1
      exact hdp i y hy hd hi1
    · obtain ⟨z2, hz2, _⟩ := h.up _ _ hz hzd
      have := (h.lt _ _ hz2).2
      simp only [if_neg e0]
      rw [if_neg (by omega)]
      exact hdp i z' hz hzd hi1
end

end Go.Proofs.YtffffjngodinnaaGreatDoor.Abs
end

section
namespace Go.Proofs.YtffffjngodinnaaGreatDoor.Abs

/-- the tree with a name n more, in the directory d, for the file j -/
def T.linked (t : T) (d : Nat) (n : Name) (j : Nat) : T := { ents := seti t.ents d (fun y => { y with names := ins n j y.names }), next := t.next }
section
variable {t : T} {d i j : Nat} {n : Name} {y z : Ent}
theorem T.linked_get (hy : t.get d = some y) : (t.linked d n j).get i = if i = d then some { y with names := ins n j y.names } else t.get i := by
  unfold T.linked T.get
  rw [geti_seti]
  by_cases hid : i = d
  · subst hid
    rw [if_pos rfl, if_pos rfl, show geti t.ents i = some y from hy]; rfl
  · rw [if_neg hid, if_neg hid]
theorem T.WF.linked_links (h : t.WF) (hy : t.get d = some y) : (t.linked d n j).links i = t.links i + if i = j then 1 else 0 := by
  have hs := sum_seti (g := fun y => y.names.countP fun q => q.2 == i) (f := fun y => { y with names := ins n j y.names }) (c := if j = i then 1 else 0) h.nodup hy (ins_count n j i y.names)
  unfold T.links T.linked
  rw [hs]
  by_cases e : i = j
  · rw [if_pos e, if_pos e.symm]
  · rw [if_neg e, if_neg (fun e' => e e'.symm)]
theorem T.WF.linked_many (h : t.WF) (hy : t.get d = some y) : (t.linked d n j).many = t.many + 1 := by
  have hs := sum_seti (g := fun y => y.names.length) (f := fun y => { y with names := ins n j y.names }) (c := 1) h.nodup hy (ins_length n j y.names)
  unfold T.many T.linked
  rw [hs]
theorem T.WF.linked_wf (h : t.WF) (hy : t.get d = some y) (hd : y.dir = true) (hn : lk y.names n = none) (hj : t.get j = some z) (hz : z.dir = false) : (t.linked d n j).WF := by
  have hg := fun i => T.linked_get (t := t) (i := i) (n := n) (j := j) hy
  have hnew : ∀ {i z}, t.get i = some z → ∃ z', (t.linked d n j).get i = some z' ∧ z'.dir = z.dir ∧ z'.up = z.up := by
    intro i z hz
    rw [hg]
    by_cases e : i = d
    · subst e
      rw [hy] at hz; cases hz
      exact ⟨_, if_pos rfl, rfl, rfl⟩
    · exact ⟨z, by rw [if_neg e]; exact hz, rfl, rfl⟩
  have hback : ∀ {i z'}, (t.linked d n j).get i = some z' → (i = d ∧ z' = { y with names := ins n j y.names }) ∨ (i ≠ d ∧ t.get i = some z') := by
    intro i z' hz
    rw [hg] at hz
    by_cases e2 : i = d
    · rw [if_pos e2] at hz; cases hz; exact .inl ⟨e2, rfl⟩
    · rw [if_neg e2] at hz; exact .inr ⟨e2, hz⟩
  have hold : ∀ {i z'}, (t.linked d n j).get i = some z' → ∃ z, t.get i = some z ∧ z'.dir = z.dir ∧ z'.up = z.up := by
    intro i z' hz
    rcases hback hz with ⟨rfl, rfl⟩ | ⟨_, hz⟩
    · exact ⟨y, hy, rfl, rfl⟩
    · exact ⟨z', hz, rfl, rfl⟩
  obtain ⟨xr, hxr, hxrd, hxru⟩ := h.root
  have hj1 : j ≠ 1 := by
    rintro rfl
    rw [hxr] at hj
    cases hj
    rw [hxrd] at hz
    cases hz
  refine ⟨?_, ?_, ?_, ?_, ?_, ?_, ?_, ?_⟩
  · rw [show (t.linked d n j).ents.map (·.1) = t.ents.map (·.1) from seti_keys t.ents d (fun y => { y with names := ins n j y.names })]
    exact h.nodup
  · obtain ⟨z', hz', e1, e2⟩ := hnew hxr
    exact ⟨z', hz', e1.trans hxrd, e2.trans hxru⟩
  · intro i z' hz
    obtain ⟨z, hz, _⟩ := hold hz
    exact h.lt i z hz
  · intro i z' m k hz hl
    have hk : k ≠ 1 ∧ ∃ w, t.get k = some w := by
      rcases hback hz with ⟨rfl, rfl⟩ | ⟨_, hz⟩
      · rw [lk_ins hn] at hl
        split at hl
        · cases hl; exact ⟨hj1, _, hj⟩
        · exact h.live _ _ _ _ hy hl
      · exact h.live _ _ _ _ hz hl
    obtain ⟨h1, w, hw⟩ := hk
    obtain ⟨w', hw', _⟩ := hnew hw
    exact ⟨h1, w', hw'⟩
  · intro i z' hz hf
    rcases hback hz with ⟨rfl, rfl⟩ | ⟨_, hz⟩
    · rw [show ({ y with names := ins n j y.names } : Ent).dir = y.dir from rfl, hd] at hf; cases hf
    · exact h.file i z' hz hf
  · intro i z' hz
    rcases hback hz with ⟨rfl, rfl⟩ | ⟨_, hz⟩
    · exact ins_sorted j (h.sorted _ _ hy) hn
    · exact h.sorted i z' hz
  · intro i z' hz hf
    obtain ⟨z, hz, e1, e2⟩ := hold hz
    obtain ⟨u, hu, hud⟩ := h.up i z hz (e1 ▸ hf)
    obtain ⟨u', hu', e3, _⟩ := hnew hu
    exact ⟨u', by rw [e2]; exact hu', e3.trans hud⟩
  · obtain ⟨dp, h1, h2⟩ := h.rank
    refine ⟨dp, h1, fun i z' hz hf hi => ?_⟩
    obtain ⟨z, hz, e1, e2⟩ := hold hz
    rw [e2]
    exact h2 i z hz (e1 ▸ hf) hi
end

end Go.Proofs.YtffffjngodinnaaGreatDoor.Abs
end

section
namespace Go.Proofs.YtffffjngodinnaaGreatDoor.Abs

/-- what is kept of a file's data where bytes come to stand in it -/
def over (data : List UInt8) (off : Nat) (b : List UInt8) : List UInt8 :=
  (data ++ List.replicate (off + b.length - data.length) 0).take off ++ b ++ (data ++ List.replicate (off + b.length - data.length) 0).drop (off + b.length)
def T.hold (t : T) (i : Nat) : T := t.set i fun x => { x with held := x.held + 1 }
def T.cut (t : T) (i : Nat) (now : Int) : T := t.set i fun x => { x with data := [], tick := now }
def T.write (t : T) (i off : Nat) (b : List UInt8) (now : Int) : T := t.set i fun x => { x with data := over x.data off b, tick := now }

section
variable {t : T} {i j : Nat} {x y : Ent} {f : Ent → Ent}
theorem T.get_set : (t.set i f).get j = if j = i then (t.get j).map f else t.get j := geti_seti
theorem T.get_set_same (h : t.get i = some x) : (t.set i f).get i = some (f x) := by rw [T.get_set, if_pos rfl, h]; rfl
theorem T.get_set_other (h : j ≠ i) : (t.set i f).get j = t.get j := by rw [T.get_set, if_neg h]
theorem T.WF.set_links (h : t.WF) (hx : t.get i = some x) (hn : (f x).names = x.names) : (t.set i f).links j = t.links j := by
  have := sum_seti (g := fun y => y.names.countP fun q => q.2 == j) (f := f) (c := 0) h.nodup hx (by rw [hn]; rfl)
  exact this
theorem T.WF.set_many (h : t.WF) (hx : t.get i = some x) (hn : (f x).names = x.names) : (t.set i f).many = t.many := by
  have := sum_seti (g := fun y => y.names.length) (f := f) (c := 0) h.nodup hx (by rw [hn]; rfl)
  exact this
theorem T.set_back {z : Ent} (hx : t.get i = some x) (h : (t.set i f).get j = some z) : (j = i ∧ z = f x) ∨ (j ≠ i ∧ t.get j = some z) := by
  by_cases e : j = i
  · subst e; rw [T.get_set_same hx] at h; cases h; exact .inl ⟨rfl, rfl⟩
  · rw [T.get_set_other e] at h; exact .inr ⟨e, h⟩
theorem T.WF.set_wf (h : t.WF) (hx : t.get i = some x) (hd : (f x).dir = x.dir) (hn : (f x).names = x.names) (hu : (f x).up = x.up) : (t.set i f).WF := by
  have hnew : ∀ {k z}, t.get k = some z → ∃ z', (t.set i f).get k = some z' ∧ z'.dir = z.dir ∧ z'.up = z.up ∧ z'.names = z.names := by
    intro k z hz
    by_cases e : k = i
    · subst e; rw [hx] at hz; cases hz; exact ⟨f x, T.get_set_same hx, hd, hu, hn⟩
    · exact ⟨z, by rw [T.get_set_other e]; exact hz, rfl, rfl, rfl⟩
  have hold : ∀ {k z'}, (t.set i f).get k = some z' → ∃ z, t.get k = some z ∧ z'.dir = z.dir ∧ z'.up = z.up ∧ z'.names = z.names := by
    intro k z' hz
    rcases T.set_back hx hz with ⟨rfl, rfl⟩ | ⟨_, hz⟩
    · exact ⟨x, hx, hd, hu, hn⟩
    · exact ⟨z', hz, rfl, rfl, rfl⟩
  refine ⟨?_, ?_, ?_, ?_, ?_, ?_, ?_, ?_⟩
  · show (List.map _ (seti _ _ _)).Nodup
    rw [seti_keys]; exact h.nodup
  · obtain ⟨z, hz, h1, h2⟩ := h.root
    obtain ⟨z', hz', e1, e2, _⟩ := hnew hz
    exact ⟨z', hz', e1.trans h1, e2.trans h2⟩
  · intro k z' hz
    obtain ⟨z, hz, _⟩ := hold hz
    exact h.lt _ _ hz
  · intro k z' m j hz hl
    obtain ⟨z, hz, _, _, e⟩ := hold hz
    rw [e] at hl
    obtain ⟨h1, y, hy⟩ := h.live _ _ _ _ hz hl
    obtain ⟨y', hy', _⟩ := hnew hy
    exact ⟨h1, y', hy'⟩
  · intro k z' hz hf
    obtain ⟨z, hz, e1, _, e⟩ := hold hz
    rw [e]; exact h.file _ _ hz (e1.symm.trans hf)
  · intro k z' hz
    obtain ⟨z, hz, _, _, e⟩ := hold hz
    rw [e]; exact h.sorted _ _ hz
  · intro k z' hz hzd
    obtain ⟨z, hz, e1, e2, _⟩ := hold hz
    obtain ⟨y, hy, hyd⟩ := h.up _ _ hz (e1.symm.trans hzd)
    obtain ⟨y', hy', e3, _⟩ := hnew hy
    exact ⟨y', by rw [e2]; exact hy', e3.trans hyd⟩
  · obtain ⟨dp, h1, hdp⟩ := h.rank
    refine ⟨dp, h1, fun k z' hz hzd hk => ?_⟩
    obtain ⟨z, hz, e1, e2, _⟩ := hold hz
    rw [e2]; exact hdp _ _ hz (e1.symm.trans hzd) hk
end

end Go.Proofs.YtffffjngodinnaaGreatDoor.Abs
end

section
namespace Go.Proofs.YtffffjngodinnaaGreatDoor
open Go.RowKit

theorem zeroCells_one (z : Value) (k : Nat) (hz : z.cells = #[z]) : (Builtin.zeroCells z.cells k).toList = List.replicate k z := by
  rw [hz]
  unfold Builtin.zeroCells
  apply List.ext_getElem?
  intro j
  rw [List.getElem?_replicate]
  by_cases hj : j < k
  · simp [hj, Nat.mod_one]
  · simp [hj]

section
variable {P : Program}
theorem run_append_zeros (w : World) (base : Nat) (t tn ty e : TypeId) (i : TypeInfo) (z : Value) (kq kn : IntKind) (ht : P.underlying t = some (.slice e)) (htn : P.underlying tn = some (.int kn)) (hi : P.info? e = some i) (hz : i.zero = some z)
    (hsize : i.size = 1) (hby : i.bytes = 1) (hzc : z.cells = #[z]) (hz1 : z.oneCell' = true) (v : Value) (n : Nat) (xs : List Value) (hown : OffRow w base e v n xs) (k : Nat) (h0 : 0 < k)
    (h63 : n + k ≤ maxLen) (hbytes : n + k ≤ 140737488355328) (hbase : base ≤ w.heap.size) :
    ∃ v' w', (Builtin.append_ #[t, tn] ty #[v, .int kq (k : Int)]).run P w = .ok v' w' ∧ OffRow w' base e v' (n + k) (xs ++ List.replicate k z) ∧ w.grownBy w' v.ownBlock ∧
      (v'.ownBlock = v.ownBlock ∨ v'.ownBlock = some w.heap.size) := by
  have hzl := zeroCells_one z k hzc
  have hzs : z.cells.size = 1 := by rw [hzc]; rfl
  have hlx := hown.1
  have grow : ∀ (A : Option Addr) (cap : Nat), v = .slice A n cap → n ≤ cap → cap < n + k → (Builtin.firstCells i.size n (.slice A n cap)).run P w.drew = .ok xs.toArray w.drew →
      ∃ v' w', (Builtin.append_ #[t, tn] ty #[v, .int kq (k : Int)]).run P w = .ok v' w' ∧ OffRow w' base e v' (n + k) (xs ++ List.replicate k z) ∧ w.grownBy w' v.ownBlock ∧ (v'.ownBlock = v.ownBlock ∨ v'.ownBlock = some w.heap.size) := by
    intro A cap hv hnc hck hold
    subst hv
    have hgr := Lib.run_append_grow_zeros (P := P) w t tn ty e i z kq kn ht htn hi hz A n cap xs hold k h0 (by omega) hck (by simp only [maxLen] at h63; omega) (by rw [hby]; omega) (by rw [hby]; exact growslice_fits (by omega) (by omega))
    have hge := grownCap_ge w (n + k) cap e
    have hcm : grownCap w (n + k) cap e ≤ maxLen := grownCap_le_maxLen w (n + k) cap e h63
    refine ⟨_, _, hgr, ⟨by rw [List.length_append, List.length_replicate, hlx], .inr ⟨w.heap.size, 0, _, _, rfl, hbase, heap_alloc_new w.drew _, hge, hcm, ?_, ?_⟩⟩, ⟨rfl, rfl, rfl, by simp, fun k hk _ => by first | exact heap_alloc_old w.drew _ k hk | exact heap_alloc_old w.drew _ hk⟩, .inr rfl⟩
    · simp only [Array.size_append, List.size_toArray, size_zeroCells, hzs]
      omega
    · simp only [Array.toList_append, List.drop_zero, hzl]
      rw [List.take_left' (by simp [hlx])]
  rcases hown.2 with ⟨rfl, rfl⟩ | ⟨g, off, cap, cur, rfl, hb, hg, hn, hc, hs, htk⟩
  · have hx : xs = [] := List.eq_nil_of_length_eq_zero hlx
    subst hx
    exact grow none 0 rfl (Nat.le_refl _) (by omega) (by simp [Builtin.firstCells])
  · by_cases hroom : n + k ≤ cap
    · have hst := run_storeCells_at P g (off + n) e (List.replicate k z) 0 cur w hg (by simp; omega) (fun u hu => by rw [(List.mem_replicate.1 hu).2]; exact hz1)
      simp only [Nat.add_zero] at hst
      have ea : (⟨g, off, none⟩ : Addr).add n = ⟨g, off + n, none⟩ := by unfold Addr.add; split <;> simp_all
      have hw : IntKind.i64.wrap (k : Int) = k := by rw [IntKind.wrap_i64]; omega
      have hneg : ¬ ((k : Int) < 0) := by omega
      have h48i : ¬ (281474976710656 < (k : Int)) := by omega
      have hk0 : k ≠ 0 := by omega
      refine ⟨.slice (some ⟨g, off, none⟩) (n + k) cap, w.setRow g (cur.toList.take (off + n) ++ List.replicate k z ++ cur.toList.drop (off + n + (List.replicate k z).length)).toArray, ?_, ⟨by rw [List.length_append, List.length_replicate, hlx], .inr ⟨g, off, cap, _, rfl, hb, setRow_heap w g cur _ e _ hg, hroom, hc, ?_, ?_⟩⟩,
        ⟨rfl, rfl, rfl, by simp [World.setRow], fun j _ hj => setRow_other w g j _ (fun e => hj (by simp [Value.ownBlock, e]))⟩, .inl rfl⟩
      · simp [Builtin.append_, run_underlying ht, run_underlying htn, sizeOf, typeInfo, zeroValue, hi, hz, hsize, hby, asInt, asIntOf, hw, hneg, h48i, hk0, hroom, ea, hzl, hst]
      · simp only [List.size_toArray, List.length_append, List.length_take, List.length_drop, List.length_replicate, Array.length_toList]
        omega
      · have hsz : cur.toList.length = cur.size := Array.length_toList
        have e1 : (cur.toList.take (off + n) ++ List.replicate k z ++ cur.toList.drop (off + n + (List.replicate k z).length)).drop off = xs ++ List.replicate k z ++ cur.toList.drop (off + n + (List.replicate k z).length) := by
          rw [List.append_assoc, List.drop_append_of_le_length (by rw [List.length_take]; omega), List.drop_take, show off + n - off = n by omega, htk, List.append_assoc]
        show ((cur.toList.take (off + n) ++ List.replicate k z ++ cur.toList.drop (off + n + (List.replicate k z).length)).drop off).take (n + k) = xs ++ List.replicate k z
        rw [e1]
        exact List.take_left' (by rw [List.length_append, List.length_replicate]; omega)
    · have hfc : (Builtin.firstCells i.size n (.slice (some ⟨g, off, none⟩) n cap)).run P w.drew = .ok xs.toArray w.drew := by
        rw [hsize]
        refine run_firstCells_some (P := P) w.drew 1 n ⟨g, off, none⟩ n cap xs (by omega) fun j u hu => ?_
        have hj := (List.getElem?_eq_some_iff.1 hu).1
        have ea : (⟨g, off, none⟩ : Addr).add j = ⟨g, off + j, none⟩ := by unfold Addr.add; split <;> simp_all
        rw [ea]
        show w.cell? _ = _
        rw [cell_of_row w g (off + j) cur e (0, 0) hg, ← Array.getElem?_toList]
        rw [← htk, List.getElem?_take, if_pos (by omega), List.getElem?_drop] at hu
        exact hu
      exact grow (some ⟨g, off, none⟩) cap rfl hn (by omega) hfc

/-- bytes copied into a row, from somewhere in it on -/
theorem run_copy_off (w : World) (base : Nat) (t ty e : TypeId) (i : TypeInfo) (ht : P.underlying t = some (.slice e)) (hi : P.info? e = some i) (hsize : i.size = 1)
    (A : Option Addr) (cap n : Nat) (xs : List Value) (hown : OffRow w base e (.slice A n cap) n xs) (o : Nat)
    (B : Nat) (A2 : Option Addr) (m c : Nat) (news : List Value) (hr : Reads w B 1 A2 m news) (h1 : ∀ u ∈ news, u.oneCell' = true) (hm : 0 < m) (hom : o + m ≤ n) :
    ∃ w', (Builtin.copy_ #[t, t] ty #[.slice (cutA A cap o 1) (n - o) (cap - o), .slice A2 m c]).run P w = .ok (.int .i64 (m : Int)) w' ∧ OffRow w' base e (.slice A n cap) n (xs.take o ++ news ++ xs.drop (o + m)) ∧
      w.grownBy w' (Value.slice A n cap).ownBlock := by
  have hl : news.length = m := by have := hr.1; omega
  have hlx := hown.1
  rcases hown.2 with ⟨hv, h0⟩ | ⟨g, off, cap', cur, hv, hb, hg, hn, hc, hs, htk⟩
  · omega
  · simp only [Value.slice.injEq] at hv
    obtain ⟨rfl, _, rfl⟩ := hv
    obtain ⟨ad, rfl, hB, hcc⟩ := hr.2 hm
    have hcut : cutA (some ⟨g, off, none⟩) cap o 1 = some ⟨g, off + o, none⟩ := by
      unfold cutA
      rw [if_neg (by omega)]
      have ea : (⟨g, off, none⟩ : Addr).add (o * 1) = ⟨g, off + o, none⟩ := by unfold Addr.add; split <;> simp_all
      rw [Option.map_some, ea]
    have hf := run_firstCells_some (P := P) w 1 m ad m c news (by omega) hcc
    have hst := run_storeCells_at P g (off + o) e news 0 cur w hg (by omega) h1
    simp only [Nat.add_zero] at hst
    have hmin : Nat.min m (n - o) = m := Nat.min_eq_left (by omega)
    refine ⟨w.setRow g (cur.toList.take (off + o) ++ news ++ cur.toList.drop (off + o + news.length)).toArray, ?_, ⟨?_, .inr ⟨g, off, cap, _, rfl, hb, setRow_heap w g cur _ e _ hg, hn, hc, ?_, ?_⟩⟩,
      ⟨rfl, rfl, rfl, by simp [World.setRow], fun j _ hj => setRow_other w g j _ (fun e => hj (by simp [Value.ownBlock, e]))⟩⟩
    · rw [hcut]
      simp [Builtin.copy_, run_underlying ht, sizeOf, typeInfo, hi, hsize, Builtin.lenOf, hmin, hf, hst, goInt]
    · simp only [List.length_append, List.length_take, List.length_drop]; omega
    · simp only [List.size_toArray, List.length_append, List.length_take, List.length_drop, Array.length_toList]
      omega
    · have hsz : cur.toList.length = cur.size := Array.length_toList
      show ((cur.toList.take (off + o) ++ news ++ cur.toList.drop (off + o + news.length)).drop off).take n = _
      rw [List.append_assoc, List.drop_append_of_le_length (by rw [List.length_take]; omega), List.drop_take, show off + o - off = o by omega]
      rw [← htk, List.take_take, Nat.min_eq_left (by omega), List.drop_take, List.drop_drop, List.append_assoc, hl]
      have hco : ((cur.toList.drop off).take o).length = o := by rw [List.length_take, List.length_drop]; omega
      rw [List.take_append, List.take_append, hco, hl, List.take_take, Nat.min_eq_right (by omega), List.take_of_length_le (l := news) (by omega)]
      rw [show n - o - m = n - (o + m) by omega, show off + o + m = off + (o + m) by omega]

theorem wpList_append_zeros (w : World) {ops : Array Oper} {rest : List Oper} {o : Oper} {a : Act} {Q : Exit → Act → World → Prop} (hgd : o.guard = none) (s x : Operand) (t tn : TypeId)
    (ho : o.op = .call { callee := .builtin .append, args := #[s, x], argTypes := #[t, tn] })
    (base : Nat) (e : TypeId) (i : TypeInfo) (z : Value) (kq kn : IntKind) (ht : P.underlying t = some (.slice e)) (htn : P.underlying tn = some (.int kn)) (hi : P.info? e = some i) (hz : i.zero = some z)
    (hsize : i.size = 1) (hby : i.bytes = 1) (hzc : z.cells = #[z]) (hz1 : z.oneCell' = true) (v : Value) (n : Nat) (xs : List Value) (hs : a.eval s = v) (hown : OffRow w base e v n xs) (k : Nat) (kk : Int) (hkk : kk = (k : Int)) (hx : a.eval x = .int kq kk) (h0 : 0 < k)
    (h63 : n + k ≤ maxLen) (hbytes : n + k ≤ 140737488355328) (hbase : base ≤ w.heap.size)
    (h : ∀ v' w', OffRow w' base e v' (n + k) (xs ++ List.replicate k z) → w.grownBy w' v.ownBlock → (v'.ownBlock = v.ownBlock ∨ v'.ownBlock = some w.heap.size) → wpList P ops Q rest (a.put o.dst v') w') : wpList P ops Q (o :: rest) a w := by
  refine wpList_plain hgd fun K hK => ?_
  obtain ⟨v', w', hrun, h2, h3, h4⟩ := run_append_zeros (P := P) w base t tn o.type e i z kq kn ht htn hi hz hsize hby hzc hz1 v n xs hown k h0 h63 hbytes hbase
  rw [← hkk] at hrun
  unfold Oper.wp execOp
  simp only [ho, resolve, invoke, builtin, Sem.run_bind, Sem.run_pure, Result.andThen_ok, List.map_toArray, List.map_cons, List.map_nil, hs, hx, hrun]
  exact hK _ _ (h v' w' h2 h3 h4)

theorem wpList_copy_off (w : World) {ops : Array Oper} {rest : List Oper} {o : Oper} {a : Act} {Q : Exit → Act → World → Prop} (hgd : o.guard = none) (s x : Operand) (t : TypeId)
    (ho : o.op = .call { callee := .builtin .copy, args := #[s, x], argTypes := #[t, t] })
    (base : Nat) (e : TypeId) (i : TypeInfo) (ht : P.underlying t = some (.slice e)) (hi : P.info? e = some i) (hsize : i.size = 1)
    (A : Option Addr) (cap n : Nat) (xs : List Value) (hown : OffRow w base e (.slice A n cap) n xs) (off : Nat) (hs : a.eval s = .slice (cutA A cap off 1) (n - off) (cap - off))
    (B : Nat) (A2 : Option Addr) (m c : Nat) (news : List Value) (hx : a.eval x = .slice A2 m c) (hr : Reads w B 1 A2 m news) (h1 : ∀ u ∈ news, u.oneCell' = true) (hm : 0 < m) (hom : off + m ≤ n)
    (h : ∀ w', OffRow w' base e (.slice A n cap) n (xs.take off ++ news ++ xs.drop (off + m)) → w.grownBy w' (Value.slice A n cap).ownBlock → wpList P ops Q rest (a.put o.dst (.int .i64 (m : Int))) w') : wpList P ops Q (o :: rest) a w := by
  refine wpList_plain hgd fun K hK => ?_
  obtain ⟨w', hrun, h2, h3⟩ := run_copy_off (P := P) w base t o.type e i ht hi hsize A cap n xs hown off B A2 m c news hr h1 hm hom
  unfold Oper.wp execOp
  simp only [ho, resolve, invoke, builtin, Sem.run_bind, Sem.run_pure, Result.andThen_ok, List.map_toArray, List.map_cons, List.map_nil, hs, hx, hrun]
  exact hK _ _ (h w' h2 h3)
end

end Go.Proofs.YtffffjngodinnaaGreatDoor
end
