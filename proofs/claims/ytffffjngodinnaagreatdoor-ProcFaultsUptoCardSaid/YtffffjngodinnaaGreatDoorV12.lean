/-
  Parts of the proof: A whole struct or array stored into a block of its own, and read again. Of no program; Plain facts on the parts of a path. No program in this text; A tree in memory lies as it lay where a round of a loop over it has kept its word (Stay).
-/
import Derived.Test.YtffffjngodinnaaGreatDoorV03
import Derived.Laws.CopyRow
import Derived.Laws.Tables
import Derived.Test.YtffffjngodinnaaGreatDoorV01
import Derived.Lib.Join
import Derived.Test.YtffffjngodinnaaGreatDoorV11
import Derived.Test.YtffffjngodinnaaGreatDoorV09

section
namespace Go.Proofs.YtffffjngodinnaaGreatDoor
open Go.RowKit

section
variable {P : Program}
theorem run_store_blk {w : World} {g : Nat} {t : TypeId} {old : Array Value} (ty : TypeId) (cells : Array Value) (h : Blk w g t old) (hs : old.size = cells.size) (hi : (P.info? ty).map (·.size) = some cells.size) (h1 : cells.all (·.oneCell') = true) :
    (Instr.storeAt ty (.pointer (some ⟨g, 0, none⟩)) (.agg cells)).run P w = .ok () (w.setRow g cells) := by
  have hr := run_storeCells_at P g 0 t cells.toList 0 old w h (by simp [hs]) (fun v hv => (Array.all_eq_true_iff_forall_mem.1 h1) v (by simpa using hv))
  have e : (old.toList.take (0 + 0) ++ cells.toList ++ old.toList.drop (0 + 0 + cells.toList.length)).toArray = cells := by
    rw [List.take_zero, List.nil_append, List.drop_eq_nil_of_le (by simp [hs]), List.append_nil]
  rw [e] at hr
  cases hq : P.info? ty with
  | none => simp [hq] at hi
  | some i =>
    have hz : cells.size = i.size := by simp [hq] at hi; omega
    simp [Instr.storeAt, Instr.sureAddr, storeVar, sizeOf, typeInfo, hq, Value.cells, hz, hr]

theorem wpList_store_blk {ops : Array Oper} {rest : List Oper} {o : Oper} {a : Act} {w : World} {Q : Exit → Act → World → Prop} (hgd : o.guard = none) (ty : TypeId) (x y : Operand) (ho : o.op = .store ty x y)
    (g : Nat) (t : TypeId) (old cells : Array Value) (hx : a.eval x = .pointer (some ⟨g, 0, none⟩)) (hy : a.eval y = .agg cells) (h : Blk w g t old) (hs : old.size = cells.size) (hi : (P.info? ty).map (·.size) = some cells.size) (h1 : cells.all (·.oneCell') = true)
    (hK : ∀ w', Blk w' g t cells → w.grownBy w' (some g) → wpList P ops Q rest (a.put o.dst undef) w') : wpList P ops Q (o :: rest) a w := by
  refine wpList_plain hgd fun K' hK' => ?_
  have hrun := run_store_blk (P := P) ty cells h hs hi h1
  unfold Oper.wp execOp
  simp only [ho, hx, hy, Sem.run_bind, hrun, Sem.run_pure, Result.andThen_ok]
  exact hK' _ _ (hK _ (setRow_heap w g old cells t (0, 0) h) ⟨rfl, rfl, rfl, by simp [World.setRow], fun k _ hk => setRow_other w g k _ (fun e => hk (by rw [e]))⟩)
end

end Go.Proofs.YtffffjngodinnaaGreatDoor
end

section
namespace Go.Proofs.YtffffjngodinnaaGreatDoor.Abs

theorem segs_no (l : List UInt8) : ∀ p ∈ segs l, (47 : UInt8) ∉ p := by
  induction l with
  | nil => simp [segs]
  | cons c l ih =>
    unfold segs
    split
    · intro p hp
      rcases List.mem_cons.1 hp with rfl | hp
      · simp
      · exact ih p hp
    · rename_i hc
      cases hs : segs l with
      | nil => intro p hp; simp at hp; subst hp; simp; exact fun e => hc e.symm
      | cons a b =>
        rw [hs] at ih
        intro p hp
        rcases List.mem_cons.1 hp with rfl | hp
        · intro hm
          rcases List.mem_cons.1 hm with e | hm
          · exact hc e.symm
          · exact ih a (by simp) hm
        · exact ih p (by simp [hp])
theorem segs_ne (l : List UInt8) : segs l ≠ [] := by
  cases l with
  | nil => simp [segs]
  | cons c l =>
    unfold segs
    split
    · simp
    · split <;> simp
theorem segs_self {p : Name} (h : (47 : UInt8) ∉ p) : segs p = [p] := by
  induction p with
  | nil => rfl
  | cons c l ih =>
    unfold segs
    rw [if_neg (fun e => h (by simp [e])), ih (fun hm => h (by simp [hm]))]
theorem segs_cons {c : UInt8} {l : List UInt8} {a : Name} {b : List Name} (hc : c ≠ 47) (hs : segs l = a :: b) : segs (c :: l) = (c :: a) :: b := by simp [segs, hc, hs]
theorem segs_app {p : Name} (h : (47 : UInt8) ∉ p) (l : List UInt8) : segs (p ++ 47 :: l) = p :: segs l := by
  induction p with
  | nil => simp [segs]
  | cons c q ih =>
    rw [List.cons_append]
    exact segs_cons (fun e => h (by simp [e])) (ih (fun hm => h (by simp [hm])))
theorem join_one (p : Name) : Lib.join [p] [47] = p := by simp [Lib.join, List.intercalate]
theorem parts_ok (l : List UInt8) : ∀ p ∈ parts l, p ≠ [] ∧ (47 : UInt8) ∉ p := by
  intro p hp
  obtain ⟨h1, h2⟩ := List.mem_filter.1 hp
  exact ⟨fun e => by subst e; simp at h2, segs_no l p h1⟩
theorem segs_join : ∀ (l : List Name), l ≠ [] → (∀ p ∈ l, (47 : UInt8) ∉ p) → segs (Lib.join l [47]) = l
  | [], h, _ => absurd rfl h
  | [p], _, h => by
    rw [join_one]
    exact segs_self (h p (by simp))
  | p :: q :: l, _, h => by
    rw [show Lib.join (p :: q :: l) [47] = p ++ 47 :: Lib.join (q :: l) [47] from by simp [Lib.join]]
    rw [segs_app (h p (by simp)), segs_join (q :: l) (by simp) (fun x hx => h x (by simp [hx]))]
theorem parts_join (l : List Name) (h : ∀ p ∈ l, p ≠ [] ∧ (47 : UInt8) ∉ p) : parts (Lib.join l [47]) = l := by
  by_cases hl : l = []
  · subst hl; rfl
  · unfold parts
    rw [segs_join l hl (fun p hp => (h p hp).2)]
    refine List.filter_eq_self.2 fun p hp => ?_
    cases p with
    | nil => exact absurd rfl (h _ hp).1
    | cons a b => rfl
def sumL (l : List Name) : Nat := (l.map fun p => p.length + 1).sum
theorem sumL_segs (s : List UInt8) : sumL (segs s) = s.length + 1 := by
  induction s with
  | nil => rfl
  | cons c l ih =>
    unfold segs
    split
    · simp only [sumL, List.map_cons, List.sum_cons, List.length_nil, List.length_cons] at ih ⊢; omega
    · split
      · rename_i h; exact absurd h (segs_ne l)
      · rename_i a b h
        rw [h] at ih
        simp only [sumL, List.map_cons, List.sum_cons, List.length_cons] at ih ⊢; omega
theorem sumL_sub {a b : List Name} (h : a.Sublist b) : sumL a ≤ sumL b := by
  induction h with
  | slnil => exact Nat.le_refl _
  | cons x _ ih => simp only [sumL, List.map_cons, List.sum_cons] at ih ⊢; omega
  | cons_cons x _ ih => simp only [sumL, List.map_cons, List.sum_cons] at ih ⊢; omega
theorem join_len : ∀ (l : List Name), l ≠ [] → (Lib.join l [47]).length + 1 = sumL l
  | [], h => absurd rfl h
  | [p], _ => by simp [Lib.join, sumL]
  | p :: q :: l, _ => by
    rw [show Lib.join (p :: q :: l) [47] = p ++ 47 :: Lib.join (q :: l) [47] from by simp [Lib.join]]
    have ih := join_len (q :: l) (by simp)
    simp only [sumL, List.map_cons, List.sum_cons, List.length_append, List.length_cons] at ih ⊢
    omega
/-- all parts but the last one, put together, are no longer than the path -/
theorem join_parts_le (s : List UInt8) : (Lib.join (parts s).dropLast [47]).length ≤ s.length := by
  by_cases hl : (parts s).dropLast = []
  · rw [hl]; exact Nat.zero_le _
  · have h1 := join_len _ hl
    have h2 : sumL (parts s).dropLast ≤ sumL (segs s) := sumL_sub ((List.dropLast_sublist _).trans (List.filter_sublist))
    rw [sumL_segs] at h2
    omega
theorem T.place_ne0 {t : T} {e : Nat} {cwd path : List UInt8} (h : t.place cwd path = .error e) : e ≠ 0 := by
  unfold T.place at h
  split at h
  · rename_i e' he; injection h with h; subst h; exact T.start_ne0 he
  · split at h
    · cases h
    · split at h
      · rename_i e' he; injection h with h; subst h; exact T.leads_ne0 he
      · repeat' split at h
        all_goals (cases h <;> decide)

end Go.Proofs.YtffffjngodinnaaGreatDoor.Abs
end

section
namespace Go.Proofs.YtffffjngodinnaaGreatDoor
open Go.RowKit Go.Maps

section
variable {w w' : World} {t : Nat} {S : TS} {T : Abs.T} {β : Nat → Nat} {tb tr : TypeId} {B : Nat}
theorem Stay.mapOf {P : Program} {k : TypeId} {b n : Nat} {f : Lit → Option Value} (h : Stay tb tr B w w') (hm : MapOf w P k b n f) : MapOf w' P k b n f := by
  obtain ⟨D, ⟨es, clock, h0, h1⟩, h2⟩ := hm
  exact ⟨D, ⟨es, clock, h.same _ _ h0 trivial, h1⟩, h2⟩
theorem Stay.offRow {base n : Nat} {e : TypeId} {v : Value} {xs : List Value} (h : Stay tb tr B w w') (h1 : e ≠ tb) (h2 : e ≠ tr) (hr : OffRow w base e v n xs) : OffRow w' base e v n xs := by
  refine hr.same fun g hg => ?_
  rcases hr.2 with ⟨e', _⟩ | ⟨g', off, cap, cur, e', _, hb, _⟩
  · rw [e'] at hg; simp [Value.ownBlock] at hg
  · obtain rfl : g' = g := by rw [e'] at hg; simpa [Value.ownBlock] using hg
    exact (h.same _ _ hb ⟨h1, h2⟩).trans hb.symm
theorem Stay.ownsRow {base size n : Nat} {e : TypeId} {v : Value} {xs : List Value} (h : Stay tb tr B w w') (h1 : e ≠ tb) (h2 : e ≠ tr) (hr : w.ownsRow base e size v n xs) : w'.ownsRow base e size v n xs := by
  refine ownsRow_same hr fun g hg => ?_
  obtain ⟨cur, hb⟩ : ∃ cur, Blk w g e cur := by
    rcases hr.2 with ⟨h0, _⟩ | ⟨g', cap, cur, hv, _, hb, _⟩
    · rw [h0] at hg; simp [Value.ownBlock] at hg
    · obtain rfl : g' = g := by rw [hv] at hg; simpa [Value.ownBlock] using hg
      exact ⟨cur, hb⟩
  exact (h.same _ _ hb ⟨h1, h2⟩).trans hb.symm
theorem TreeIs.stay (h : TreeIs w t S T β) (hs : Stay tb tr B w w') (h1 : 169 ≠ tb ∧ 169 ≠ tr) (h2 : 179 ≠ tb ∧ 179 ≠ tr) (h3 : 5 ≠ tb ∧ 5 ≠ tr) : TreeIs w' t S T β := by
  refine ⟨⟨hs.blk h.mem.blk h1.1 h1.2, hs.mapOf h.mem.files, fun b x hx => ?_, h.mem.apart⟩, h.rep, h.wf⟩
  obtain ⟨k1, k2, k3⟩ := h.mem.item b x hx
  exact ⟨hs.blk k1 h2.1 h2.2, hs.offRow h3.1 h3.2 k2, fun hd => ⟨hs.mapOf (k3 hd).1, (k3 hd).2⟩⟩
end

end Go.Proofs.YtffffjngodinnaaGreatDoor
end
