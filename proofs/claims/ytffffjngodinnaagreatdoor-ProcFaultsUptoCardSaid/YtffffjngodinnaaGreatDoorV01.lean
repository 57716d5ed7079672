/-
  Parts of the proof: Maps whose elements are whatever values (pointers, interface values): a map as a function from keys to values; A tree of files and directories as plain data, by their numbers: what the calls of chapter 2 make of it. No program in this text.
-/
import Derived.Maps.Own
import Derived.Maps.OwnSet
import Derived.Maps.Keyed
import Derived.Maps.OwnOps

section
namespace Go.Proofs.YtffffjngodinnaaGreatDoor
open Go.Maps Go.ChangeMaps

/-- an element as it stands -/
def heldE (v : Value) : Option (DataW Value × List MemPlace) := some (.held v, [])
/-- block b is a map of at most n entries, which holds what f says -/
def MapOf (w : World) (P : Program) (k : TypeId) (b n : Nat) (f : Lit → Option Value) : Prop :=
  ∃ D : DataW Value, w.ownsMap P k heldE b n D ∧ ∀ kl, (f kl = none → has D kl = false) ∧ ∀ v, f kl = some v → has D kl = true ∧ ∀ z, D.atKey kl z = .held v

section
variable {P : Program} {w w' : World} {k t e : TypeId} {b n : Nat} {f : Lit → Option Value} {key val z : Value} {kl : Lit}
theorem MapOf.made (w : World) (P : Program) (k : TypeId) : MapOf (w.alloc (.map #[] 0)) P k w.heap.size 0 (fun _ => none) :=
  ⟨.map [], World.ownsMap_made w P k heldE, fun kl => ⟨fun _ => rfl, fun v h => by cases h⟩⟩
theorem MapOf.lt (h : MapOf w P k b n f) : b < w.heap.size := by obtain ⟨D, h1, _⟩ := h; exact h1.lt
theorem MapOf.kept {row : Option Nat} (h : MapOf w P k b n f) (hg : w.grownBy w' row) (hne : some b ≠ row) : MapOf w' P k b n f := by
  obtain ⟨D, h1, h2⟩ := h; exact ⟨D, h1.kept hg hne, h2⟩
theorem MapOf.same (h : MapOf w P k b n f) (hb : w'.heap[b]? = w.heap[b]?) : MapOf w' P k b n f := by
  obtain ⟨D, ⟨es, clock, h0, h1⟩, h2⟩ := h
  exact ⟨D, ⟨es, clock, hb.trans h0, h1⟩, h2⟩
theorem MapOf.drew (h : MapOf w P k b n f) : MapOf w.drew P k b n f := h
theorem MapOf.mono {m : Nat} (h : MapOf w P k b n f) (hm : n ≤ m) : MapOf w P k b m f := by
  obtain ⟨D, h1, h2⟩ := h; exact ⟨D, h1.mono hm, h2⟩

theorem MapOf.look (h : MapOf w P k b n f) (K : Keyed P k) (ht : P.underlying t = some (.map k e)) (hz : (zeroValue e).run P w = .ok z w) (hkey : keyOf P k key = some kl) :
    (Instr.lookup t (.map (some b)) key true).run P w = .ok (.tuple #[(f kl).getD z, .bool (f kl).isSome]) w := by
  obtain ⟨D, h1, h2⟩ := h
  obtain ⟨v, ps, hrun, hv⟩ := h1.look_ok K ht hz (zd := .held z) (zp := []) rfl hkey
  rw [hrun]
  simp only [heldE, Option.some.injEq, Prod.mk.injEq] at hv
  cases hf : f kl with
  | none =>
    have h3 := (h2 kl).1 hf
    rw [atKey_of_not_has h3] at hv
    obtain ⟨h4, _⟩ := hv
    cases h4
    rw [h3]; rfl
  | some u =>
    obtain ⟨h3, h4⟩ := (h2 kl).2 u hf
    rw [h4] at hv
    obtain ⟨h5, _⟩ := hv
    cases h5
    rw [h3]; rfl
theorem MapOf.look1 (h : MapOf w P k b n f) (K : Keyed P k) (ht : P.underlying t = some (.map k e)) (hz : (zeroValue e).run P w = .ok z w) (hkey : keyOf P k key = some kl) :
    (Instr.lookup t (.map (some b)) key false).run P w = .ok ((f kl).getD z) w := by
  obtain ⟨D, h1, h2⟩ := h
  obtain ⟨v, ps, hrun, hv⟩ := h1.lookup K ht hz (zd := .held z) (zp := []) rfl hkey
  rw [hrun]
  simp only [heldE, Option.some.injEq, Prod.mk.injEq] at hv
  cases hf : f kl with
  | none =>
    rw [atKey_of_not_has ((h2 kl).1 hf)] at hv
    obtain ⟨h4, _⟩ := hv
    cases h4
    rfl
  | some u =>
    rw [((h2 kl).2 u hf).2] at hv
    obtain ⟨h5, _⟩ := hv
    cases h5
    rfl

open Classical in
/-- a map with one entry turned -/
noncomputable def upd (f : Lit → Option Value) (kl : Lit) (v : Option Value) : Lit → Option Value := fun x => if x = kl then v else f x
theorem upd_same (f : Lit → Option Value) (kl : Lit) (v : Option Value) : upd f kl v kl = v := if_pos rfl
theorem upd_other (f : Lit → Option Value) {kl x : Lit} (v : Option Value) (h : x ≠ kl) : upd f kl v x = f x := if_neg h

theorem MapOf.store (h : MapOf w P k b n f) (K : Keyed P k) (ht : P.underlying t = some (.map k e)) (hn : n < maxLen) (hkey : keyOf P k key = some kl) (hkl : WideAt.IsKeyLit kl) :
    ∃ w', (Instr.mapUpdate t (.map (some b)) key val).run P w = .ok () w' ∧ MapOf w' P k b (n + 1) (upd f kl (some val)) ∧ w.grownBy w' (some b) := by
  obtain ⟨D, h1, h2⟩ := h
  obtain ⟨w', hrun, h3, h4⟩ := h1.update K ht hn (val := val) (d := .held val) (ps := []) hkey rfl
  refine ⟨w', hrun, ⟨_, h3, fun x => ?_⟩, h4⟩
  by_cases hx : x = kl
  · subst hx
    rw [upd_same]
    refine ⟨fun e => (by cases e), fun v hv => ?_⟩
    cases hv
    exact ⟨has_put_same h1.isMap hkl _, fun z => atKey_put_same h1.isMap hkl _ z⟩
  · rw [upd_other f _ hx, has_put_other hx]
    refine ⟨(h2 x).1, fun v hv => ⟨((h2 x).2 v hv).1, fun z => ?_⟩⟩
    rw [atKey_put_other hx]
    exact ((h2 x).2 v hv).2 z

theorem MapOf.drop (h : MapOf w P k b n f) (K : Keyed P k) (ht : P.underlying t = some (.map k e)) (hkey : keyOf P k key = some kl) (ty : TypeId) :
    ∃ w', (Builtin.delete_ #[t, k] ty #[.map (some b), key]).run P w = .ok (.tuple #[]) w' ∧ MapOf w' P k b n (upd f kl none) ∧ w.grownBy w' (some b) := by
  obtain ⟨D, h1, h2⟩ := h
  obtain ⟨w', hrun, h3, h4⟩ := h1.drop K ht hkey ty
  refine ⟨w', hrun, ⟨_, h3, fun x => ?_⟩, h4.grown⟩
  by_cases hx : x = kl
  · subst hx
    rw [upd_same]
    exact ⟨fun _ => has_del_same, fun v hv => by cases hv⟩
  · rw [upd_other f _ hx, has_del_other hx]
    refine ⟨(h2 x).1, fun v hv => ⟨((h2 x).2 v hv).1, fun z => ?_⟩⟩
    rw [atKey_del_other hx]
    exact ((h2 x).2 v hv).2 z
end

section
variable {P : Program} (w : World) {ops : Array Oper} {rest : List Oper} {o : Oper} {a : Act} {Q : Exit → Act → World → Prop}
/-- 'v, ok := m[k]' -/
theorem wpList_look_of (hg : o.guard = none) (m x : Operand) (t : TypeId) (hop : o.op = Op.lookup t m x true) (k e : TypeId) (K : Keyed P k) (ht : P.underlying t = some (.map k e)) (z : Value) (hz : (zeroValue e).run P w = .ok z w) (b n : Nat) (f : Lit → Option Value)
    (hm : a.eval m = .map (some b)) (h : MapOf w P k b n f) (key : Value) (kl : Lit) (hx : a.eval x = key) (hkey : keyOf P k key = some kl)
    (hK : wpList P ops Q rest (a.put o.dst (.tuple #[(f kl).getD z, .bool (f kl).isSome])) w) : wpList P ops Q (o :: rest) a w := by
  refine wpList_plain hg fun K' hK' => ?_
  have hrun := h.look K ht hz hkey
  unfold Oper.wp
  simp [execOp, hop, hm, hx, hrun, Result.andThen]
  exact hK' _ _ hK
/-- 'm[k]' -/
theorem wpList_look1_of (hg : o.guard = none) (m x : Operand) (t : TypeId) (hop : o.op = Op.lookup t m x false) (k e : TypeId) (K : Keyed P k) (ht : P.underlying t = some (.map k e)) (z : Value) (hz : (zeroValue e).run P w = .ok z w) (b n : Nat) (f : Lit → Option Value)
    (hm : a.eval m = .map (some b)) (h : MapOf w P k b n f) (key : Value) (kl : Lit) (hx : a.eval x = key) (hkey : keyOf P k key = some kl)
    (hK : wpList P ops Q rest (a.put o.dst ((f kl).getD z)) w) : wpList P ops Q (o :: rest) a w := by
  refine wpList_plain hg fun K' hK' => ?_
  have hrun := h.look1 K ht hz hkey
  unfold Oper.wp
  simp [execOp, hop, hm, hx, hrun, Result.andThen]
  exact hK' _ _ hK
/-- 'm[k] = v' -/
theorem wpList_store_of (hg : o.guard = none) (m x v : Operand) (t : TypeId) (hop : o.op = Op.mapUpdate t m x v) (k e : TypeId) (K : Keyed P k) (ht : P.underlying t = some (.map k e)) (b n : Nat) (f : Lit → Option Value)
    (hm : a.eval m = .map (some b)) (h : MapOf w P k b n f) (hn : n < maxLen) (key val : Value) (kl : Lit) (hx : a.eval x = key) (hv : a.eval v = val) (hkey : keyOf P k key = some kl) (hkl : WideAt.IsKeyLit kl)
    (hK : ∀ w', MapOf w' P k b (n + 1) (upd f kl (some val)) → w.grownBy w' (some b) → wpList P ops Q rest (a.put o.dst undef) w') : wpList P ops Q (o :: rest) a w := by
  refine wpList_plain hg fun K' hK' => ?_
  obtain ⟨w', hrun, r1, r2⟩ := h.store K ht hn (val := val) hkey hkl
  unfold Oper.wp
  simp [execOp, hop, hm, hx, hv, hrun, Result.andThen]
  exact hK' _ _ (hK w' r1 r2)
/-- 'delete(m, k)' -/
theorem wpList_drop_of (hg : o.guard = none) (m x : Operand) (t k : TypeId) (hop : o.op = Op.call { callee := Callee.builtin Builtin.delete, args := #[m, x], argTypes := #[t, k] }) (e : TypeId) (K : Keyed P k) (ht : P.underlying t = some (.map k e)) (b n : Nat) (f : Lit → Option Value)
    (hm : a.eval m = .map (some b)) (h : MapOf w P k b n f) (key : Value) (kl : Lit) (hx : a.eval x = key) (hkey : keyOf P k key = some kl)
    (hK : ∀ w', MapOf w' P k b n (upd f kl none) → w.grownBy w' (some b) → wpList P ops Q rest (a.put o.dst (.tuple #[])) w') : wpList P ops Q (o :: rest) a w := by
  refine wpList_plain hg fun K' hK' => ?_
  obtain ⟨w', hrun, r1, r2⟩ := h.drop K ht hkey o.type
  unfold Oper.wp
  simp [execOp, hop, resolve, invoke, builtin, hm, hx, hrun, Result.andThen]
  exact hK' _ _ (hK w' r1 r2)
end

end Go.Proofs.YtffffjngodinnaaGreatDoor
end

section
namespace Go.Proofs.YtffffjngodinnaaGreatDoor.Abs

abbrev Name := List UInt8

/-- the pieces of a path between strokes -/
def segs : List UInt8 → List Name
  | [] => [[]]
  | c :: l => if c = 47 then [] :: segs l else match segs l with
    | [] => [[c]]
    | h :: t => (c :: h) :: t
/-- the parts of a path: the pieces that are not empty -/
def parts (path : List UInt8) : List Name := (segs path).filter fun p => !p.isEmpty
def dot : Name := [46]
def dotdot : Name := [46, 46]
/-- is it a name? -/
def named (s : Name) : Bool := !s.isEmpty && s.length ≤ 32 && !(s == dot) && !(s == dotdot) && !(s.any fun c => c == 47 || c == 0)
/-- the order of names -/
def nlt : Name → Name → Bool
  | [], [] => false
  | [], _ :: _ => true
  | _ :: _, [] => false
  | a :: l, b :: m => if a < b then true else if b < a then false else nlt l m

/-- a file or a directory -/
structure Ent where
  dir : Bool
  mode : Int
  tick : Int
  data : List UInt8 := []
  names : List (Name × Nat) := []
  up : Nat := 0
  held : Nat := 0

/-- the entry that a name has -/
def lk : List (Name × Nat) → Name → Option Nat
  | [], _ => none
  | (m, i) :: l, n => if n = m then some i else lk l n
/-- an entry more, in its place -/
def ins (n : Name) (j : Nat) : List (Name × Nat) → List (Name × Nat)
  | [] => [(n, j)]
  | (m, i) :: l => if nlt n m then (n, j) :: (m, i) :: l else (m, i) :: ins n j l
/-- an entry fewer -/
def era (n : Name) (l : List (Name × Nat)) : List (Name × Nat) := l.filter fun p => !(p.1 == n)

/-- a tree: files and directories by their numbers, in the order in which they were made; the next number -/
structure T where
  ents : List (Nat × Ent)
  next : Nat

def geti : List (Nat × Ent) → Nat → Option Ent
  | [], _ => none
  | (j, x) :: l, i => if i = j then some x else geti l i
def T.get (t : T) (i : Nat) : Option Ent := geti t.ents i
def seti (l : List (Nat × Ent)) (i : Nat) (f : Ent → Ent) : List (Nat × Ent) := l.map fun p => if p.1 = i then (p.1, f p.2) else p
def T.set (t : T) (i : Nat) (f : Ent → Ent) : T := { t with ents := seti t.ents i f }
def T.isDir (t : T) (i : Nat) : Bool := match t.get i with | some x => x.dir | none => false

def emptyT : T := { ents := [(1, { dir := true, mode := 493, tick := 0, up := 1 })], next := 2 }

/-- from one along a part -/
def T.step (t : T) (i : Nat) (p : Name) : Except Nat Nat := match t.get i with
  | none => .error 99
  | some x => if x.dir = false then .error 3 else if p = dot then .ok i else if p = dotdot then .ok x.up
    else if named p = false then .error 13 else match lk x.names p with
      | none => .error 1
      | some j => .ok j
/-- from one along parts -/
def T.leads (t : T) : Nat → List Name → Except Nat Nat
  | i, [] => .ok i
  | i, p :: ps => match t.step i p with
    | .error e => .error e
    | .ok j => t.leads j ps
theorem T.leads_cons (t : T) (i : Nat) (p : Name) (ps : List Name) : t.leads i (p :: ps) = match t.step i p with
  | .error e => Except.error e
  | .ok j => t.leads j ps := rfl
/-- where a path begins -/
def T.start (t : T) (cwd path : List UInt8) : Except Nat Nat := match t.leads 1 (parts cwd) with
  | .error e => .error e
  | .ok i => if t.isDir i = false then .error 3 else match path with
    | [] => .error 1
    | c :: _ => if c = 47 then .ok 1 else .ok i
/-- does a path end with a stroke? -/
def slash (path : List UInt8) : Bool := path.getLast? == some 47
/-- what a path leads to -/
def T.look (t : T) (cwd path : List UInt8) : Except Nat Nat := match t.start cwd path with
  | .error e => .error e
  | .ok i => match t.leads i (parts path) with
    | .error e => .error e
    | .ok j => if slash path && !t.isDir j then .error 3 else .ok j
def T.links (t : T) (j : Nat) : Nat := (t.ents.map fun p => p.2.names.countP fun q => q.2 == j).sum
def T.many (t : T) : Nat := (t.ents.map fun p => p.2.names.length).sum
/-- a name's directory, and the name; none: there is none, or it is a dot -/
def T.place (t : T) (cwd path : List UInt8) : Except Nat (Option (Nat × Name)) := match t.start cwd path with
  | .error e => .error e
  | .ok i => match (parts path).getLast? with
    | none => .ok none
    | some last => match t.leads i (parts path).dropLast with
      | .error e => .error e
      | .ok d => if t.isDir d = false then .error 3 else if last = dot ∨ last = dotdot then .ok none else if named last = false then .error 13 else .ok (some (d, last))
/-- a directory's depth -/
def T.depthN (t : T) : Nat → Nat → Nat
  | 0, _ => 0
  | k + 1, i => if i = 1 then 0 else match t.get i with
    | none => 0
    | some x => 1 + t.depthN k x.up
def T.depth (t : T) (i : Nat) : Nat := t.depthN 11 i
/-- may a new entry be made? -/
def T.may (t : T) (cwd path : List UInt8) (dir : Bool) : Except Nat (Nat × Name) := match t.place cwd path with
  | .error e => .error e
  | .ok none => .error 2
  | .ok (some (d, n)) => match t.get d with
    | none => .error 99
    | some x => if (lk x.names n).isSome then .error 2 else if slash path && !dir then .error 3 else if 10 ≤ t.depth d then .error 14 else if 200 ≤ t.many then .error 12 else .ok (d, n)
def nine (mode : Int) : Int := mode % 512
/-- a new file or directory -/
def T.make (t : T) (cwd path : List UInt8) (dir : Bool) (mode now : Int) : T × Except Nat Nat := match t.may cwd path dir with
  | .error e => (t, .error e)
  | .ok (d, n) => ({ ents := seti t.ents d (fun x => { x with names := ins n t.next x.names }) ++ [(t.next, { dir := dir, mode := nine mode, tick := now, up := if dir then d else 0 })], next := t.next + 1 }, .ok t.next)

/-- what holds of a tree at all times -/
structure T.WF (t : T) : Prop where
  nodup : (t.ents.map (·.1)).Nodup
  root : ∃ x, t.get 1 = some x ∧ x.dir = true ∧ x.up = 1
  lt : ∀ i x, t.get i = some x → 0 < i ∧ i < t.next
  live : ∀ i x n j, t.get i = some x → lk x.names n = some j → j ≠ 1 ∧ ∃ y, t.get j = some y
  file : ∀ i x, t.get i = some x → x.dir = false → x.names = []
  sorted : ∀ i x, t.get i = some x → x.names.Pairwise (fun a b => nlt a.1 b.1 = true)
  up : ∀ i x, t.get i = some x → x.dir = true → ∃ y, t.get x.up = some y ∧ y.dir = true
  rank : ∃ dp : Nat → Nat, dp 1 = 0 ∧ ∀ i x, t.get i = some x → x.dir = true → i ≠ 1 → dp i = dp x.up + 1 ∧ dp i ≤ 10

theorem emptyT_get {i : Nat} {x : Ent} (h : emptyT.get i = some x) : i = 1 ∧ x = { dir := true, mode := 493, tick := 0, up := 1 } := by
  simp only [emptyT, T.get, geti] at h
  split at h
  · rename_i h1; injection h with h; exact ⟨h1, h.symm⟩
  · cases h
theorem emptyT_wf : emptyT.WF := by
  refine ⟨by simp [emptyT], ⟨_, rfl, rfl, rfl⟩, ?_, ?_, ?_, ?_, ?_, ⟨fun _ => 0, rfl, ?_⟩⟩
  · intro i x h; obtain ⟨rfl, rfl⟩ := emptyT_get h; simp [emptyT]
  · intro i x n j h hl; obtain ⟨rfl, rfl⟩ := emptyT_get h; simp [lk] at hl
  · intro i x h; obtain ⟨rfl, rfl⟩ := emptyT_get h; simp
  · intro i x h; obtain ⟨rfl, rfl⟩ := emptyT_get h; exact List.Pairwise.nil
  · intro i x h _; obtain ⟨rfl, rfl⟩ := emptyT_get h; exact ⟨_, rfl, rfl⟩
  · intro i x h _ h1; obtain ⟨rfl, rfl⟩ := emptyT_get h; exact absurd rfl h1

theorem T.step_ne0 {t : T} {i e : Nat} {p : Name} (h : t.step i p = .error e) : e ≠ 0 := by
  unfold T.step at h
  repeat' split at h
  all_goals (cases h <;> decide)
theorem T.leads_ne0 {t : T} {e : Nat} : ∀ {l : List Name} {i : Nat}, t.leads i l = .error e → e ≠ 0
  | [], i, h => by simp [T.leads] at h
  | p :: ps, i, h => by
    rw [T.leads_cons] at h
    split at h
    · rename_i e' he; injection h with h; subst h; exact T.step_ne0 he
    · exact T.leads_ne0 h
theorem T.start_ne0 {t : T} {e : Nat} {cwd path : List UInt8} (h : t.start cwd path = .error e) : e ≠ 0 := by
  unfold T.start at h
  repeat' split at h
  · rename_i e' he; injection h with h; subst h; exact T.leads_ne0 he
  all_goals (cases h <;> decide)
theorem T.look_ne0 {t : T} {e : Nat} {cwd path : List UInt8} (h : t.look cwd path = .error e) : e ≠ 0 := by
  unfold T.look at h
  repeat' split at h
  · rename_i e' he; injection h with h; subst h; exact T.start_ne0 he
  · rename_i e' he; injection h with h; subst h; exact T.leads_ne0 he
  all_goals (cases h <;> decide)
section
variable {t : T} {i j : Nat} {x : Ent} {e : Nat}
theorem T.WF.step_live (h : t.WF) {p : Name} (hx : t.get i = some x) (hs : t.step i p = .ok j) : ∃ y, t.get j = some y := by
  unfold T.step at hs
  rw [hx] at hs
  simp only at hs
  split at hs
  · cases hs
  · rename_i hd
    split at hs
    · injection hs with hs; subst hs; exact ⟨x, hx⟩
    · split at hs
      · injection hs with hs; subst hs
        obtain ⟨y, hy, _⟩ := h.up i x hx (by simpa using hd)
        exact ⟨y, hy⟩
      · split at hs
        · cases hs
        · split at hs
          · cases hs
          · rename_i k hk
            injection hs with hs; subst hs
            exact (h.live i x p _ hx hk).2
theorem T.WF.leads_live (h : t.WF) : ∀ (ps : List Name) (i : Nat), (∃ x, t.get i = some x) → t.leads i ps = .ok j → ∃ y, t.get j = some y := by
  intro ps
  induction ps with
  | nil => intro i hi hl; simp only [T.leads, Except.ok.injEq] at hl; subst hl; exact hi
  | cons p ps ih =>
    rintro i ⟨x, hx⟩ hl
    unfold T.leads at hl
    split at hl
    · cases hl
    · rename_i k hk
      exact ih k (h.step_live hx hk) hl
theorem T.WF.root_live (h : t.WF) : ∃ x, t.get 1 = some x := by obtain ⟨x, hx, _⟩ := h.root; exact ⟨x, hx⟩
theorem isDir_of {t : T} {i : Nat} (h : t.isDir i = true) : ∃ x, t.get i = some x ∧ x.dir = true := by
  unfold T.isDir at h
  split at h
  · exact ⟨_, by assumption, h⟩
  · cases h
theorem T.WF.root_dir (h : t.WF) : t.isDir 1 = true := by obtain ⟨x, hx, hd, _⟩ := h.root; simp [T.isDir, hx, hd]
theorem T.WF.start_dir (h : t.WF) {cwd path : List UInt8} (hs : t.start cwd path = .ok i) : t.isDir i = true := by
  unfold T.start at hs
  split at hs
  · cases hs
  · split at hs
    · cases hs
    · rename_i j _ hd
      split at hs
      · cases hs
      · split at hs <;> (injection hs with hs; subst hs)
        · exact h.root_dir
        · simpa using hd
theorem T.WF.look_live (h : t.WF) {cwd path : List UInt8} (hs : t.look cwd path = .ok j) : ∃ y, t.get j = some y := by
  unfold T.look at hs
  split at hs
  · cases hs
  · rename_i k hk
    obtain ⟨z, hz, _⟩ := isDir_of (h.start_dir hk)
    split at hs
    · cases hs
    · rename_i m hm
      split at hs
      · cases hs
      · injection hs with hs; subst hs
        exact h.leads_live _ _ ⟨z, hz⟩ hm
end

end Go.Proofs.YtffffjngodinnaaGreatDoor.Abs
end
