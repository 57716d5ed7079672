/-
  Parts of the proof: Walks over slices.Clone at faults, New, Tree, Now, Used; Small laws on worlds behind worlds. Of no program; A tree of files and directories as plain data, by their numbers: what the calls of chapter 2 make of it. No program in this text; What a tree in memory is: the plain tree that it stands for.
-/
import Derived.Test.YtlncmknikjloeaaGreatDoorV05
import Derived.Test.YtlncmknikjloeaaGreatDoorV03
import Derived.Test.YtlncmknikjloeaaGreatDoorV04

section
namespace Go.Proofs.YtlncmknikjloeaaGreatDoor
open Go.RowKit Go.Maps

theorem Tryz.infoFault : (Tryz.prog.info? 63).map (fun i => (i.zero, i.size, i.bytes)) = some (some (.agg #[.int .i64 0, .int .i64 0]), 2, 16) := by kernel_rfl
theorem faultV_length (l : List (Int × Int)) : (faultV l).length = l.length * 2 := by
  induction l with
  | nil => rfl
  | cons p l ih => rw [show faultV (p :: l) = .int .i64 p.1 :: .int .i64 p.2 :: faultV l by simp [faultV]]; simp [ih]; omega
theorem faultV_oneCell (l : List (Int × Int)) : ∀ u ∈ faultV l, u.oneCell' = true := by
  intro u hu
  unfold faultV at hu
  obtain ⟨q, _, hq⟩ := List.mem_flatMap.1 hu
  simp only [List.mem_cons, List.not_mem_nil, or_false] at hq
  rcases hq with rfl | rfl <;> rfl
/-- a slice of faults that can be read -/
def Faults (w : World) (v : Value) (l : List (Int × Int)) : Prop := ∃ A cap, v = .slice A l.length cap ∧ l.length ≤ cap ∧ cap ≤ maxLen ∧ (A = none → cap = 0) ∧ Reads w w.heap.size 2 A l.length (faultV l)

set_option maxHeartbeats 1000000 in
theorem cloneF_any (ad : Addr) (cap : Nat) (l : List (Int × Int)) (w : World) (hr : Reads w w.heap.size 2 (some ad) l.length (faultV l)) (hl : l.length ≤ 8796093022208) :
    Calls Tryz.prog 29 #[.slice (some ad) l.length cap] w fun e w' => ∃ v, e = .returned v ∧ w'.ownsRow w.heap.size 63 2 v l.length (faultV l) ∧ Below w.heap.size w w' := by
  have heq := fun (W : World) => Lib.run_eql_slice_nil (P := Tryz.prog) W 59 63 (some ad) l.length cap 0 0 Tryz.underlying59
  obtain ⟨iB, hiB, hB0, hB1, hB2⟩ := info_parts Tryz.infoFault
  have HI := Lib.hid hiB
  have H0 := Lib.hid hB0
  have H1 := Lib.hid hB1
  have H2 := Lib.hid hB2
  clear hiB hB0 hB1 hB2
  have hR := Lib.hid hr
  clear hr
  go_enter Tryz.func29, Tryz.ntmps29
  go_wp2_with (at_builtin; refine wpList_append_any _ rfl _ _ 59 rfl w.heap.size 63 iB (.agg #[.int .i64 0, .int .i64 0]) 2 16 Tryz.underlying59 HI.out H0.out H1.out H2.out rfl (by decide) (.slice (some ⟨w.heap.size, 0, none⟩) 0 0) 0 [] rfl (World.ownsRow_made w #[] 0 (Nat.le_refl _) (by decide) rfl) w.heap.size (some ad) l.length cap (faultV l) rfl (hR.out.alloc (Nat.le_refl _) _) (faultV_oneCell l) (by simp only [maxLen]; omega) (by omega) (by simp) ?_; intro v2 w2 hown2 hg2 hat2)
  go_returns
  exact ⟨_, rfl, by simpa using hown2, ((Below.refl _ w).alloc (Nat.le_refl _) _).grown hg2 (by simp) (fun k hk => by simp [Value.ownBlock] at hk; omega)⟩
theorem cloneF_nil (w : World) : Calls Tryz.prog 29 #[.slice none 0 0] w fun e w' => e = .returned (.slice none 0 0) ∧ w' = w := by
  have heq := fun (W : World) => Lib.run_eql_slice_nil (P := Tryz.prog) W 59 63 none 0 0 0 0 Tryz.underlying59
  go_enter Tryz.func29, Tryz.ntmps29
  go_wp2
  go_returns
  exact ⟨rfl, rfl⟩
theorem cloneF (w : World) (v : Value) (l : List (Int × Int)) (h : Faults w v l) (hl : l.length ≤ 8796093022208) :
    Calls Tryz.prog 29 #[v] w fun e w' => ∃ u, e = .returned u ∧ w'.ownsRow w.heap.size 63 2 u l.length (faultV l) ∧ Below w.heap.size w w' := by
  obtain ⟨A, cap, rfl, h2, h3, h4, h5⟩ := h
  cases A with
  | none =>
    have hc := h4 rfl
    have hb : l = [] := List.eq_nil_of_length_eq_zero (by omega)
    subst hb hc
    refine (cloneF_nil w).mono ?_
    rintro e w' ⟨rfl, rfl⟩
    exact ⟨_, rfl, ⟨rfl, .inl ⟨rfl, rfl⟩⟩, Below.refl _ _⟩
  | some ad => exact cloneF_any ad cap l w h5 hl

set_option maxRecDepth 100000 in
set_option maxHeartbeats 1000000 in
theorem kNew (w : World) (t : Nat) (v : Value) (l : List (Int × Int)) (h : Faults w v l) (hl : l.length ≤ 8796093022208) (now : Int) :
    Calls Tryz.prog 5 #[.pointer (some ⟨t, 0, none⟩), v, .int .i64 now] w fun e w' => ∃ k u tb, e = .returned (.pointer (some ⟨k, 0, none⟩)) ∧ w.heap.size ≤ k ∧ w.heap.size ≤ tb ∧ (∀ g, u.ownBlock = some g → w.heap.size ≤ g) ∧
      KernOf w' k { t := t, now := now, fv := u, fl := l, used := 0, last := 0, tb := tb, tn := 0, tf := fun _ => none } ∧ Below w.heap.size w w' := by
  have hcl := cloneF w v l h hl
  have hmm := @run_makeMap Tryz.prog
  go_enter Tryz.func5, Tryz.ntmps5
  go_wp2_with (go_at_call 29; refine hcl.mono ?_; rintro e w1 ⟨u, rfl, hown, hbel⟩; obtain ⟨A, c, rfl, hc1, hc2, hrd⟩ := own_slice hown)
  go_returns
  have e1 : (w1.alloc (.map #[] 0)).heap.size = w1.heap.size + 1 := by simp
  have hs := hbel.size
  refine ⟨w1.heap.size + 1, .slice A l.length c, w1.heap.size, rfl, by omega, hs, fun g hg => (hown.lt g hg).1, ⟨?_, ?_, ?_, Nat.zero_le _⟩, (hbel.alloc hs _).alloc (by rw [e1]; omega) _⟩
  · have := Blk.new (w1.alloc (.map #[] 0)) 72 #[.pointer (some ⟨t, 0, none⟩), .int .i64 now, .slice A l.length c, .int .i64 0, .int .i64 0, .map (some w1.heap.size)]
    rwa [e1] at this
  · exact (MapOf.made w1 Tryz.prog 3).same (Below.heap_alloc _ _ _ (by rw [e1]; omega))
  · exact Joins.ownsRow_le ((hown.alloc _).alloc _) (Nat.zero_le _)

set_option maxHeartbeats 1000000 in
theorem kUsed (w : World) (k : Nat) (K : KS) (h : KernOf w k K) : Calls Tryz.prog 64 #[.pointer (some ⟨k, 0, none⟩)] w fun e w' => e = .returned (.int .i64 (K.used : Int)) ∧ w' = w := by
  have c3 : w.cell? ⟨k, 3, none⟩ = some (.int .i64 (K.used : Int)) := h.blk.cell 3
  go_enter Tryz.func64, Tryz.ntmps64
  go_wp2
  go_returns
  exact ⟨rfl, rfl⟩

end Go.Proofs.YtlncmknikjloeaaGreatDoor
end

section
namespace Go.Proofs.YtlncmknikjloeaaGreatDoor
open Go.RowKit

theorem below_step {B : Nat} {a b c : World} (h : Below B a b) (h' : Below b.heap.size b c) (hB : B ≤ a.heap.size) : Below B a c := h.trans (h'.mono (Nat.le_trans hB h.size))
theorem below_box {B : Nat} {a b : World} (h : Below B a b) (hB : B ≤ a.heap.size) (o : Obj) : Below B a (b.alloc o) := h.alloc (Nat.le_trans hB h.size) o
theorem Blk.on {w w' : World} {g : Nat} {t : TypeId} {cs : Array Value} (h : Blk w g t cs) (hb : Below w.heap.size w w') : Blk w' g t cs := h.below hb h.lt
theorem own_on {w w' : World} {base n size : Nat} {e : TypeId} {v : Value} {xs : List Value} (h : w.ownsRow base e size v n xs) (hb : Below w.heap.size w w') : w'.ownsRow base e size v n xs := ownsRow_same h fun g hg => hb.block g (h.lt g hg).2
theorem Blk.newNext (w : World) (o : Obj) (t : TypeId) (cs : Array Value) : Blk ((w.alloc o).alloc (.cells cs t)) (w.heap.size + 1) t cs := by have := Blk.new (w.alloc o) t cs; rwa [World.size_alloc] at this
theorem below_one (w : World) (o : Obj) : Below w.heap.size w (w.alloc o) := (Below.refl _ w).alloc (Nat.le_refl _) o

end Go.Proofs.YtlncmknikjloeaaGreatDoor
end

section
namespace Go.Proofs.YtlncmknikjloeaaGreatDoor.Abs

abbrev Name := List UInt8

/-- the pieces of a path between strokes -/
def segs : List UInt8 → List Name
  | [] => [[]]
  | c :: l => if c = 47 then [] :: segs l else match segs l with
    | [] => [[c]]
    | h :: t => (c :: h) :: t
/-- the parts of a path: the pieces that are not empty -/
def parts (path : List UInt8) : List Name := (segs path).filter fun p => !p.isEmpty
def dot : Name := [46]
def dotdot : Name := [46, 46]
/-- is it a name? -/
def named (s : Name) : Bool := !s.isEmpty && s.length ≤ 32 && !(s == dot) && !(s == dotdot) && !(s.any fun c => c == 47 || c == 0)
/-- the order of names -/
def nlt : Name → Name → Bool
  | [], [] => false
  | [], _ :: _ => true
  | _ :: _, [] => false
  | a :: l, b :: m => if a < b then true else if b < a then false else nlt l m

/-- a file or a directory -/
structure Ent where
  dir : Bool
  mode : Int
  tick : Int
  data : List UInt8 := []
  names : List (Name × Nat) := []
  up : Nat := 0
  held : Nat := 0

/-- the entry that a name has -/
def lk : List (Name × Nat) → Name → Option Nat
  | [], _ => none
  | (m, i) :: l, n => if n = m then some i else lk l n
/-- an entry more, in its place -/
def ins (n : Name) (j : Nat) : List (Name × Nat) → List (Name × Nat)
  | [] => [(n, j)]
  | (m, i) :: l => if nlt n m then (n, j) :: (m, i) :: l else (m, i) :: ins n j l
/-- an entry fewer -/
def era (n : Name) (l : List (Name × Nat)) : List (Name × Nat) := l.filter fun p => !(p.1 == n)

/-- a tree: files and directories by their numbers, in the order in which they were made; the next number -/
structure T where
  ents : List (Nat × Ent)
  next : Nat

def geti : List (Nat × Ent) → Nat → Option Ent
  | [], _ => none
  | (j, x) :: l, i => if i = j then some x else geti l i
def T.get (t : T) (i : Nat) : Option Ent := geti t.ents i
def seti (l : List (Nat × Ent)) (i : Nat) (f : Ent → Ent) : List (Nat × Ent) := l.map fun p => if p.1 = i then (p.1, f p.2) else p
def T.set (t : T) (i : Nat) (f : Ent → Ent) : T := { t with ents := seti t.ents i f }
def T.isDir (t : T) (i : Nat) : Bool := match t.get i with | some x => x.dir | none => false

def emptyT : T := { ents := [(1, { dir := true, mode := 493, tick := 0, up := 1 })], next := 2 }

/-- from one along a part -/
def T.step (t : T) (i : Nat) (p : Name) : Except Nat Nat := match t.get i with
  | none => .error 99
  | some x => if x.dir = false then .error 3 else if p = dot then .ok i else if p = dotdot then .ok x.up
    else if named p = false then .error 13 else match lk x.names p with
      | none => .error 1
      | some j => .ok j
/-- from one along parts -/
def T.leads (t : T) : Nat → List Name → Except Nat Nat
  | i, [] => .ok i
  | i, p :: ps => match t.step i p with
    | .error e => .error e
    | .ok j => t.leads j ps
theorem T.leads_cons (t : T) (i : Nat) (p : Name) (ps : List Name) : t.leads i (p :: ps) = match t.step i p with
  | .error e => Except.error e
  | .ok j => t.leads j ps := rfl
/-- where a path begins -/
def T.start (t : T) (cwd path : List UInt8) : Except Nat Nat := match t.leads 1 (parts cwd) with
  | .error e => .error e
  | .ok i => if t.isDir i = false then .error 3 else match path with
    | [] => .error 1
    | c :: _ => if c = 47 then .ok 1 else .ok i
/-- does a path end with a stroke? -/
def slash (path : List UInt8) : Bool := path.getLast? == some 47
/-- what a path leads to -/
def T.look (t : T) (cwd path : List UInt8) : Except Nat Nat := match t.start cwd path with
  | .error e => .error e
  | .ok i => match t.leads i (parts path) with
    | .error e => .error e
    | .ok j => if slash path && !t.isDir j then .error 3 else .ok j
def T.links (t : T) (j : Nat) : Nat := (t.ents.map fun p => p.2.names.countP fun q => q.2 == j).sum
def T.many (t : T) : Nat := (t.ents.map fun p => p.2.names.length).sum
/-- a name's directory, and the name; none: there is none, or it is a dot -/
def T.place (t : T) (cwd path : List UInt8) : Except Nat (Option (Nat × Name)) := match t.start cwd path with
  | .error e => .error e
  | .ok i => match (parts path).getLast? with
    | none => .ok none
    | some last => match t.leads i (parts path).dropLast with
      | .error e => .error e
      | .ok d => if t.isDir d = false then .error 3 else if last = dot ∨ last = dotdot then .ok none else if named last = false then .error 13 else .ok (some (d, last))
/-- a directory's depth -/
def T.depthN (t : T) : Nat → Nat → Nat
  | 0, _ => 0
  | k + 1, i => if i = 1 then 0 else match t.get i with
    | none => 0
    | some x => 1 + t.depthN k x.up
def T.depth (t : T) (i : Nat) : Nat := t.depthN 11 i
/-- may a new entry be made? -/
def T.may (t : T) (cwd path : List UInt8) (dir : Bool) : Except Nat (Nat × Name) := match t.place cwd path with
  | .error e => .error e
  | .ok none => .error 2
  | .ok (some (d, n)) => match t.get d with
    | none => .error 99
    | some x => if (lk x.names n).isSome then .error 2 else if slash path && !dir then .error 3 else if 10 ≤ t.depth d then .error 14 else if 200 ≤ t.many then .error 12 else .ok (d, n)
def nine (mode : Int) : Int := mode % 512
/-- a new file or directory -/
def T.make (t : T) (cwd path : List UInt8) (dir : Bool) (mode now : Int) : T × Except Nat Nat := match t.may cwd path dir with
  | .error e => (t, .error e)
  | .ok (d, n) => ({ ents := seti t.ents d (fun x => { x with names := ins n t.next x.names }) ++ [(t.next, { dir := dir, mode := nine mode, tick := now, up := if dir then d else 0 })], next := t.next + 1 }, .ok t.next)

/-- what holds of a tree at all times -/
structure T.WF (t : T) : Prop where
  nodup : (t.ents.map (·.1)).Nodup
  root : ∃ x, t.get 1 = some x ∧ x.dir = true ∧ x.up = 1
  lt : ∀ i x, t.get i = some x → 0 < i ∧ i < t.next
  live : ∀ i x n j, t.get i = some x → lk x.names n = some j → j ≠ 1 ∧ ∃ y, t.get j = some y
  file : ∀ i x, t.get i = some x → x.dir = false → x.names = []
  sorted : ∀ i x, t.get i = some x → x.names.Pairwise (fun a b => nlt a.1 b.1 = true)
  up : ∀ i x, t.get i = some x → x.dir = true → ∃ y, t.get x.up = some y ∧ y.dir = true
  rank : ∃ dp : Nat → Nat, dp 1 = 0 ∧ ∀ i x, t.get i = some x → x.dir = true → i ≠ 1 → dp i = dp x.up + 1 ∧ dp i ≤ 10

theorem emptyT_get {i : Nat} {x : Ent} (h : emptyT.get i = some x) : i = 1 ∧ x = { dir := true, mode := 493, tick := 0, up := 1 } := by
  simp only [emptyT, T.get, geti] at h
  split at h
  · rename_i h1; injection h with h; exact ⟨h1, h.symm⟩
  · cases h
theorem emptyT_wf : emptyT.WF := by
  refine ⟨by simp [emptyT], ⟨_, rfl, rfl, rfl⟩, ?_, ?_, ?_, ?_, ?_, ⟨fun _ => 0, rfl, ?_⟩⟩
  · intro i x h; obtain ⟨rfl, rfl⟩ := emptyT_get h; simp [emptyT]
  · intro i x n j h hl; obtain ⟨rfl, rfl⟩ := emptyT_get h; simp [lk] at hl
  · intro i x h; obtain ⟨rfl, rfl⟩ := emptyT_get h; simp
  · intro i x h; obtain ⟨rfl, rfl⟩ := emptyT_get h; exact List.Pairwise.nil
  · intro i x h _; obtain ⟨rfl, rfl⟩ := emptyT_get h; exact ⟨_, rfl, rfl⟩
  · intro i x h _ h1; obtain ⟨rfl, rfl⟩ := emptyT_get h; exact absurd rfl h1

theorem T.step_ne0 {t : T} {i e : Nat} {p : Name} (h : t.step i p = .error e) : e ≠ 0 := by
  unfold T.step at h
  repeat' split at h
  all_goals (cases h <;> decide)
theorem T.leads_ne0 {t : T} {e : Nat} : ∀ {l : List Name} {i : Nat}, t.leads i l = .error e → e ≠ 0
  | [], i, h => by simp [T.leads] at h
  | p :: ps, i, h => by
    rw [T.leads_cons] at h
    split at h
    · rename_i e' he; injection h with h; subst h; exact T.step_ne0 he
    · exact T.leads_ne0 h
theorem T.start_ne0 {t : T} {e : Nat} {cwd path : List UInt8} (h : t.start cwd path = .error e) : e ≠ 0 := by
  unfold T.start at h
  repeat' split at h
  · rename_i e' he; injection h with h; subst h; exact T.leads_ne0 he
  all_goals (cases h <;> decide)
theorem T.look_ne0 {t : T} {e : Nat} {cwd path : List UInt8} (h : t.look cwd path = .error e) : e ≠ 0 := by
  unfold T.look at h
  repeat' split at h
  · rename_i e' he; injection h with h; subst h; exact T.start_ne0 he
  · rename_i e' he; injection h with h; subst h; exact T.leads_ne0 he
  all_goals (cases h <;> decide)
section
variable {t : T} {i j : Nat} {x : Ent} {e : Nat}
theorem T.WF.step_live (h : t.WF) {p : Name} (hx : t.get i = some x) (hs : t.step i p = .ok j) : ∃ y, t.get j = some y := by
  unfold T.step at hs
  rw [hx] at hs
  simp only at hs
  split at hs
  · cases hs
  · rename_i hd
    split at hs
    · injection hs with hs; subst hs; exact ⟨x, hx⟩
    · split at hs
      · injection hs with hs; subst hs
        obtain ⟨y, hy, _⟩ := h.up i x hx (by simpa using hd)
        exact ⟨y, hy⟩
      · split at hs
        · cases hs
        · split at hs
          · cases hs
          · rename_i k hk
            injection hs with hs; subst hs
            exact (h.live i x p _ hx hk).2
theorem T.WF.leads_live (h : t.WF) : ∀ (ps : List Name) (i : Nat), (∃ x, t.get i = some x) → t.leads i ps = .ok j → ∃ y, t.get j = some y := by
  intro ps
  induction ps with
  | nil => intro i hi hl; simp only [T.leads, Except.ok.injEq] at hl; subst hl; exact hi
  | cons p ps ih =>
    rintro i ⟨x, hx⟩ hl
    unfold T.leads at hl
    split at hl
    · cases hl
    · rename_i k hk
      exact ih k (h.step_live hx hk) hl
theorem T.WF.root_live (h : t.WF) : ∃ x, t.get 1 = some x := by obtain ⟨x, hx, _⟩ := h.root; exact ⟨x, hx⟩
theorem isDir_of {t : T} {i : Nat} (h : t.isDir i = true) : ∃ x, t.get i = some x ∧ x.dir = true := by
  unfold T.isDir at h
  split at h
  · exact ⟨_, by assumption, h⟩
  · cases h
theorem T.WF.root_dir (h : t.WF) : t.isDir 1 = true := by obtain ⟨x, hx, hd, _⟩ := h.root; simp [T.isDir, hx, hd]
theorem T.WF.start_dir (h : t.WF) {cwd path : List UInt8} (hs : t.start cwd path = .ok i) : t.isDir i = true := by
  unfold T.start at hs
  split at hs
  · cases hs
  · split at hs
    · cases hs
    · rename_i j _ hd
      split at hs
      · cases hs
      · split at hs <;> (injection hs with hs; subst hs)
        · exact h.root_dir
        · simpa using hd
theorem T.WF.look_live (h : t.WF) {cwd path : List UInt8} (hs : t.look cwd path = .ok j) : ∃ y, t.get j = some y := by
  unfold T.look at hs
  split at hs
  · cases hs
  · rename_i k hk
    obtain ⟨z, hz, _⟩ := isDir_of (h.start_dir hk)
    split at hs
    · cases hs
    · rename_i m hm
      split at hs
      · cases hs
      · injection hs with hs; subst hs
        exact h.leads_live _ _ ⟨z, hz⟩ hm
end

end Go.Proofs.YtlncmknikjloeaaGreatDoor.Abs
end

section
namespace Go.Proofs.YtlncmknikjloeaaGreatDoor
open Go.RowKit Go.Maps

/-- the blocks of a tree S are the items of the plain tree T; β: the block of a number -/
structure Rep (S : TS) (T : Abs.T) (β : Nat → Nat) : Prop where
  root : S.root = β 1
  next : S.next = T.next
  many : S.many = (T.many : Int)
  inj : ∀ i j x y, T.get i = some x → T.get j = some y → β i = β j → i = j
  item : ∀ i x, T.get i = some x → ∃ y, S.items (β i) = some y ∧ y.ino = i ∧ y.mode = x.mode ∧ y.tick = x.tick ∧ y.dir = x.dir ∧ y.data = x.data ∧
    (x.dir = true → (∀ n, y.nf n = (Abs.lk x.names n).map β) ∧ y.up = β x.up) ∧ y.links = (T.links i : Int) ∧ y.held = (x.held : Int)
  files : ∀ i, S.files i = match T.get i with | some x => if x.dir then none else some (β i) | none => none
structure TreeIs (w : World) (t : Nat) (S : TS) (T : Abs.T) (β : Nat → Nat) : Prop where
  mem : TreeOf w t S
  rep : Rep S T β
  wf : T.WF

section
variable {w w' : World} {t : Nat} {S : TS} {T : Abs.T} {β : Nat → Nat}
theorem TreeIs.below (h : TreeIs w t S T β) (hb : Below w.heap.size w w') : TreeIs w' t S T β := ⟨h.mem.below hb, h.rep, h.wf⟩
/-- an item's block -/
theorem TreeIs.at_ (h : TreeIs w t S T β) {i : Nat} {x : Abs.Ent} (hx : T.get i = some x) : ∃ y, S.items (β i) = some y ∧ Blk w (β i) 76 (itemCells y) ∧ y.ino = i ∧ y.mode = x.mode ∧ y.tick = x.tick ∧ y.dir = x.dir ∧ y.data = x.data ∧
    (x.dir = true → (∀ n, y.nf n = (Abs.lk x.names n).map β) ∧ y.up = β x.up) ∧ y.links = (T.links i : Int) ∧ y.held = (x.held : Int) := by
  obtain ⟨y, h1, h2⟩ := h.rep.item i x hx
  exact ⟨y, h1, (h.mem.item _ _ h1).1, h2⟩
end

/-- the empty tree -/
theorem emptyT_rep (h : Nat) : Rep (emptyT h) Abs.emptyT (fun _ => h + 1) := by
  refine ⟨rfl, rfl, rfl, ?_, ?_, ?_⟩
  · intro i j x y hx hy _
    rw [(Abs.emptyT_get hx).1, (Abs.emptyT_get hy).1]
  · intro i x hx
    obtain ⟨rfl, rfl⟩ := Abs.emptyT_get hx
    exact ⟨rootItem h, by simp [emptyT], rfl, rfl, rfl, rfl, rfl, fun _ => ⟨fun _ => rfl, rfl⟩, rfl, rfl⟩
  · intro i
    show none = _
    cases hg : Abs.emptyT.get i with
    | none => rfl
    | some x => obtain ⟨rfl, rfl⟩ := Abs.emptyT_get hg; rfl
theorem emptyT_is {w : World} {t h : Nat} (hT : TreeOf w t (emptyT h)) : TreeIs w t (emptyT h) Abs.emptyT (fun _ => h + 1) := ⟨hT, emptyT_rep h, Abs.emptyT_wf⟩

end Go.Proofs.YtlncmknikjloeaaGreatDoor
end
