/-
  Parts of the proof.
-/
import Derived.Test.YtffffjngodinnaaGreatDoorChecked
import Derived.Test.YtffffjngodinnaaGreatDoorV01
import Derived.WalkSpells
import Derived.WalkLawsBesides
import Derived.Lib.Hide
import Derived.Handy
section
namespace Go.Proofs.YtffffjngodinnaaGreatDoor
open Go.RowKit
def bytesC (bs : List UInt8) : List Value := bs.map fun b => .int .u8 b.toNat
theorem bytesC_length (bs : List UInt8) : (bytesC bs).length = bs.length := by simp [bytesC]
theorem bytesC_take (bs : List UInt8) (n : Nat) : bytesC (bs.take n) = (bytesC bs).take n := by simp [bytesC]
theorem bytesC_drop (bs : List UInt8) (n : Nat) : bytesC (bs.drop n) = (bytesC bs).drop n := by simp [bytesC]
theorem bytesC_append (a b : List UInt8) : bytesC (a ++ b) = bytesC a ++ bytesC b := by simp [bytesC]
theorem bytesC_oneCell (l : List UInt8) : ∀ u ∈ bytesC l, u.oneCell' = true := by
 intro u hu
 unfold bytesC at hu
 obtain ⟨b, _, rfl⟩ := List.mem_map.1 hu
 rfl
theorem Tryz.infoByte : (Tryz.prog.info? 5).map (fun i => (i.zero, i.size, i.bytes)) = some (some (.int .u8 0), 1, 1) := by kernel_rfl
def Bytes (w : World) (B : Nat) (v : Value) (bs : List UInt8) : Prop := ∃ A cap, v = .slice A bs.length cap /\ bs.length <= cap /\ cap <= maxLen /\ (A = none -> cap = 0) /\ Reads w B 1 A bs.length (bytesC bs)
theorem Bytes.more {w : World} {B B' : Nat} {v : Value} {bs : List UInt8} (h : Bytes w B v bs) (hB : B <= B') : Bytes w B' v bs := by
 obtain ⟨A, cap, h1, h2, h3, h4, h5⟩ := h; exact ⟨A, cap, h1, h2, h3, h4, h5.more hB⟩
theorem Bytes.keep {w w' : World} {B : Nat} {v : Value} {bs : List UInt8} (h : Bytes w B v bs) (hk : ∀ p : Addr, p.block < B -> w'.cell? p = w.cell? p) : Bytes w' B v bs := by
 obtain ⟨A, cap, h1, h2, h3, h4, h5⟩ := h; exact ⟨A, cap, h1, h2, h3, h4, h5.keep hk⟩
theorem Bytes.below {w w' : World} {B : Nat} {v : Value} {bs : List UInt8} (h : Bytes w B v bs) (hb : Below B w w') : Bytes w' B v bs := h.keep fun _ hp => hb.cell hp
theorem Bytes.nil (w : World) (B : Nat) : Bytes w B (.slice none 0 0) [] := ⟨none, 0, rfl, Nat.le_refl _, by unfold maxLen; omega, fun _ => rfl, Reads.none_⟩
theorem Bytes.of_off {w : World} {base n : Nat} {e : TypeId} {v : Value} {bs : List UInt8} (h : OffRow w base e v n (bytesC bs)) : Bytes w w.heap.size v bs := by
 have hn := h.1
 rw [bytesC_length] at hn
 obtain ⟨A, cap, hv, hc, hr⟩ := h.form
 refine ⟨A, cap, by rw [hv, hn], by omega, ?_, ?_, by rw [hn]; exact hr⟩
 · rcases h.2 with ⟨rfl, _⟩ | ⟨g, off, cap', cur, rfl, _, _, _, h3, _⟩
   · simp only [Value.slice.injEq] at hv
     unfold maxLen; omega
   · simp only [Value.slice.injEq] at hv
     omega
 · rintro rfl
   rcases h.2 with ⟨rfl, _⟩ | ⟨g, off, cap', cur, rfl, _⟩
   · simp only [Value.slice.injEq] at hv
     omega
   · simp at hv
theorem cloneB_any (ad : Addr) (cap : Nat) (bs : List UInt8) (w : World) (hr : Reads w w.heap.size 1 (some ad) bs.length (bytesC bs)) (hl : bs.length <= 140737488355328) :
 Calls Tryz.prog 62 #[.slice (some ad) bs.length cap] w fun e w' => ∃ v, e = .returned v /\ w'.ownsRow w.heap.size 5 1 v bs.length (bytesC bs) /\ Below w.heap.size w w' := by
 have heq := fun (W : World) => Lib.run_eql_slice_nil (P := Tryz.prog) W 23 5 (some ad) bs.length cap 0 0 Tryz.underlying23
 obtain ⟨iB, hiB, hB0, hB1, hB2⟩ := info_parts Tryz.infoByte
 have HI := Lib.hid hiB
 have H0 := Lib.hid hB0
 have H1 := Lib.hid hB1
 have H2 := Lib.hid hB2
 clear hiB hB0 hB1 hB2
 have hR := Lib.hid hr
 clear hr
 go_enter Tryz.func62, Tryz.ntmps62
 go_wp2_with (at_builtin; refine wpList_append_any _ rfl _ _ 23 rfl w.heap.size 5 iB (.int .u8 0) 1 1 Tryz.underlying23 HI.out H0.out H1.out H2.out rfl (by decide) (.slice (some ⟨w.heap.size, 0, none⟩) 0 0) 0 [] rfl (World.ownsRow_made w #[] 0 (Nat.le_refl _) (by decide) rfl) w.heap.size (some ad) bs.length cap (bytesC bs) rfl (hR.out.alloc (Nat.le_refl _) _) (bytesC_oneCell bs) (by simp only [maxLen]; omega) (by omega) (by simp) ?_; intro v2 w2 hown2 hg2 hat2)
 go_returns
 exact ⟨_, rfl, by simpa using hown2, ((Below.refl _ w).alloc (Nat.le_refl _) _).grown hg2 (by simp) (fun k hk => by simp [Value.ownBlock] at hk; omega)⟩
theorem cloneB_nil (w : World) : Calls Tryz.prog 62 #[.slice none 0 0] w fun e w' => e = .returned (.slice none 0 0) /\ w' = w := by
 have heq := fun (W : World) => Lib.run_eql_slice_nil (P := Tryz.prog) W 23 5 none 0 0 0 0 Tryz.underlying23
 go_enter Tryz.func62, Tryz.ntmps62
 go_wp2
 go_returns
 exact ⟨rfl, rfl⟩
theorem cloneB (w : World) (v : Value) (bs : List UInt8) (h : Bytes w w.heap.size v bs) (hl : bs.length <= 140737488355328) :
 Calls Tryz.prog 62 #[v] w fun e w' => ∃ u, e = .returned u /\ w'.ownsRow w.heap.size 5 1 u bs.length (bytesC bs) /\ Below w.heap.size w w' := by
 obtain ⟨A, cap, rfl, h2, h3, h4, h5⟩ := h
 cases A with
 | none =>
   have hc := h4 rfl
   have h0 : bs.length = 0 := by omega
   have hb : bs = [] := List.eq_nil_of_length_eq_zero h0
   subst hb hc
   refine (cloneB_nil w).mono ?_
   rintro e w' ⟨rfl, rfl⟩
   exact ⟨_, rfl, ⟨rfl, .inl ⟨rfl, rfl⟩⟩, Below.refl _ _⟩
 | some ad => exact cloneB_any ad cap bs w h5 hl
end Go.Proofs.YtffffjngodinnaaGreatDoor
end
section
namespace Go.Proofs.YtffffjngodinnaaGreatDoor.Abs
abbrev Name := List UInt8
def segs : List UInt8 -> List Name
 | [] => [[]]
 | c :: l => if c = 47 then [] :: segs l else match segs l with
   | [] => [[c]]
   | h :: t => (c :: h) :: t
def parts (path : List UInt8) : List Name := (segs path).filter fun p => !p.isEmpty
def dot : Name := [46]
def dotdot : Name := [46, 46]
def named (s : Name) : Bool := !s.isEmpty && s.length <= 32 && !(s == dot) && !(s == dotdot) && !(s.any fun c => c == 47 || c == 0)
def nlt : Name -> Name -> Bool
 | [], [] => false
 | [], _ :: _ => true
 | _ :: _, [] => false
 | a :: l, b :: m => if a < b then true else if b < a then false else nlt l m
structure Ent where
 dir : Bool
 mode : Int
 tick : Int
 data : List UInt8 := []
 names : List (Name × Nat) := []
 up : Nat := 0
 held : Nat := 0
def lk : List (Name × Nat) -> Name -> Option Nat
 | [], _ => none
 | (m, i) :: l, n => if n = m then some i else lk l n
def ins (n : Name) (j : Nat) : List (Name × Nat) -> List (Name × Nat)
 | [] => [(n, j)]
 | (m, i) :: l => if nlt n m then (n, j) :: (m, i) :: l else (m, i) :: ins n j l
structure T where
 ents : List (Nat × Ent)
 next : Nat
def geti : List (Nat × Ent) -> Nat -> Option Ent
 | [], _ => none
 | (j, x) :: l, i => if i = j then some x else geti l i
def T.get (t : T) (i : Nat) : Option Ent := geti t.ents i
def seti (l : List (Nat × Ent)) (i : Nat) (f : Ent -> Ent) : List (Nat × Ent) := l.map fun p => if p.1 = i then (p.1, f p.2) else p
def T.set (t : T) (i : Nat) (f : Ent -> Ent) : T := { t with ents := seti t.ents i f }
def T.isDir (t : T) (i : Nat) : Bool := match t.get i with | some x => x.dir | none => false
def emptyT : T := { ents := [(1, { dir := true, mode := 493, tick := 0, up := 1 })], next := 2 }
def T.step (t : T) (i : Nat) (p : Name) : Except Nat Nat := match t.get i with
 | none => .error 99
 | some x => if x.dir = false then .error 3 else if p = dot then .ok i else if p = dotdot then .ok x.up
   else if named p = false then .error 13 else match lk x.names p with
    | none => .error 1
    | some j => .ok j
def T.leads (t : T) : Nat -> List Name -> Except Nat Nat
 | i, [] => .ok i
 | i, p :: ps => match t.step i p with
   | .error e => .error e
   | .ok j => t.leads j ps
theorem T.leads_cons (t : T) (i : Nat) (p : Name) (ps : List Name) : t.leads i (p :: ps) = match t.step i p with
 | .error e => Except.error e
 | .ok j => t.leads j ps := rfl
def T.start (t : T) (cwd path : List UInt8) : Except Nat Nat := match t.leads 1 (parts cwd) with
 | .error e => .error e
 | .ok i => if t.isDir i = false then .error 3 else match path with
   | [] => .error 1
   | c :: _ => if c = 47 then .ok 1 else .ok i
def slash (path : List UInt8) : Bool := path.getLast? == some 47
def T.look (t : T) (cwd path : List UInt8) : Except Nat Nat := match t.start cwd path with
 | .error e => .error e
 | .ok i => match t.leads i (parts path) with
   | .error e => .error e
   | .ok j => if slash path && !t.isDir j then .error 3 else .ok j
def T.links (t : T) (j : Nat) : Nat := (t.ents.map fun p => p.2.names.countP fun q => q.2 == j).sum
def T.many (t : T) : Nat := (t.ents.map fun p => p.2.names.length).sum
def T.place (t : T) (cwd path : List UInt8) : Except Nat (Option (Nat × Name)) := match t.start cwd path with
 | .error e => .error e
 | .ok i => match (parts path).getLast? with
   | none => .ok none
   | some last => match t.leads i (parts path).dropLast with
     | .error e => .error e
     | .ok d => if t.isDir d = false then .error 3 else if last = dot \/ last = dotdot then .ok none else if named last = false then .error 13 else .ok (some (d, last))
def T.depthN (t : T) : Nat -> Nat -> Nat
 | 0, _ => 0
 | k + 1, i => if i = 1 then 0 else match t.get i with
   | none => 0
   | some x => 1 + t.depthN k x.up
def T.depth (t : T) (i : Nat) : Nat := t.depthN 11 i
def T.may (t : T) (cwd path : List UInt8) (dir : Bool) : Except Nat (Nat × Name) := match t.place cwd path with
 | .error e => .error e
 | .ok none => .error 2
 | .ok (some (d, n)) => match t.get d with
   | none => .error 99
   | some x => if (lk x.names n).isSome then .error 2 else if slash path && !dir then .error 3 else if 10 <= t.depth d then .error 14 else if 200 <= t.many then .error 12 else .ok (d, n)
def nine (mode : Int) : Int := mode % 512
structure T.WF (t : T) : Prop where
 nodup : (t.ents.map (·.1)).Nodup
 root : ∃ x, t.get 1 = some x /\ x.dir = true /\ x.up = 1
 lt : ∀ i x, t.get i = some x -> 0 < i /\ i < t.next
 live : ∀ i x n j, t.get i = some x -> lk x.names n = some j -> j ≠ 1 /\ ∃ y, t.get j = some y
 file : ∀ i x, t.get i = some x -> x.dir = false -> x.names = []
 sorted : ∀ i x, t.get i = some x -> x.names.Pairwise (fun a b => nlt a.1 b.1 = true)
 up : ∀ i x, t.get i = some x -> x.dir = true -> ∃ y, t.get x.up = some y /\ y.dir = true
 rank : ∃ dp : Nat -> Nat, dp 1 = 0 /\ ∀ i x, t.get i = some x -> x.dir = true -> i ≠ 1 -> dp i = dp x.up + 1 /\ dp i <= 10
theorem emptyT_get {i : Nat} {x : Ent} (h : emptyT.get i = some x) : i = 1 /\ x = { dir := true, mode := 493, tick := 0, up := 1 } := by
 simp only [emptyT, T.get, geti] at h
 split at h
 · rename_i h1; injection h with h; exact ⟨h1, h.symm⟩
 · cases h
theorem emptyT_wf : emptyT.WF := by
 refine ⟨by simp [emptyT], ⟨_, rfl, rfl, rfl⟩, ?_, ?_, ?_, ?_, ?_, ⟨fun _ => 0, rfl, ?_⟩⟩
 · intro i x h; obtain ⟨rfl, rfl⟩ := emptyT_get h; simp [emptyT]
 · intro i x n j h hl; obtain ⟨rfl, rfl⟩ := emptyT_get h; simp [lk] at hl
 · intro i x h; obtain ⟨rfl, rfl⟩ := emptyT_get h; simp
 · intro i x h; obtain ⟨rfl, rfl⟩ := emptyT_get h; exact List.Pairwise.nil
 · intro i x h _; obtain ⟨rfl, rfl⟩ := emptyT_get h; exact ⟨_, rfl, rfl⟩
 · intro i x h _ h1; obtain ⟨rfl, rfl⟩ := emptyT_get h; exact absurd rfl h1
theorem T.step_ne0 {t : T} {i e : Nat} {p : Name} (h : t.step i p = .error e) : e ≠ 0 := by
 unfold T.step at h
 repeat' split at h
 all_goals (cases h <;> decide)
theorem T.leads_ne0 {t : T} {e : Nat} : ∀ {l : List Name} {i : Nat}, t.leads i l = .error e -> e ≠ 0
 | [], i, h => by simp [T.leads] at h
 | p :: ps, i, h => by
   rw [T.leads_cons] at h
   split at h
   · rename_i e' he; injection h with h; subst h; exact T.step_ne0 he
   · exact T.leads_ne0 h
theorem T.start_ne0 {t : T} {e : Nat} {cwd path : List UInt8} (h : t.start cwd path = .error e) : e ≠ 0 := by
 unfold T.start at h
 repeat' split at h
 · rename_i e' he; injection h with h; subst h; exact T.leads_ne0 he
 all_goals (cases h <;> decide)
theorem T.look_ne0 {t : T} {e : Nat} {cwd path : List UInt8} (h : t.look cwd path = .error e) : e ≠ 0 := by
 unfold T.look at h
 repeat' split at h
 · rename_i e' he; injection h with h; subst h; exact T.start_ne0 he
 · rename_i e' he; injection h with h; subst h; exact T.leads_ne0 he
 all_goals (cases h <;> decide)
section
variable {t : T} {i j : Nat} {x : Ent} {e : Nat}
theorem T.WF.step_live (h : t.WF) {p : Name} (hx : t.get i = some x) (hs : t.step i p = .ok j) : ∃ y, t.get j = some y := by
 unfold T.step at hs
 rw [hx] at hs
 simp only at hs
 split at hs
 · cases hs
 · rename_i hd
   split at hs
   · injection hs with hs; subst hs; exact ⟨x, hx⟩
   · split at hs
     · injection hs with hs; subst hs
       obtain ⟨y, hy, _⟩ := h.up i x hx (by simpa using hd)
       exact ⟨y, hy⟩
     · split at hs
       · cases hs
       · split at hs
         · cases hs
         · rename_i k hk
           injection hs with hs; subst hs
           exact (h.live i x p _ hx hk).2
theorem T.WF.leads_live (h : t.WF) : ∀ (ps : List Name) (i : Nat), (∃ x, t.get i = some x) -> t.leads i ps = .ok j -> ∃ y, t.get j = some y := by
 intro ps
 induction ps with
 | nil => intro i hi hl; simp only [T.leads, Except.ok.injEq] at hl; subst hl; exact hi
 | cons p ps ih =>
   rintro i ⟨x, hx⟩ hl
   unfold T.leads at hl
   split at hl
   · cases hl
   · rename_i k hk
     exact ih k (h.step_live hx hk) hl
theorem T.WF.root_live (h : t.WF) : ∃ x, t.get 1 = some x := by obtain ⟨x, hx, _⟩ := h.root; exact ⟨x, hx⟩
theorem isDir_of {t : T} {i : Nat} (h : t.isDir i = true) : ∃ x, t.get i = some x /\ x.dir = true := by
 unfold T.isDir at h
 split at h
 · exact ⟨_, by assumption, h⟩
 · cases h
theorem T.WF.root_dir (h : t.WF) : t.isDir 1 = true := by obtain ⟨x, hx, hd, _⟩ := h.root; simp [T.isDir, hx, hd]
theorem T.WF.start_dir (h : t.WF) {cwd path : List UInt8} (hs : t.start cwd path = .ok i) : t.isDir i = true := by
 unfold T.start at hs
 split at hs
 · cases hs
 · split at hs
   · cases hs
   · rename_i j _ hd
     split at hs
     · cases hs
     · split at hs <;> (injection hs with hs; subst hs)
       · exact h.root_dir
       · simpa using hd
theorem T.WF.look_live (h : t.WF) {cwd path : List UInt8} (hs : t.look cwd path = .ok j) : ∃ y, t.get j = some y := by
 unfold T.look at hs
 split at hs
 · cases hs
 · rename_i k hk
   obtain ⟨z, hz, _⟩ := isDir_of (h.start_dir hk)
   split at hs
   · cases hs
   · rename_i m hm
     split at hs
     · cases hs
     · injection hs with hs; subst hs
       exact h.leads_live _ _ ⟨z, hz⟩ hm
end
end Go.Proofs.YtffffjngodinnaaGreatDoor.Abs
end
