/-
  Parts that the claims share: Maps whose elements are whatever values (pointers, interface values): a map as a function from keys to values; Words for memory and small lemmas, of no program: blocks that the guide lays out for copying (howto/extra-words.md, sections 1 to 3; howto/extra-small.md, sections 2, 4, 9), under this claim's namespace; A slice of one-cell elements that begins somewhere in a block of its own: cut at its front, appended to. And worlds of which a few blocks alone have turned. Of no program; The kernel in memory; walks over its small functions: add, fault, short, has; What a type assertion on an open th.
-/
import Derived.Maps.Own
import Derived.Maps.OwnSet
import Derived.Maps.Keyed
import Derived.Maps.OwnOps
import Derived.Below
import Derived.Laws.OwnMore
import Derived.Deep.AppendLies
import Derived.Deep.Draws
import Derived.Deep.OwnRows
import Derived.Laws.Rows
import Derived.Laws.AppendOwn
import Derived.Maps.AppendAt
import Derived.RegionTactic
import Derived.OwnWalk
import Derived.Deep.QuietTactic
import Derived.ChangeSame
import Derived.Laws.Slices
import Derived.Laws.Entries
import Derived.Test.YtlhiadnolckoeaaGreatDoorChecked
import Derived.Laws.LoneSync
import Derived.IntWalk
import Derived.Lib.OwnKind
import Derived.Lib.SmallJoins
import Derived.OneCell
import Derived.WalkKit
import Derived.WalkSpells
import Derived.WalkLawsBesides
import Derived.Lib.Hide
import Derived.Handy
import Derived.BigQuiet
import Derived.Lib.SliceRun
import Derived.Deep.RegionWith
import Derived.StillTailTactics
import Derived.Deep.RegionLaw
import Derived.BigRegion
import Derived.Deep.DrawnRows

section
namespace Go.Proofs.YtlhiadnolckoeaaGreatDoor
open Go.Maps Go.ChangeMaps

/-- an element as it stands -/
def heldE (v : Value) : Option (DataW Value × List MemPlace) := some (.held v, [])
/-- block b is a map of at most n entries, which holds what f says -/
def MapOf (w : World) (P : Program) (k : TypeId) (b n : Nat) (f : Lit → Option Value) : Prop :=
  ∃ D : DataW Value, w.ownsMap P k heldE b n D ∧ ∀ kl, (f kl = none → has D kl = false) ∧ ∀ v, f kl = some v → has D kl = true ∧ ∀ z, D.atKey kl z = .held v

section
variable {P : Program} {w w' : World} {k t e : TypeId} {b n : Nat} {f : Lit → Option Value} {key val z : Value} {kl : Lit}
theorem MapOf.made (w : World) (P : Program) (k : TypeId) : MapOf (w.alloc (.map #[] 0)) P k w.heap.size 0 (fun _ => none) :=
  ⟨.map [], World.ownsMap_made w P k heldE, fun kl => ⟨fun _ => rfl, fun v h => by cases h⟩⟩
theorem MapOf.lt (h : MapOf w P k b n f) : b < w.heap.size := by obtain ⟨D, h1, _⟩ := h; exact h1.lt
theorem MapOf.kept {row : Option Nat} (h : MapOf w P k b n f) (hg : w.grownBy w' row) (hne : some b ≠ row) : MapOf w' P k b n f := by
  obtain ⟨D, h1, h2⟩ := h; exact ⟨D, h1.kept hg hne, h2⟩
theorem MapOf.same (h : MapOf w P k b n f) (hb : w'.heap[b]? = w.heap[b]?) : MapOf w' P k b n f := by
  obtain ⟨D, ⟨es, clock, h0, h1⟩, h2⟩ := h
  exact ⟨D, ⟨es, clock, hb.trans h0, h1⟩, h2⟩
theorem MapOf.drew (h : MapOf w P k b n f) : MapOf w.drew P k b n f := h
theorem MapOf.mono {m : Nat} (h : MapOf w P k b n f) (hm : n ≤ m) : MapOf w P k b m f := by
  obtain ⟨D, h1, h2⟩ := h; exact ⟨D, h1.mono hm, h2⟩

theorem MapOf.look (h : MapOf w P k b n f) (K : Keyed P k) (ht : P.underlying t = some (.map k e)) (hz : (zeroValue e).run P w = .ok z w) (hkey : keyOf P k key = some kl) :
    (Instr.lookup t (.map (some b)) key true).run P w = .ok (.tuple #[(f kl).getD z, .bool (f kl).isSome]) w := by
  obtain ⟨D, h1, h2⟩ := h
  obtain ⟨v, ps, hrun, hv⟩ := h1.look_ok K ht hz (zd := .held z) (zp := []) rfl hkey
  rw [hrun]
  simp only [heldE, Option.some.injEq, Prod.mk.injEq] at hv
  cases hf : f kl with
  | none =>
    have h3 := (h2 kl).1 hf
    rw [atKey_of_not_has h3] at hv
    obtain ⟨h4, _⟩ := hv
    cases h4
    rw [h3]; rfl
  | some u =>
    obtain ⟨h3, h4⟩ := (h2 kl).2 u hf
    rw [h4] at hv
    obtain ⟨h5, _⟩ := hv
    cases h5
    rw [h3]; rfl
theorem MapOf.look1 (h : MapOf w P k b n f) (K : Keyed P k) (ht : P.underlying t = some (.map k e)) (hz : (zeroValue e).run P w = .ok z w) (hkey : keyOf P k key = some kl) :
    (Instr.lookup t (.map (some b)) key false).run P w = .ok ((f kl).getD z) w := by
  obtain ⟨D, h1, h2⟩ := h
  obtain ⟨v, ps, hrun, hv⟩ := h1.lookup K ht hz (zd := .held z) (zp := []) rfl hkey
  rw [hrun]
  simp only [heldE, Option.some.injEq, Prod.mk.injEq] at hv
  cases hf : f kl with
  | none =>
    rw [atKey_of_not_has ((h2 kl).1 hf)] at hv
    obtain ⟨h4, _⟩ := hv
    cases h4
    rfl
  | some u =>
    rw [((h2 kl).2 u hf).2] at hv
    obtain ⟨h5, _⟩ := hv
    cases h5
    rfl

open Classical in
/-- a map with one entry turned -/
noncomputable def upd (f : Lit → Option Value) (kl : Lit) (v : Option Value) : Lit → Option Value := fun x => if x = kl then v else f x
theorem upd_same (f : Lit → Option Value) (kl : Lit) (v : Option Value) : upd f kl v kl = v := if_pos rfl
theorem upd_other (f : Lit → Option Value) {kl x : Lit} (v : Option Value) (h : x ≠ kl) : upd f kl v x = f x := if_neg h

theorem MapOf.store (h : MapOf w P k b n f) (K : Keyed P k) (ht : P.underlying t = some (.map k e)) (hn : n < maxLen) (hkey : keyOf P k key = some kl) (hkl : WideAt.IsKeyLit kl) :
    ∃ w', (Instr.mapUpdate t (.map (some b)) key val).run P w = .ok () w' ∧ MapOf w' P k b (n + 1) (upd f kl (some val)) ∧ w.grownBy w' (some b) := by
  obtain ⟨D, h1, h2⟩ := h
  obtain ⟨w', hrun, h3, h4⟩ := h1.update K ht hn (val := val) (d := .held val) (ps := []) hkey rfl
  refine ⟨w', hrun, ⟨_, h3, fun x => ?_⟩, h4⟩
  by_cases hx : x = kl
  · subst hx
    rw [upd_same]
    refine ⟨fun e => (by cases e), fun v hv => ?_⟩
    cases hv
    exact ⟨has_put_same h1.isMap hkl _, fun z => atKey_put_same h1.isMap hkl _ z⟩
  · rw [upd_other f _ hx, has_put_other hx]
    refine ⟨(h2 x).1, fun v hv => ⟨((h2 x).2 v hv).1, fun z => ?_⟩⟩
    rw [atKey_put_other hx]
    exact ((h2 x).2 v hv).2 z

theorem MapOf.drop (h : MapOf w P k b n f) (K : Keyed P k) (ht : P.underlying t = some (.map k e)) (hkey : keyOf P k key = some kl) (ty : TypeId) :
    ∃ w', (Builtin.delete_ #[t, k] ty #[.map (some b), key]).run P w = .ok (.tuple #[]) w' ∧ MapOf w' P k b n (upd f kl none) ∧ w.grownBy w' (some b) := by
  obtain ⟨D, h1, h2⟩ := h
  obtain ⟨w', hrun, h3, h4⟩ := h1.drop K ht hkey ty
  refine ⟨w', hrun, ⟨_, h3, fun x => ?_⟩, h4.grown⟩
  by_cases hx : x = kl
  · subst hx
    rw [upd_same]
    exact ⟨fun _ => has_del_same, fun v hv => by cases hv⟩
  · rw [upd_other f _ hx, has_del_other hx]
    refine ⟨(h2 x).1, fun v hv => ⟨((h2 x).2 v hv).1, fun z => ?_⟩⟩
    rw [atKey_del_other hx]
    exact ((h2 x).2 v hv).2 z
end

section
variable {P : Program} (w : World) {ops : Array Oper} {rest : List Oper} {o : Oper} {a : Act} {Q : Exit → Act → World → Prop}
/-- 'v, ok := m[k]' -/
theorem wpList_look_of (hg : o.guard = none) (m x : Operand) (t : TypeId) (hop : o.op = Op.lookup t m x true) (k e : TypeId) (K : Keyed P k) (ht : P.underlying t = some (.map k e)) (z : Value) (hz : (zeroValue e).run P w = .ok z w) (b n : Nat) (f : Lit → Option Value)
    (hm : a.eval m = .map (some b)) (h : MapOf w P k b n f) (key : Value) (kl : Lit) (hx : a.eval x = key) (hkey : keyOf P k key = some kl)
    (hK : wpList P ops Q rest (a.put o.dst (.tuple #[(f kl).getD z, .bool (f kl).isSome])) w) : wpList P ops Q (o :: rest) a w := by
  refine wpList_plain hg fun K' hK' => ?_
  have hrun := h.look K ht hz hkey
  unfold Oper.wp
  simp [execOp, hop, hm, hx, hrun, Result.andThen]
  exact hK' _ _ hK
/-- 'm[k]' -/
theorem wpList_look1_of (hg : o.guard = none) (m x : Operand) (t : TypeId) (hop : o.op = Op.lookup t m x false) (k e : TypeId) (K : Keyed P k) (ht : P.underlying t = some (.map k e)) (z : Value) (hz : (zeroValue e).run P w = .ok z w) (b n : Nat) (f : Lit → Option Value)
    (hm : a.eval m = .map (some b)) (h : MapOf w P k b n f) (key : Value) (kl : Lit) (hx : a.eval x = key) (hkey : keyOf P k key = some kl)
    (hK : wpList P ops Q rest (a.put o.dst ((f kl).getD z)) w) : wpList P ops Q (o :: rest) a w := by
  refine wpList_plain hg fun K' hK' => ?_
  have hrun := h.look1 K ht hz hkey
  unfold Oper.wp
  simp [execOp, hop, hm, hx, hrun, Result.andThen]
  exact hK' _ _ hK
/-- 'm[k] = v' -/
theorem wpList_store_of (hg : o.guard = none) (m x v : Operand) (t : TypeId) (hop : o.op = Op.mapUpdate t m x v) (k e : TypeId) (K : Keyed P k) (ht : P.underlying t = some (.map k e)) (b n : Nat) (f : Lit → Option Value)
    (hm : a.eval m = .map (some b)) (h : MapOf w P k b n f) (hn : n < maxLen) (key val : Value) (kl : Lit) (hx : a.eval x = key) (hv : a.eval v = val) (hkey : keyOf P k key = some kl) (hkl : WideAt.IsKeyLit kl)
    (hK : ∀ w', MapOf w' P k b (n + 1) (upd f kl (some val)) → w.grownBy w' (some b) → wpList P ops Q rest (a.put o.dst undef) w') : wpList P ops Q (o :: rest) a w := by
  refine wpList_plain hg fun K' hK' => ?_
  obtain ⟨w', hrun, r1, r2⟩ := h.store K ht hn (val := val) hkey hkl
  unfold Oper.wp
  simp [execOp, hop, hm, hx, hv, hrun, Result.andThen]
  exact hK' _ _ (hK w' r1 r2)
/-- 'delete(m, k)' -/
theorem wpList_drop_of (hg : o.guard = none) (m x : Operand) (t k : TypeId) (hop : o.op = Op.call { callee := Callee.builtin Builtin.delete, args := #[m, x], argTypes := #[t, k] }) (e : TypeId) (K : Keyed P k) (ht : P.underlying t = some (.map k e)) (b n : Nat) (f : Lit → Option Value)
    (hm : a.eval m = .map (some b)) (h : MapOf w P k b n f) (key : Value) (kl : Lit) (hx : a.eval x = key) (hkey : keyOf P k key = some kl)
    (hK : ∀ w', MapOf w' P k b n (upd f kl none) → w.grownBy w' (some b) → wpList P ops Q rest (a.put o.dst (.tuple #[])) w') : wpList P ops Q (o :: rest) a w := by
  refine wpList_plain hg fun K' hK' => ?_
  obtain ⟨w', hrun, r1, r2⟩ := h.drop K ht hkey o.type
  unfold Oper.wp
  simp [execOp, hop, resolve, invoke, builtin, hm, hx, hrun, Result.andThen]
  exact hK' _ _ (hK w' r1 r2)
end

end Go.Proofs.YtlhiadnolckoeaaGreatDoor
end

section
namespace Go.Proofs.YtlhiadnolckoeaaGreatDoor
open Go.RowKit

theorem block_of_add (a : Addr) (n : Nat) : (a.add n).block = a.block := by unfold Addr.add; split <;> rfl
theorem add_of_add (a : Addr) (i j : Nat) : (a.add i).add j = a.add (i + j) := by
  unfold Addr.add
  by_cases hi : i = 0 <;> by_cases hj : j = 0 <;> simp [hi, hj, Nat.add_assoc]

def Reads (w : World) (B size : Nat) (A : Option Addr) (n : Nat) (xs : List Value) : Prop :=
  xs.length = n * size ∧ (0 < n → ∃ ad, A = some ad ∧ ad.block < B ∧ ∀ j u, xs[j]? = some u → w.cell? (ad.add j) = some u)

section
variable {w w' : World} {B B' size n : Nat} {A : Option Addr} {xs : List Value}
theorem Reads.none_ : Reads w B size A 0 [] := ⟨by simp, fun h => absurd h (by omega)⟩
theorem Reads.at_ {k : Nat} (h : Reads w B 1 A n xs) (hk : k < n) : ∃ ad u, A = some ad ∧ ad.block < B ∧ xs[k]? = some u ∧ w.cell? (ad.add k) = some u := by
  obtain ⟨ad, e, hb, hc⟩ := h.2 (by omega)
  have hl : k < xs.length := by have := h.1; omega
  exact ⟨ad, xs[k], e, hb, List.getElem?_eq_getElem hl, hc k _ (List.getElem?_eq_getElem hl)⟩
theorem Reads.keep (h : Reads w B size A n xs) (hk : ∀ p : Addr, p.block < B → w'.cell? p = w.cell? p) : Reads w' B size A n xs :=
  ⟨h.1, fun hn => by
    obtain ⟨ad, e, hb, hc⟩ := h.2 hn
    exact ⟨ad, e, hb, fun j u hu => (hk _ (by rw [block_of_add]; exact hb)).trans (hc j u hu)⟩⟩
theorem Reads.more (h : Reads w B size A n xs) (hB : B ≤ B') : Reads w B' size A n xs :=
  ⟨h.1, fun hn => by
    obtain ⟨ad, e, hb, hc⟩ := h.2 hn
    exact ⟨ad, e, by omega, hc⟩⟩
theorem Reads.below (h : Reads w B size A n xs) (hb : Below B w w') : Reads w' B size A n xs := h.keep fun _ hp => hb.cell hp
theorem Reads.drew (h : Reads w B size A n xs) : Reads w.drew B size A n xs := h
theorem Reads.drewN (h : Reads w B size A n xs) (k : Nat) : Reads (w.drewN k) B size A n xs := h
theorem Reads.alloc (h : Reads w B size A n xs) (hB : B ≤ w.heap.size) (o : Obj) : Reads (w.alloc o) B size A n xs := h.keep fun p hp => World.cell?_alloc_lt w o p (by omega)
theorem Reads.setCell (h : Reads w B size A n xs) {p : Addr} (hB : B ≤ p.block) (u : Value) : Reads (w.setCell p u) B size A n xs :=
  h.keep fun q hq => World.cell?_setCell_other w p q u (fun e => by subst e; omega)
theorem Reads.grown (h : Reads w B size A n xs) {row : Option Nat} (hg : w.grownBy w' row) (hB : B ≤ w.heap.size) (hr : ∀ g, row = some g → B ≤ g) : Reads w' B size A n xs :=
  h.keep fun p hp => World.cell?_of_block (hg.block p.block (by omega) (fun e => by have := hr _ e.symm; omega))
theorem Reads.cut (h : Reads w B size A n xs) {k cap : Nat} (hk : k ≤ n) (hc : n ≤ cap) :
    Reads w B size (if cap = k then A else A.map (·.add (k * size))) (n - k) (xs.drop (k * size)) := by
  refine ⟨by rw [List.length_drop, h.1, Nat.sub_mul], fun hn => ?_⟩
  obtain ⟨ad, rfl, hb, hcell⟩ := h.2 (by omega)
  rw [if_neg (by omega)]
  refine ⟨ad.add (k * size), rfl, by rw [block_of_add]; exact hb, fun j u hu => ?_⟩
  rw [add_of_add]
  exact hcell _ u (by rw [← hu, List.getElem?_drop])
theorem Reads.of_own {base : Nat} {e : TypeId} {c : Nat} (h : w.ownsRow base e size (.slice A n c) n xs) : Reads w w.heap.size size A n xs := by
  refine ⟨h.1, fun hn => ?_⟩
  obtain ⟨g, cap, hv, _, hlt⟩ := h.form hn
  have hA : A = some ⟨g, 0, none⟩ := by injection hv
  subst hA
  exact ⟨_, rfl, hlt, h.cells (g := g) rfl⟩
end

def Blk (w : World) (g : Nat) (t : TypeId) (cs : Array Value) : Prop := w.heap[g]? = some (.cells cs t (0, 0))

section
variable {w w' : World} {g : Nat} {t : TypeId} {cs : Array Value}
theorem Blk.lt (h : Blk w g t cs) : g < w.heap.size := by
  rcases Nat.lt_or_ge g w.heap.size with hlt | hge
  · exact hlt
  · unfold Blk at h; rw [Array.getElem?_eq_none hge] at h; cases h
theorem Blk.cell (h : Blk w g t cs) (i : Nat) : w.cell? ⟨g, i, none⟩ = cs[i]? := cell_of_row w g i cs t (0, 0) h
theorem Blk.frozen (h : Blk w g t cs) (i : Nat) : w.frozen? ⟨g, i, none⟩ = false := by
  unfold Blk at h
  simp [World.frozen?, h]
theorem Blk.new (w : World) (t : TypeId) (cs : Array Value) : Blk (w.alloc (.cells cs t)) w.heap.size t cs := heap_alloc_new w _
theorem Blk.drew (h : Blk w g t cs) : Blk w.drew g t cs := h
theorem Blk.drewN (h : Blk w g t cs) (n : Nat) : Blk (w.drewN n) g t cs := h
theorem Blk.alloc (h : Blk w g t cs) (o : Obj) : Blk (w.alloc o) g t cs := (Below.heap_alloc w o g h.lt).trans h
theorem Blk.set_ (h : Blk w g t cs) (i : Nat) (u : Value) : Blk (w.setCell ⟨g, i, none⟩ u) g t (cs.setIfInBounds i u) := by
  unfold Blk at h ⊢
  simp [World.setCell, Array.getElem?_modify, h]
theorem Blk.far (h : Blk w g t cs) {p : Addr} (hp : g ≠ p.block) (u : Value) : Blk (w.setCell p u) g t cs := (Below.heap_setCell w p u g hp).trans h
theorem Blk.below {B : Nat} (h : Blk w g t cs) (hb : Below B w w') (hg : g < B) : Blk w' g t cs := (hb.block g hg).trans h
theorem Blk.grown {row : Option Nat} (h : Blk w g t cs) (hb : w.grownBy w' row) (hg : some g ≠ row) : Blk w' g t cs := (hb.block g h.lt hg).trans h
theorem Blk.ne_ {g' : Nat} {t' : TypeId} {cs' : Array Value} (h : Blk w g t cs) (h' : Blk w g' t' cs') (hne : t ≠ t') : g ≠ g' := by
  rintro rfl
  unfold Blk at h h'
  rw [h] at h'
  injection h' with h'
  injection h' with _ ht
  exact hne ht
theorem own_blk_ne {base : Nat} {e : TypeId} {size n : Nat} {v : Value} {xs : List Value} (h : w.ownsRow base e size v n xs) (hg : Blk w g t cs) (hne : e ≠ t) : v.ownBlock ≠ some g := by
  rcases h.2 with ⟨rfl, _⟩ | ⟨g', cap, cur, rfl, _, hh, _⟩
  · simp [Value.ownBlock]
  · intro he
    have : g' = g := by simpa [Value.ownBlock] using he
    subst this
    exact Blk.ne_ (t := e) hh hg hne rfl
end

section
variable {P : Program} (w : World)

theorem run_append_of_nil (base : Nat) (t ty e : TypeId) (i : TypeInfo) (size : Nat) (ht : P.underlying t = some (.slice e)) (hi : P.info? e = some i)
    (v : Value) (n : Nat) (xs : List Value) (hown : w.ownsRow base e size v n xs) (c : Nat) : (Builtin.append_ #[t, t] ty #[v, .slice none 0 c]).run P w = .ok v w := by
  rcases hown.2 with ⟨rfl, rfl⟩ | ⟨g, cap, cur, rfl, _, _, hnc, _⟩
  · simp [Builtin.append_, run_underlying ht, sizeOf, typeInfo, hi, Builtin.lenOf, Builtin.firstCells]
  · simp [Builtin.append_, run_underlying ht, sizeOf, typeInfo, hi, Builtin.lenOf, Builtin.firstCells, hnc, storeCells]

theorem run_append_any (base : Nat) (t ty e : TypeId) (i : TypeInfo) (z : Value) (size bytes : Nat) (ht : P.underlying t = some (.slice e)) (hi : P.info? e = some i) (hz : i.zero = some z)
    (hsize : i.size = size) (hby : i.bytes = bytes) (hzs : z.cells.size = size) (hsz : 0 < size)
    (v : Value) (n : Nat) (xs : List Value) (hown : w.ownsRow base e size v n xs)
    (B : Nat) (A : Option Addr) (m c : Nat) (news : List Value) (hr : Reads w B size A m news) (h1 : ∀ u ∈ news, u.oneCell' = true)
    (h63 : n + m ≤ maxLen) (hbytes : (n + m) * bytes ≤ 140737488355328) (hbase : base ≤ w.heap.size) :
    ∃ v' w', (Builtin.append_ #[t, t] ty #[v, .slice A m c]).run P w = .ok v' w' ∧ w'.ownsRow base e size v' (n + m) (xs ++ news) ∧ w.grownBy w' v.ownBlock ∧
      (v'.ownBlock = v.ownBlock ∨ v'.ownBlock = some w.heap.size) := by
  rcases A with _ | ad
  · have hm : m = 0 := by
      rcases Nat.eq_zero_or_pos m with h0 | h0
      · exact h0
      · obtain ⟨ad, h, _⟩ := hr.2 h0
        cases h
    subst hm
    have hn : news = [] := List.eq_nil_of_length_eq_zero (by simpa using hr.1)
    subst hn
    exact ⟨v, w, run_append_of_nil w base t ty e i size ht hi v n xs hown c, by simpa using hown, World.grownBy.refl w _, .inl rfl⟩
  · have hcells : ∀ j u, news[j]? = some u → w.cell? (ad.add j) = some u := by
      intro j u hu
      rcases Nat.eq_zero_or_pos m with h0 | h0
      · subst h0
        have hn : news = [] := List.eq_nil_of_length_eq_zero (by simpa using hr.1)
        subst hn
        simp at hu
      · obtain ⟨ad', h, _, hc⟩ := hr.2 h0
        injection h with h
        subst h
        exact hc j u hu
    obtain ⟨v', w', hrun, h2, h3, _, h5⟩ := run_append_own_at (P := P) w base t ty e i z size bytes ht hi hz hsize hby hzs hsz v n xs hown ad m c news hr.1 hcells h1 h63 hbytes hbase
    exact ⟨v', w', hrun, h2, h3, h5⟩

theorem wp_append_any {o : Oper} {a : Act} {K : Act → World → Prop} {Q : Exit → Act → World → Prop} (s x : Operand) (t : TypeId)
    (ho : o.op = .call { callee := .builtin .append, args := #[s, x], argTypes := #[t, t] })
    (base : Nat) (e : TypeId) (i : TypeInfo) (z : Value) (size bytes : Nat) (ht : P.underlying t = some (.slice e)) (hi : P.info? e = some i) (hz : i.zero = some z)
    (hsize : i.size = size) (hby : i.bytes = bytes) (hzs : z.cells.size = size) (hsz : 0 < size)
    (v : Value) (n : Nat) (xs : List Value) (hs : a.eval s = v) (hown : w.ownsRow base e size v n xs)
    (B : Nat) (A : Option Addr) (m c : Nat) (news : List Value) (hx : a.eval x = .slice A m c) (hr : Reads w B size A m news) (h1 : ∀ u ∈ news, u.oneCell' = true)
    (h63 : n + m ≤ maxLen) (hbytes : (n + m) * bytes ≤ 140737488355328) (hbase : base ≤ w.heap.size)
    (h : ∀ v' w', w'.ownsRow base e size v' (n + m) (xs ++ news) → w.grownBy w' v.ownBlock → (v'.ownBlock = v.ownBlock ∨ v'.ownBlock = some w.heap.size) → K (a.put o.dst v') w') : o.wp P a w K Q := by
  obtain ⟨v', w', hrun, h2, h3, h4⟩ := run_append_any (P := P) w base t o.type e i z size bytes ht hi hz hsize hby hzs hsz v n xs hown B A m c news hr h1 h63 hbytes hbase
  unfold Oper.wp execOp
  simp only [ho, resolve, invoke, builtin, Sem.run_bind, Sem.run_pure, Result.andThen_ok, List.map_toArray, List.map_cons, List.map_nil, hs, hx, hrun]
  exact h v' w' h2 h3 h4

theorem wpList_append_any {ops : Array Oper} {rest : List Oper} {o : Oper} {a : Act} {Q : Exit → Act → World → Prop} (hgd : o.guard = none) (s x : Operand) (t : TypeId)
    (ho : o.op = .call { callee := .builtin .append, args := #[s, x], argTypes := #[t, t] })
    (base : Nat) (e : TypeId) (i : TypeInfo) (z : Value) (size bytes : Nat) (ht : P.underlying t = some (.slice e)) (hi : P.info? e = some i) (hz : i.zero = some z)
    (hsize : i.size = size) (hby : i.bytes = bytes) (hzs : z.cells.size = size) (hsz : 0 < size)
    (v : Value) (n : Nat) (xs : List Value) (hs : a.eval s = v) (hown : w.ownsRow base e size v n xs)
    (B : Nat) (A : Option Addr) (m c : Nat) (news : List Value) (hx : a.eval x = .slice A m c) (hr : Reads w B size A m news) (h1 : ∀ u ∈ news, u.oneCell' = true)
    (h63 : n + m ≤ maxLen) (hbytes : (n + m) * bytes ≤ 140737488355328) (hbase : base ≤ w.heap.size)
    (h : ∀ v' w', w'.ownsRow base e size v' (n + m) (xs ++ news) → w.grownBy w' v.ownBlock → (v'.ownBlock = v.ownBlock ∨ v'.ownBlock = some w.heap.size) → wpList P ops Q rest (a.put o.dst v') w') : wpList P ops Q (o :: rest) a w :=
  wpList_plain hgd fun _ hK => wp_append_any w s x t ho base e i z size bytes ht hi hz hsize hby hzs hsz v n xs hs hown B A m c news hx hr h1 h63 hbytes hbase fun v' w' h2 h3 h4 => hK _ _ (h v' w' h2 h3 h4)

theorem step_append_any {ops : Array Oper} {o : Oper} {a : Act} {K : Act → World → Prop} {Q : Exit → Act → World → Prop} {E : Prop} (hgd : o.guard = none) (s x : Operand) (t : TypeId)
    (ho : o.op = .call { callee := .builtin .append, args := #[s, x], argTypes := #[t, t] })
    (base : Nat) (e : TypeId) (i : TypeInfo) (z : Value) (size bytes : Nat) (ht : P.underlying t = some (.slice e)) (hi : P.info? e = some i) (hz : i.zero = some z)
    (hsize : i.size = size) (hby : i.bytes = bytes) (hzs : z.cells.size = size) (hsz : 0 < size)
    (v : Value) (n : Nat) (xs : List Value) (hs : a.eval s = v) (hown : w.ownsRow base e size v n xs)
    (B : Nat) (A : Option Addr) (m c : Nat) (news : List Value) (hx : a.eval x = .slice A m c) (hr : Reads w B size A m news) (h1 : ∀ u ∈ news, u.oneCell' = true)
    (h63 : n + m ≤ maxLen) (hbytes : (n + m) * bytes ≤ 140737488355328) (hbase : base ≤ w.heap.size)
    (h : ∀ v' w', w'.ownsRow base e size v' (n + m) (xs ++ news) → w.grownBy w' v.ownBlock → (v'.ownBlock = v.ownBlock ∨ v'.ownBlock = some w.heap.size) → K (a.put o.dst v') w') :
    if Region.wanted o (yielded ops a.tmps) = true then Oper.wp P o a w K Q else E := by
  have hw : Region.wanted o (yielded ops a.tmps) = true := by simp [Region.wanted, hgd]
  rw [if_pos hw]
  exact wp_append_any w s x t ho base e i z size bytes ht hi hz hsize hby hzs hsz v n xs hs hown B A m c news hx hr h1 h63 hbytes hbase h
end

theorem quiet_add {P : Program} {f : FuncId} {args : Array Value} {w : World} {a n : Nat} {v : Value}
    (h : Calls P f args (w.drewN (a + n)) fun e w' => e = .returned v ∧ ∃ m, w' = (w.drewN (a + n)).drewN m) :
    Calls P f args (w.drewN (a + n)) fun e w'' => e = .returned v ∧ ∃ m, w'' = w.drewN (a + m) :=
  h.mono fun _ _ ⟨he, m, hm⟩ => ⟨he, n + m, by rw [hm, World.drewN_drewN, Nat.add_assoc]⟩
theorem quiet_add_same {P : Program} {f : FuncId} {args : Array Value} {w : World} {a n : Nat} {v : Value}
    (h : Calls P f args (w.drewN (a + n)) fun e w' => e = .returned v ∧ w' = w.drewN (a + n)) :
    Calls P f args (w.drewN (a + n)) fun e w'' => e = .returned v ∧ ∃ m, w'' = w.drewN (a + m) :=
  h.mono fun _ _ ⟨he, hm⟩ => ⟨he, n, hm⟩
theorem quiet_add_left {P : Program} {f : FuncId} {args : Array Value} {w : World} {a n : Nat} {v : Value}
    (h : Calls P f args (w.drewN (a + n)) fun e w' => e = .returned v ∧ w.drewN (a + n) = w') :
    Calls P f args (w.drewN (a + n)) fun e w'' => e = .returned v ∧ ∃ m, w'' = w.drewN (a + m) :=
  h.mono fun _ _ ⟨he, hm⟩ => ⟨he, n, hm.symm⟩
theorem quiet_left {P : Program} {f : FuncId} {args : Array Value} {w : World} {n : Nat} {v : Value}
    (h : Calls P f args (w.drewN n) fun e w' => e = .returned v ∧ w.drewN n = w') : Calls P f args (w.drewN n) fun e w'' => e = .returned v ∧ ∃ m, w'' = w.drewN m :=
  h.mono fun _ _ ⟨he, hm⟩ => ⟨he, n, hm.symm⟩

theorem below_drewN {B : Nat} {a w : World} (h : Below B a w) (n : Nat) : Below B a (w.drewN n) := ⟨h.os, h.tape, h.output, h.size, h.block⟩
theorem rowIs_drewN {w : World} {b : Nat} {t : TypeId} {n : Nat} {f : Nat → Value} (h : w.rowIs b t n f) (k : Nat) : (w.drewN k).rowIs b t n f := h
theorem grown_trans {a b c : World} (h : Grown a b) (k : Grown b c) : Grown a c :=
  ⟨World.keptBut_trans h.1 k.1, fun x => (k.2.1 x).trans (h.2.1 x), Nat.le_trans h.2.2 k.2.2⟩

theorem only_drewN {a w : World} {row : Option Nat} (h : a.grownBy w row) (n : Nat) : a.grownBy (w.drewN n) row := ⟨h.os, h.tape, h.output, h.size, h.block⟩
theorem only_drew {a w : World} {row : Option Nat} (h : a.grownBy w row) : a.grownBy w.drew row := ⟨h.os, h.tape, h.output, h.size, h.block⟩
theorem only_alloc {a w : World} {row : Option Nat} (h : a.grownBy w row) (o : Obj) : a.grownBy (w.alloc o) row :=
  ⟨h.os, h.tape, h.output, Nat.le_trans h.size (by simp), fun i hi hne => (Below.heap_alloc w o i (Nat.lt_of_lt_of_le hi h.size)).trans (h.block i hi hne)⟩
theorem only_setCell {a w : World} {g : Nat} (h : a.grownBy w (some g)) {p : Addr} (hp : p.block = g ∨ a.heap.size ≤ p.block) (u : Value) : a.grownBy (w.setCell p u) (some g) :=
  ⟨h.os, h.tape, h.output, by simpa [World.setCell] using h.size, fun i hi hne => (Below.heap_setCell w p u i (by
    rintro rfl
    rcases hp with hp | hp
    · exact hne (by rw [hp])
    · omega)).trans (h.block i hi hne)⟩
theorem only_of_below {a w : World} (h : Below a.heap.size a w) (row : Option Nat) : a.grownBy w row := ⟨h.os, h.tape, h.output, h.size, fun i hi _ => h.block i hi⟩

/-- the address of a slice that is cut at its front: the model's own 'if' behind a name, so that no walk parts on it -/
def cutA (A : Option Addr) (cap l size : Nat) : Option Addr := if cap = l then A else A.map (·.add (l * size))
theorem run_cut {P : Program} (t e : TypeId) (i : TypeInfo) (size : Nat) (ht : P.underlying t = some (.slice e)) (hi : P.info? e = some i) (hs : i.size = size)
    (A : Option Addr) (len cap : Nat) (k : IntKind) (l : Int) (n : Nat) (hl : l = (n : Int)) (hn : n ≤ len) (W : World) :
    (Instr.slice t (.slice A len cap) (some (.int k l)) none none).run P W = .ok (.slice (cutA A cap n size) (len - n) (cap - n)) W := by
  subst hl hs
  have hee : P.elem t = e := by simp only [Program.elem, ht]
  have he : P.underlying t = some (.slice (P.elem t)) := by rw [hee]; exact ht
  simp only [run_slice_l W t A len cap he k n (by omega) (by omega), hee, sizeOf, typeInfo, Sem.run_bind, Sem.run_pure]
  simp [hi, sliced, cutA, go_sem]
theorem Reads.cutA {w : World} {B size n : Nat} {A : Option Addr} {xs : List Value} (h : Reads w B size A n xs) {k cap : Nat} (hk : k ≤ n) (hc : n ≤ cap) :
    Reads w B size (cutA A cap k size) (n - k) (xs.drop (k * size)) := h.cut hk hc

open Go.WideShapes Go.ChangeShapes
section
variable {H : Type} {enc : TypeId × Value → H} {P : Program}
theorem post_of_below {f : Func} {s : ChangeSpec} {apart fresh handsOn again : Bool} {W W' : World} {args : Array Value} {v : Value} {ds gs : List (DataW H)} {before pa pv : List MemPlace}
    (hW : DataW.Whole enc P f.params.toList s.vars apart W args.toList ds gs before)
    (hres : ∀ (b : Nat) (sp : Nat → Bool) (hd : Bool), DataW.TrodAll enc P W' b sp hd f.resultTypes.toList (v.resultList f.resultTypes.size) (s.fn H (ds ++ gs)).results [])
    (hargs : ∀ sp : Nat → Bool, (∀ p ∈ before, sp p.block = true) → DataW.TrodAll enc P W' 0 sp true f.params.toList args.toList (s.fn H (ds ++ gs)).args pa)
    (hvars : ∀ sp : Nat → Bool, (∀ p ∈ before, sp p.block = true) → DataW.TrodVars enc P W' sp s.vars (s.fn H (ds ++ gs)).vars pv)
    (hps : before = pa ++ pv) (hb : Below W.heap.size W W')
    (hok : ∀ (j : Nat) (t : TypeId) (r : Value), f.resultTypes[j]? = some t → (v.resultList f.resultTypes.size)[j]? = some r → Value.okWide P W' .any 0 t r) :
    s.post enc P f apart fresh handsOn again W args v W' := by
  have hlt : ∀ p ∈ before, p.block < W.heap.size := fun p hp => hW.lt p hp
  have hold : ∀ p ∈ before, (fun b => decide (b < W.heap.size)) p.block = true := fun p hp => by simpa using hlt p hp
  refine ⟨ds, gs, before, [], pa, pv, hW, hres _ _ _, hargs _ hold, hvars _ hold, World.keptBut_mono (fun p hp => ⟨hp, ?_⟩) (hb.frame (· ∈ before)), fun _ => ?_⟩
  · rw [hps, List.mem_append] at hp
    exact Or.inr hp
  · obtain ⟨_, _, _, _, _, hz, hn⟩ := hW
    refine ⟨hok, _, _, ([] ++ pa) ++ pv, ⟨[] ++ pa, pv, trodAll_append (hargs _ (fun _ _ => rfl)) (hres _ _ _), hvars _ (fun _ _ => rfl), rfl, ?_, ?_⟩, ?_⟩
    · intro b off hp
      have hin : MemPlace.cell b off ∈ before := by rw [hps]; simpa using hp
      rw [hb.frozen (hlt _ hin)]
      exact hz b off hin
    · intro ha
      have := hn ha
      rw [hps] at this
      simpa using this
    · intro p hp _
      rw [hps]
      simpa using hp
end

end Go.Proofs.YtlhiadnolckoeaaGreatDoor
end

section
namespace Go.Proofs.YtlhiadnolckoeaaGreatDoor
open Go.RowKit

def OffRow (w : World) (base : Nat) (e : TypeId) (v : Value) (n : Nat) (xs : List Value) : Prop :=
  xs.length = n ∧ ((v = .slice none 0 0 ∧ n = 0) ∨
    ∃ g off cap cur, v = .slice (some ⟨g, off, none⟩) n cap ∧ base ≤ g ∧ w.heap[g]? = some (.cells cur e (0, 0)) ∧ n ≤ cap ∧ cap ≤ maxLen ∧ off + cap ≤ cur.size ∧ (cur.toList.drop off).take n = xs)

section
variable {w w' : World} {base n : Nat} {e : TypeId} {v : Value} {xs : List Value}
theorem OffRow.nil (w : World) (base : Nat) (e : TypeId) : OffRow w base e (.slice none 0 0) 0 [] := ⟨rfl, .inl ⟨rfl, rfl⟩⟩
theorem OffRow.of_own (h : w.ownsRow base e 1 v n xs) : OffRow w base e v n xs := by
  refine ⟨by have := h.1; omega, ?_⟩
  rcases h.2 with ⟨rfl, rfl⟩ | ⟨g, cap, cur, rfl, hb, hg, hn, hc, hs, ht⟩
  · exact .inl ⟨rfl, rfl⟩
  · exact .inr ⟨g, 0, cap, cur, rfl, hb, hg, hn, hc, by omega, by simpa using ht⟩
theorem OffRow.form (h : OffRow w base e v n xs) : ∃ A cap, v = .slice A n cap ∧ n ≤ cap ∧ Reads w w.heap.size 1 A n xs := by
  rcases h.2 with ⟨rfl, rfl⟩ | ⟨g, off, cap, cur, rfl, hb, hg, hn, hc, hs, ht⟩
  · exact ⟨none, 0, rfl, Nat.le_refl _, by have := h.1; omega, fun h => absurd h (by omega)⟩
  · refine ⟨_, cap, rfl, hn, by have := h.1; omega, fun _ => ⟨_, rfl, (Array.getElem?_eq_some_iff.1 hg).1, fun j u hu => ?_⟩⟩
    have hj : j < n := by rw [← h.1]; exact (List.getElem?_eq_some_iff.1 hu).1
    have ea : (⟨g, off, none⟩ : Addr).add j = ⟨g, off + j, none⟩ := by unfold Addr.add; split <;> simp_all
    rw [ea, (show Blk w g e cur from hg).cell, ← Array.getElem?_toList]
    rw [← ht, List.getElem?_take, if_pos hj, List.getElem?_drop] at hu
    exact hu
theorem OffRow.kept {row : Option Nat} (h : OffRow w base e v n xs) (hg : w.grownBy w' row) (hne : v = .slice none 0 0 ∨ row ≠ v.ownBlock) : OffRow w' base e v n xs := by
  refine ⟨h.1, ?_⟩
  rcases h.2 with ⟨rfl, rfl⟩ | ⟨g, off, cap, cur, rfl, hb, hgb, hr⟩
  · exact .inl ⟨rfl, rfl⟩
  · refine .inr ⟨g, off, cap, cur, rfl, hb, ?_, hr⟩
    rcases hne with hn | hn
    · cases hn
    · exact (hg.block g (Array.getElem?_eq_some_iff.1 hgb).1 (fun e' => hn (by simp [Value.ownBlock, ← e']))).trans hgb
theorem OffRow.same (h : OffRow w base e v n xs) (hb : ∀ g, v.ownBlock = some g → w'.heap[g]? = w.heap[g]?) : OffRow w' base e v n xs := by
  refine ⟨h.1, ?_⟩
  rcases h.2 with ⟨rfl, rfl⟩ | ⟨g, off, cap, cur, rfl, hbg, hgb, hr⟩
  · exact .inl ⟨rfl, rfl⟩
  · exact .inr ⟨g, off, cap, cur, rfl, hbg, (hb g rfl).trans hgb, hr⟩
theorem OffRow.lt {g : Nat} (h : OffRow w base e v n xs) (hv : v.ownBlock = some g) : base ≤ g ∧ g < w.heap.size := by
  rcases h.2 with ⟨rfl, rfl⟩ | ⟨g', off, cap, cur, rfl, hb, hgb, _⟩
  · simp [Value.ownBlock] at hv
  · obtain rfl : g' = g := by simpa [Value.ownBlock] using hv
    exact ⟨hb, (Array.getElem?_eq_some_iff.1 hgb).1⟩
theorem OffRow.mono {base' : Nat} (h : OffRow w base e v n xs) (hB : base' ≤ base) : OffRow w base' e v n xs := by
  refine ⟨h.1, h.2.imp id ?_⟩
  rintro ⟨g, off, cap, cur, h1, h2, h3⟩
  exact ⟨g, off, cap, cur, h1, by omega, h3⟩
/-- the blocks of two rows of different types differ -/
theorem OffRow.blk_ne {g : Nat} {t : TypeId} {cs : Array Value} (h : OffRow w base e v n xs) (hg : Blk w g t cs) (hne : e ≠ t) : v.ownBlock ≠ some g := by
  rcases h.2 with ⟨rfl, _⟩ | ⟨g', off, cap, cur, rfl, _, hh, _⟩
  · simp [Value.ownBlock]
  · intro he
    obtain rfl : g' = g := by simpa [Value.ownBlock] using he
    exact Blk.ne_ (t := e) hh hg hne rfl
theorem OffRow.cut {A : Option Addr} {cap k : Nat} (h : OffRow w base e (.slice A n cap) n xs) (hk : k ≤ n) : OffRow w base e (.slice (cutA A cap k 1) (n - k) (cap - k)) (n - k) (xs.drop k) := by
  refine ⟨by rw [List.length_drop, h.1], ?_⟩
  rcases h.2 with ⟨hv, hn⟩ | ⟨g, off, cap', cur, hv, hb, hg, hn, hc, hs, ht⟩
  · simp only [Value.slice.injEq] at hv
    obtain ⟨rfl, rfl, rfl⟩ := hv
    obtain rfl : k = 0 := by omega
    exact .inl ⟨by simp [cutA], by omega⟩
  · simp only [Value.slice.injEq] at hv
    obtain ⟨rfl, _, rfl⟩ := hv
    by_cases hck : cap = k
    · refine .inr ⟨g, off, cap - k, cur, by simp [cutA, hck], hb, hg, by omega, by omega, by omega, ?_⟩
      rw [show n - k = 0 by omega, List.take_zero, List.drop_eq_nil_of_le (by rw [h.1]; omega)]
    · refine .inr ⟨g, off + k, cap - k, cur, ?_, hb, hg, by omega, by omega, by omega, ?_⟩
      · have ea : (⟨g, off, none⟩ : Addr).add (k * 1) = ⟨g, off + k, none⟩ := by unfold Addr.add; split <;> simp_all
        simp only [cutA, if_neg hck, Option.map_some, ea]
      · rw [← ht, List.drop_take, List.drop_drop]

theorem run_append_off {P : Program} (w : World) (base : Nat) (t ty e : TypeId) (i : TypeInfo) (z : Value) (bytes : Nat) (ht : P.underlying t = some (.slice e)) (hi : P.info? e = some i) (hz : i.zero = some z)
    (hsize : i.size = 1) (hby : i.bytes = bytes) (hzs : z.cells.size = 1) (v : Value) (n : Nat) (xs : List Value) (hown : OffRow w base e v n xs)
    (B : Nat) (A : Option Addr) (m c : Nat) (news : List Value) (hr : Reads w B 1 A m news) (h1 : ∀ u ∈ news, u.oneCell' = true)
    (h63 : n + m ≤ maxLen) (hbytes : (n + m) * bytes ≤ 140737488355328) (hbase : base ≤ w.heap.size) :
    ∃ v' w', (Builtin.append_ #[t, t] ty #[v, .slice A m c]).run P w = .ok v' w' ∧ OffRow w' base e v' (n + m) (xs ++ news) ∧ w.grownBy w' v.ownBlock ∧
      (v'.ownBlock = v.ownBlock ∨ v'.ownBlock = some w.heap.size) := by
  rcases hown.2 with ⟨rfl, rfl⟩ | ⟨g, off, cap, cur, rfl, hb, hg, hn, hc, hs, htk⟩
  · have hx : xs = [] := List.eq_nil_of_length_eq_zero hown.1
    subst hx
    obtain ⟨v', w', hrun, h2, h3, h4⟩ := run_append_any (P := P) w base t ty e i z 1 bytes ht hi hz hsize hby hzs (by decide) (.slice none 0 0) 0 [] ⟨rfl, .inl ⟨rfl, rfl⟩⟩ B A m c news hr h1 h63 hbytes hbase
    exact ⟨v', w', hrun, OffRow.of_own h2, h3, h4⟩
  · rcases A with _ | ad
    · have hm : m = 0 := by
        rcases Nat.eq_zero_or_pos m with h0 | h0
        · exact h0
        · obtain ⟨ad, h, _⟩ := hr.2 h0
          cases h
      subst hm
      have hnw : news = [] := List.eq_nil_of_length_eq_zero (by simpa using hr.1)
      subst hnw
      refine ⟨.slice (some ⟨g, off, none⟩) n cap, w, ?_, by simpa using hown, World.grownBy.refl w _, .inl rfl⟩
      simp [Builtin.append_, run_underlying ht, sizeOf, typeInfo, hi, Builtin.lenOf, Builtin.firstCells, hn, storeCells]
    · have hl : news.length = m := by have := hr.1; omega
      have hcells : ∀ j u, news[j]? = some u → w.cell? (ad.add j) = some u := by
        intro j u hu
        rcases Nat.eq_zero_or_pos m with h0 | h0
        · have := (List.getElem?_eq_some_iff.1 hu).1
          omega
        · obtain ⟨ad', h, _, hcc⟩ := hr.2 h0
          injection h with h
          subst h
          exact hcc j u hu
      by_cases hroom : n + m ≤ cap
      · have hf := run_firstCells_some (P := P) w 1 m ad m c news (by omega) hcells
        have hst := run_storeCells_at P g (off + n) e news 0 cur w hg (by omega) h1
        simp only [Nat.add_zero] at hst
        have ea : (⟨g, off, none⟩ : Addr).add n = ⟨g, off + n, none⟩ := by unfold Addr.add; split <;> simp_all
        have hlx := hown.1
        refine ⟨.slice (some ⟨g, off, none⟩) (n + m) cap, w.setRow g (cur.toList.take (off + n) ++ news ++ cur.toList.drop (off + n + news.length)).toArray, ?_, ⟨by rw [List.length_append]; omega, .inr ⟨g, off, cap, _, rfl, hb, setRow_heap w g cur _ e _ hg, hroom, hc, ?_, ?_⟩⟩,
          ⟨rfl, rfl, rfl, by simp [World.setRow], fun k _ hk => setRow_other w g k _ (fun e => hk (by simp [Value.ownBlock, e]))⟩, .inl rfl⟩
        · simp [Builtin.append_, run_underlying ht, sizeOf, typeInfo, hi, hsize, Builtin.lenOf, hroom, hf, ea, hst]
        · simp only [List.size_toArray, List.length_append, List.length_take, List.length_drop, Array.length_toList]
          omega
        · have hsz : cur.toList.length = cur.size := Array.length_toList
          have e1 : (cur.toList.take (off + n) ++ news ++ cur.toList.drop (off + n + news.length)).drop off = xs ++ news ++ cur.toList.drop (off + n + news.length) := by
            rw [List.append_assoc, List.drop_append_of_le_length (by rw [List.length_take]; omega), List.drop_take, show off + n - off = n by omega, htk, List.append_assoc]
          show ((cur.toList.take (off + n) ++ news ++ cur.toList.drop (off + n + news.length)).drop off).take (n + m) = xs ++ news
          rw [e1]
          exact List.take_left' (by rw [List.length_append]; omega)
      · obtain ⟨A0, c0, hv, _, hrd⟩ := hown.form
        simp only [Value.slice.injEq] at hv
        obtain ⟨rfl, _, rfl⟩ := hv
        have holds : ∀ j u, xs[j]? = some u → w.cell? ((⟨g, off, none⟩ : Addr).add j) = some u := by
          intro j u hu
          have hj := (List.getElem?_eq_some_iff.1 hu).1
          obtain ⟨ad', h, _, hcc⟩ := hrd.2 (by have := hown.1; omega)
          injection h with h
          subst h
          exact hcc j u hu
        have hmx : ((n + m : Nat) : Int) ≤ 9223372036854775807 := by simp only [maxLen] at h63; omega
        have hgr := run_append_grow (P := P) w t ty e i z ht hi hz ⟨g, off, none⟩ n cap xs (by rw [hsize]; have := hown.1; omega) holds ad m c news (by rw [hsize]; omega) hcells (by omega) hmx (by rw [hby]; exact growslice_fits (by omega) (by exact hbytes))
        have hge := grownCap_ge w (n + m) cap e
        have hcm : grownCap w (n + m) cap e ≤ maxLen := grownCap_le_maxLen w (n + m) cap e h63
        refine ⟨_, _, hgr, ⟨by rw [List.length_append, hown.1, hl], .inr ⟨w.heap.size, 0, _, _, rfl, hbase, heap_alloc_new w.drew _, hge, hcm, ?_, ?_⟩⟩, ⟨rfl, rfl, rfl, by simp, fun k hk _ => by first | exact heap_alloc_old w.drew _ k hk | exact heap_alloc_old w.drew _ hk⟩, .inr rfl⟩
        · have := hown.1
          simp only [Array.size_append, List.size_toArray, size_zeroCells, hzs]
          omega
        · simp only [Array.toList_append, List.append_assoc, List.drop_zero]
          rw [← List.append_assoc]
          exact List.take_left' (by rw [List.length_append, hown.1, hl])
end

section
variable {P : Program} (w : World)
theorem wp_append_off {o : Oper} {a : Act} {K : Act → World → Prop} {Q : Exit → Act → World → Prop} (s x : Operand) (t : TypeId)
    (ho : o.op = .call { callee := .builtin .append, args := #[s, x], argTypes := #[t, t] })
    (base : Nat) (e : TypeId) (i : TypeInfo) (z : Value) (bytes : Nat) (ht : P.underlying t = some (.slice e)) (hi : P.info? e = some i) (hz : i.zero = some z)
    (hsize : i.size = 1) (hby : i.bytes = bytes) (hzs : z.cells.size = 1)
    (v : Value) (n : Nat) (xs : List Value) (hs : a.eval s = v) (hown : OffRow w base e v n xs)
    (B : Nat) (A : Option Addr) (m c : Nat) (news : List Value) (hx : a.eval x = .slice A m c) (hr : Reads w B 1 A m news) (h1 : ∀ u ∈ news, u.oneCell' = true)
    (h63 : n + m ≤ maxLen) (hbytes : (n + m) * bytes ≤ 140737488355328) (hbase : base ≤ w.heap.size)
    (h : ∀ v' w', OffRow w' base e v' (n + m) (xs ++ news) → w.grownBy w' v.ownBlock → (v'.ownBlock = v.ownBlock ∨ v'.ownBlock = some w.heap.size) → K (a.put o.dst v') w') : o.wp P a w K Q := by
  obtain ⟨v', w', hrun, h2, h3, h4⟩ := run_append_off (P := P) w base t o.type e i z bytes ht hi hz hsize hby hzs v n xs hown B A m c news hr h1 h63 hbytes hbase
  unfold Oper.wp execOp
  simp only [ho, resolve, invoke, builtin, Sem.run_bind, Sem.run_pure, Result.andThen_ok, List.map_toArray, List.map_cons, List.map_nil, hs, hx, hrun]
  exact h v' w' h2 h3 h4
theorem wpList_append_off {ops : Array Oper} {rest : List Oper} {o : Oper} {a : Act} {Q : Exit → Act → World → Prop} (hgd : o.guard = none) (s x : Operand) (t : TypeId)
    (ho : o.op = .call { callee := .builtin .append, args := #[s, x], argTypes := #[t, t] })
    (base : Nat) (e : TypeId) (i : TypeInfo) (z : Value) (bytes : Nat) (ht : P.underlying t = some (.slice e)) (hi : P.info? e = some i) (hz : i.zero = some z)
    (hsize : i.size = 1) (hby : i.bytes = bytes) (hzs : z.cells.size = 1)
    (v : Value) (n : Nat) (xs : List Value) (hs : a.eval s = v) (hown : OffRow w base e v n xs)
    (B : Nat) (A : Option Addr) (m c : Nat) (news : List Value) (hx : a.eval x = .slice A m c) (hr : Reads w B 1 A m news) (h1 : ∀ u ∈ news, u.oneCell' = true)
    (h63 : n + m ≤ maxLen) (hbytes : (n + m) * bytes ≤ 140737488355328) (hbase : base ≤ w.heap.size)
    (h : ∀ v' w', OffRow w' base e v' (n + m) (xs ++ news) → w.grownBy w' v.ownBlock → (v'.ownBlock = v.ownBlock ∨ v'.ownBlock = some w.heap.size) → wpList P ops Q rest (a.put o.dst v') w') : wpList P ops Q (o :: rest) a w :=
  wpList_plain hgd fun _ hK => wp_append_off w s x t ho base e i z bytes ht hi hz hsize hby hzs v n xs hs hown B A m c news hx hr h1 h63 hbytes hbase fun v' w' h2 h3 h4 => hK _ _ (h v' w' h2 h3 h4)
theorem step_append_off {ops : Array Oper} {o : Oper} {a : Act} {K : Act → World → Prop} {Q : Exit → Act → World → Prop} {E : Prop} (hgd : o.guard = none) (s x : Operand) (t : TypeId)
    (ho : o.op = .call { callee := .builtin .append, args := #[s, x], argTypes := #[t, t] })
    (base : Nat) (e : TypeId) (i : TypeInfo) (z : Value) (bytes : Nat) (ht : P.underlying t = some (.slice e)) (hi : P.info? e = some i) (hz : i.zero = some z)
    (hsize : i.size = 1) (hby : i.bytes = bytes) (hzs : z.cells.size = 1)
    (v : Value) (n : Nat) (xs : List Value) (hs : a.eval s = v) (hown : OffRow w base e v n xs)
    (B : Nat) (A : Option Addr) (m c : Nat) (news : List Value) (hx : a.eval x = .slice A m c) (hr : Reads w B 1 A m news) (h1 : ∀ u ∈ news, u.oneCell' = true)
    (h63 : n + m ≤ maxLen) (hbytes : (n + m) * bytes ≤ 140737488355328) (hbase : base ≤ w.heap.size)
    (h : ∀ v' w', OffRow w' base e v' (n + m) (xs ++ news) → w.grownBy w' v.ownBlock → (v'.ownBlock = v.ownBlock ∨ v'.ownBlock = some w.heap.size) → K (a.put o.dst v') w') :
    if Region.wanted o (yielded ops a.tmps) = true then Oper.wp P o a w K Q else E := by
  have hw : Region.wanted o (yielded ops a.tmps) = true := by simp [Region.wanted, hgd]
  rw [if_pos hw]
  exact wp_append_off w s x t ho base e i z bytes ht hi hz hsize hby hzs v n xs hs hown B A m c news hx hr h1 h63 hbytes hbase h
end

/-! ### worlds of which a few blocks alone have turned -/
/-- what lay outside the blocks of S is as it was -/
structure Turns (S : List Nat) (w w' : World) : Prop where
  os : w'.os = w.os
  tape : w'.tape = w.tape
  output : w'.output = w.output
  size : w.heap.size ≤ w'.heap.size
  block : ∀ k, k < w.heap.size → k ∉ S → w'.heap[k]? = w.heap[k]?
section
variable {w w' w'' : World} {S S' : List Nat}
theorem Turns.refl (S : List Nat) (w : World) : Turns S w w := ⟨rfl, rfl, rfl, Nat.le_refl _, fun _ _ _ => rfl⟩
theorem Turns.trans (h : Turns S w w') (h' : Turns S w' w'') : Turns S w w'' :=
  ⟨h'.os.trans h.os, h'.tape.trans h.tape, h'.output.trans h.output, Nat.le_trans h.size h'.size, fun k hk hn => (h'.block k (Nat.lt_of_lt_of_le hk h.size) hn).trans (h.block k hk hn)⟩
theorem Turns.more (h : Turns S w w') (hs : ∀ k ∈ S, k ∈ S') : Turns S' w w' := ⟨h.os, h.tape, h.output, h.size, fun k hk hn => h.block k hk (fun hm => hn (hs k hm))⟩
/-- blocks that were not there at the start need not be named -/
theorem Turns.then (h : Turns S w w') (h' : Turns S' w' w'') (hs : ∀ k ∈ S', k < w.heap.size → k ∈ S) : Turns S w w'' :=
  ⟨h'.os.trans h.os, h'.tape.trans h.tape, h'.output.trans h.output, Nat.le_trans h.size h'.size, fun k hk hn => (h'.block k (Nat.lt_of_lt_of_le hk h.size) (fun hm => hn (hs k hm hk))).trans (h.block k hk hn)⟩
theorem Turns.alloc (h : Turns S w w') (o : Obj) : Turns S w (w'.alloc o) :=
  ⟨h.os, h.tape, h.output, by have := h.size; simp; omega, fun k hk hn => (Below.heap_alloc w' o k (Nat.lt_of_lt_of_le hk h.size)).trans (h.block k hk hn)⟩
theorem Turns.drew (h : Turns S w w') : Turns S w w'.drew := ⟨h.os, h.tape, h.output, h.size, h.block⟩
theorem Turns.setCell (h : Turns S w w') (p : Addr) (v : Value) (hp : p.block < w.heap.size → p.block ∈ S) : Turns S w (w'.setCell p v) :=
  ⟨h.os, h.tape, h.output, by have := h.size; simp [World.setCell]; omega, fun k hk hn => (Below.heap_setCell w' p v k (fun e => by subst e; exact hn (hp hk))).trans (h.block k hk hn)⟩
theorem Turns.grown {row : Option Nat} (h : Turns S w w') (hg : w'.grownBy w'' row) (hr : ∀ k, row = some k → k < w.heap.size → k ∈ S) : Turns S w w'' :=
  ⟨hg.os.trans h.os, hg.tape.trans h.tape, hg.output.trans h.output, Nat.le_trans h.size hg.size, fun k hk hn => (hg.block k (Nat.lt_of_lt_of_le hk h.size) (fun e => hn (hr k e.symm hk))).trans (h.block k hk hn)⟩
theorem Turns.of_below (h : Below w.heap.size w w') : Turns [] w w' := ⟨h.os, h.tape, h.output, h.size, fun k hk _ => h.block k hk⟩
theorem Turns.below {B : Nat} (h : Turns S w w') (hB : B ≤ w.heap.size) (hs : ∀ k ∈ S, B ≤ k) : Below B w w' :=
  ⟨h.os, h.tape, h.output, h.size, fun k hk => h.block k (Nat.lt_of_lt_of_le hk hB) (fun hm => by have := hs k hm; omega)⟩
theorem Turns.cell (h : Turns S w w') {p : Addr} (hp : p.block < w.heap.size) (hn : p.block ∉ S) : w'.cell? p = w.cell? p := World.cell?_of_block (h.block _ hp hn)
end

end Go.Proofs.YtlhiadnolckoeaaGreatDoor
end

section
namespace Go.Proofs.YtlhiadnolckoeaaGreatDoor
open Go.RowKit Go.Maps

/-- a kernel, as it stands in memory -/
structure KS where
  /-- the tree's block -/
  t : Nat
  now : Int
  /-- the faults: the slice's value, and what they are -/
  fv : Value
  fl : List (Int × Int)
  used : Nat
  last : Nat
  /-- the map of things: its block, a bound on its entries, what it holds -/
  tb : Nat
  tn : Nat
  tf : Lit → Option Value

def faultV (l : List (Int × Int)) : List Value := l.flatMap fun p => [.int .i64 p.1, .int .i64 p.2]
/-- the number of a thing as a key -/
abbrev numK (n : Nat) : Lit := .int .i64 (n : Int)
def kernCells (K : KS) : Array Value := #[.pointer (some ⟨K.t, 0, none⟩), .int .i64 K.now, K.fv, .int .i64 (K.used : Int), .int .i64 (K.last : Int), .map (some K.tb)]
/-- block k is the kernel K -/
structure KernOf (w : World) (k : Nat) (K : KS) : Prop where
  blk : Blk w k 174 (kernCells K)
  things : MapOf w Tryz.prog 3 K.tb K.tn K.tf
  row : w.ownsRow 0 166 2 K.fv K.fl.length (faultV K.fl)
  used : K.used ≤ K.fl.length
/-- the kernel's blocks -/
def KS.foot (K : KS) (k : Nat) : List Nat := [k, K.tb] ++ K.fv.ownBlock.toList

section
variable {w w' : World} {k g : Nat} {K : KS} {t : TypeId} {cs : Array Value}
theorem MapOf.blk_ne {P : Program} {q : TypeId} {b n : Nat} {f : Lit → Option Value} (h : MapOf w P q b n f) (hg : Blk w g t cs) : b ≠ g := by
  obtain ⟨D, ⟨es, clock, h0, _⟩, _⟩ := h
  rintro rfl
  rw [show w.heap[b]? = _ from hg] at h0
  cases h0
theorem MapOf.own_ne {P : Program} {q e : TypeId} {b n base size m : Nat} {f : Lit → Option Value} {v : Value} {xs : List Value} (h : MapOf w P q b n f) (hg : w.ownsRow base e size v m xs) : v.ownBlock ≠ some b := by
  intro hv
  obtain ⟨c, fz, h1⟩ := Lib.ownsRow_kind hg b hv
  obtain ⟨D, ⟨es, clock, h0, _⟩, _⟩ := h
  rw [h1] at h0
  cases h0
theorem KernOf.tb_ne (h : KernOf w k K) : K.tb ≠ k := h.things.blk_ne h.blk
theorem KernOf.fv_ne (h : KernOf w k K) : K.fv.ownBlock ≠ some k := own_blk_ne h.row h.blk (by decide)
theorem KernOf.fv_tb (h : KernOf w k K) : K.fv.ownBlock ≠ some K.tb := h.things.own_ne h.row
theorem KernOf.same (h : KernOf w k K) (hb : ∀ b ∈ K.foot k, w'.heap[b]? = w.heap[b]?) : KernOf w' k K := by
  refine ⟨(hb k (by simp [KS.foot])).trans h.blk, h.things.same (hb _ (by simp [KS.foot])), ?_, h.used⟩
  refine ⟨h.row.1, h.row.2.imp id ?_⟩
  rintro ⟨g, cap, cur, e, h1, h2, h3⟩
  exact ⟨g, cap, cur, e, h1, (hb g (by simp [KS.foot, e, Value.ownBlock])).trans h2, h3⟩
theorem KernOf.foot_lt (h : KernOf w k K) : ∀ b ∈ K.foot k, b < w.heap.size := by
  intro b hb
  simp only [KS.foot, List.mem_append, List.mem_cons, Option.mem_toList, List.not_mem_nil, or_false] at hb
  rcases hb with (rfl | rfl) | hb
  · exact h.blk.lt
  · exact h.things.lt
  · exact (h.row.lt b hb).2
theorem KernOf.turns {S : List Nat} (h : KernOf w k K) (ht : Turns S w w') (hS : ∀ b ∈ K.foot k, b ∉ S) : KernOf w' k K := h.same fun b hb => ht.block b (h.foot_lt b hb) (hS b hb)
/-- blocks of other types are none of the kernel's -/
theorem KernOf.off (h : KernOf w k K) (hg : Blk w g t cs) (h1 : t ≠ 174) (h2 : t ≠ 166) : g ∉ K.foot k := by
  simp only [KS.foot, List.mem_append, List.mem_cons, Option.mem_toList, List.not_mem_nil, or_false, not_or]
  exact ⟨⟨Blk.ne_ hg h.blk h1, fun e => h.things.blk_ne hg e.symm⟩, fun e => own_blk_ne h.row hg h2.symm e⟩
end

theorem w64 (n : Int) (h : -9223372036854775808 ≤ n ∧ n ≤ 9223372036854775807) : wrap64 n = n := (IntWalk.i64_left n).symm.trans (IntWalk.i64_in n h)
theorem ownsRow_same {w w' : World} {base n size : Nat} {e : TypeId} {v : Value} {xs : List Value} (h : w.ownsRow base e size v n xs) (hb : ∀ g, v.ownBlock = some g → w'.heap[g]? = w.heap[g]?) : w'.ownsRow base e size v n xs := by
  refine ⟨h.1, h.2.imp id ?_⟩
  rintro ⟨g, cap, cur, e, h1, h2, h3⟩
  exact ⟨g, cap, cur, e, h1, (hb g (by simp [e, Value.ownBlock])).trans h2, h3⟩
theorem intKeys : Keyed Tryz.prog 3 := int_keyed Tryz.underlying3

theorem addAtomic (w : World) (a : Addr) (n : Nat) (hc : w.cell? a = some (.int .i64 (n : Int))) (hz : w.frozen? a = false) (hn : n < 4611686018427387904) :
    (callFunc 167 #[.pointer (some a), .int .i64 1]).run Tryz.prog w = .ok (.value (.int .i64 ((n + 1 : Nat) : Int))) (w.setCell a (.int .i64 ((n + 1 : Nat) : Int))) :=
  run_call_add (P := Tryz.prog) Tryz.func167 (by kernel_rfl) (by kernel_rfl) (by kernel_rfl) .i64 (by kernel_rfl) hc hz (by
    simp [go_sem]
    exact IntWalk.i64_in _ (by omega))

set_option maxRecDepth 100000 in
set_option maxHeartbeats 1000000 in
theorem kAdd (w : World) (k : Nat) (K : KS) (x : Value) (h : KernOf w k K) (h1 : K.last < 4611686018427387904) (h2 : K.tn < 4611686018427387904) :
    Calls Tryz.prog 107 #[.pointer (some ⟨k, 0, none⟩), x] w fun e w' => e = .returned (.int .i64 ((K.last + 1 : Nat) : Int)) ∧
      KernOf w' k { K with last := K.last + 1, tn := K.tn + 1, tf := upd K.tf (numK (K.last + 1)) (some x) } ∧ Turns [k, K.tb] w w' := by
  have hb := h.blk
  have c4 : w.cell? ⟨k, 4, none⟩ = some (.int .i64 (K.last : Int)) := hb.cell 4
  have f4 : w.frozen? ⟨k, 4, none⟩ = false := hb.frozen 4
  have c5 : w.cell? ⟨k, 5, none⟩ = some (.map (some K.tb)) := hb.cell 5
  have hadd := addAtomic w ⟨k, 4, none⟩ K.last c4 f4 h1
  obtain ⟨n1, hn1⟩ : ∃ n1, K.last + 1 = n1 := ⟨_, rfl⟩
  rw [hn1] at hadd ⊢
  have hmk : MapOf (w.setCell ⟨k, 4, none⟩ (.int .i64 (n1 : Int))) Tryz.prog 3 K.tb K.tn K.tf := h.things.same (Below.heap_setCell _ _ _ _ h.tb_ne)
  go_enter Tryz.func107, Tryz.ntmps107
  go_wp2_with (first | (at_mapUpdate; refine wpList_store_of _ rfl _ _ _ 167 rfl 3 178 intKeys Tryz.underlying167 K.tb K.tn K.tf rfl hmk (by unfold maxLen; omega) _ _ (numK n1) rfl rfl (keyOf_int_mk Tryz.underlying3 (WalkArith.wf_i64 (by omega))) trivial ?_; intro w1 hown1 hgrow1) | go_in)
  go_returns
  refine ⟨rfl, ⟨?_, hown1, ?_, h.used⟩, ?_⟩
  · exact (hb.set_ 4 _).grown hgrow1 (by simpa using h.tb_ne.symm)
  · exact (ownsRow_setCell_other h.row h.fv_ne _).kept hgrow1 (.inr h.fv_tb)
  · exact ((Turns.refl _ w).setCell _ _ (by simp)).grown hgrow1 (by simp)

/-- what is left of the faults, and the next one -/
def KS.next (K : KS) : Int × Int := K.fl.getD K.used (0, 0)
def KS.took (K : KS) : KS := { K with used := if K.used = K.fl.length then K.used else K.used + 1 }

theorem own_slice {w : World} {base : Nat} {e : TypeId} {size n : Nat} {v : Value} {xs : List Value} (h : w.ownsRow base e size v n xs) :
    ∃ A cap, v = .slice A n cap ∧ n ≤ cap ∧ cap ≤ maxLen ∧ Reads w w.heap.size size A n xs := by
  rcases h.2 with ⟨rfl, rfl⟩ | ⟨g, cap, cur, rfl, _, _, hn, hc, _⟩
  · exact ⟨none, 0, rfl, Nat.le_refl _, by unfold maxLen; omega, Reads.of_own h⟩
  · exact ⟨_, cap, rfl, hn, hc, Reads.of_own h⟩
theorem faultV_at {l : List (Int × Int)} {i : Nat} {q : Int × Int} (h : l[i]? = some q) : (faultV l)[i * 2]? = some (.int .i64 q.1) ∧ (faultV l)[i * 2 + 1]? = some (.int .i64 q.2) := by
  induction l generalizing i with
  | nil => simp at h
  | cons p l ih =>
    cases i with
    | zero => obtain rfl : p = q := by simpa using h
              simp [faultV]
    | succ i =>
      have := ih (i := i) (by simpa using h)
      have e : faultV (p :: l) = .int .i64 p.1 :: .int .i64 p.2 :: faultV l := by simp [faultV]
      rw [e, show (i + 1) * 2 = i * 2 + 1 + 1 by omega]
      simpa using this

set_option maxRecDepth 100000 in
set_option maxHeartbeats 1000000 in
theorem kFault (w : World) (k : Nat) (K : KS) (h : KernOf w k K) :
    Calls Tryz.prog 218 #[.pointer (some ⟨k, 0, none⟩)] w fun e w' => e = .returned (.agg #[.int .i64 K.next.1, .int .i64 K.next.2]) ∧
      KernOf w' k K.took ∧ Turns [k] w w' := by
  have hb := h.blk
  have hlt : k < w.heap.size := hb.lt
  have c2 : w.cell? ⟨k, 2, none⟩ = some K.fv := hb.cell 2
  have c3 : w.cell? ⟨k, 3, none⟩ = some (.int .i64 (K.used : Int)) := hb.cell 3
  have f3 : w.frozen? ⟨k, 3, none⟩ = false := hb.frozen 3
  obtain ⟨A, cap, hfv, hcap, hmax, hrd⟩ := own_slice h.row
  obtain ⟨n, hn⟩ : ∃ n, K.fl.length = n := ⟨_, rfl⟩
  have hu := h.used
  rw [hn] at hfv hu hrd hcap
  rw [hfv] at c2
  have HN := Lib.hid hn
  have HV := Lib.hid hfv
  clear hfv
  by_cases hlast : K.used = n
  · rw [hlast] at c3
    clear hn
    go_enter Tryz.func218, Tryz.ntmps218
    go_wp2
    go_region
    go_wp2
    go_returns
    refine ⟨?_, ?_, ?_⟩
    · have : K.next = (0, 0) := by unfold KS.next; rw [hlast, ← HN.out]; simp
      rw [this]
    · have e : K.took = K := by unfold KS.took; rw [if_pos (by rw [hlast, HN.out])]
      rw [e]
      exact h.turns (S := []) (((Turns.refl _ w).alloc _).drew) (by simp)
    · exact ((Turns.refl _ w).alloc _).drew
  · have hun : K.used < n := by omega
    obtain ⟨ad, hA, hab, hcc⟩ := hrd.2 (by omega)
    subst hA
    obtain ⟨g, rfl, hgk⟩ : ∃ g, ad = ⟨g, 0, none⟩ ∧ g ≠ k := by
      have h1 := h.row
      have h2 := h.fv_ne
      rw [HV.out, HN.out] at h1
      rw [HV.out] at h2
      rcases Joins.ownsRow_forms h1 with ⟨e, _⟩ | ⟨g, c, e⟩
      · cases e
      · simp only [Value.slice.injEq, Option.some.injEq] at e
        exact ⟨g, e.1, fun e' => h2 (by rw [e.1]; simp [Value.ownBlock, e'])⟩
    obtain ⟨x, y, hxy⟩ : ∃ x y, K.fl[K.used]? = some (x, y) := ⟨_, _, List.getElem?_eq_getElem (by omega)⟩
    have hat := faultV_at hxy
    have e1 : w.cell? ⟨g, K.used * 2, none⟩ = some (.int .i64 x) := by
      have := hcc _ _ hat.1
      rwa [show (⟨g, 0, none⟩ : Addr).add (K.used * 2) = ⟨g, K.used * 2, none⟩ by unfold Addr.add; split <;> simp_all] at this
    have e2 : w.cell? ⟨g, K.used * 2 + 1, none⟩ = some (.int .i64 y) := by simpa [Addr.add] using hcc _ _ hat.2
    clear hat hcc hrd
    clear hn
    have hw1 : wrap64 ((K.used : Int) + 1) = (K.used : Int) + 1 := w64 _ (by unfold maxLen at hmax; omega)
    have hw2 : wrap64 (K.used : Int) = (K.used : Int) := w64 _ (by unfold maxLen at hmax; omega)
    have hw3 : IntKind.i64.wrap (K.used : Int) = (K.used : Int) := IntWalk.i64_in _ (by unfold maxLen at hmax; omega)
    go_enter Tryz.func218, Tryz.ntmps218
    go_wp2
    go_region
    go_wp2
    go_region
    go_wp2
    go_returns
    have hT : Turns [k] w (((w.setCell ⟨k, 3, none⟩ (.int .i64 ((K.used : Int) + 1))).alloc (.cells #[.int .i64 x, .int .i64 y] 166)).drew.drew) := ((((Turns.refl _ w).setCell ⟨k, 3, none⟩ _ (by simp)).alloc _).drew).drew
    refine ⟨?_, ?_, hT⟩
    · have : K.next = (x, y) := by unfold KS.next; rw [List.getD_eq_getElem?_getD, hxy]; rfl
      rw [this]
    · have e : K.took = { K with used := K.used + 1 } := by unfold KS.took; rw [if_neg (by rw [HN.out]; exact hlast)]
      rw [e]
      refine ⟨(hb.set_ 3 _).alloc _, (h.things.same (hT.block _ h.things.lt (by simpa using h.tb_ne))), ?_, by simp only; rw [HN.out]; omega⟩
      exact ownsRow_same h.row fun b e => hT.block _ (h.row.lt b e).2 (by rintro hm; rw [List.mem_singleton] at hm; subst hm; exact h.fv_ne e)
/-- how many bytes of so many are transferred -/
def shortN (n : Int) (f : Int × Int) : Int := if f.1 = 1 then min n (max 1 f.2) else n

set_option maxHeartbeats 1000000 in
theorem kShort (w : World) (n : Int) (f : Int × Int) :
    Calls Tryz.prog 219 #[.int .i64 n, .agg #[.int .i64 f.1, .int .i64 f.2]] w fun e w' => e = .returned (.int .i64 (shortN n f)) ∧ w' = w.alloc (.cells #[.int .i64 f.1, .int .i64 f.2] 166) := by
  obtain ⟨kind, m⟩ := f
  obtain ⟨r, hr⟩ : ∃ r, shortN n (kind, m) = r := ⟨_, rfl⟩
  rw [hr]
  have HR := Lib.hid hr
  clear hr
  go_enter Tryz.func219, Tryz.ntmps219
  go_wp2
  all_goals
    go_returns
    have hr := HR.out
    unfold shortN at hr
    refine ⟨?_, ?_⟩
    · subst hr
      simp_all <;> (try split) <;> omega
    · simp_all

/-- a table: its kernel, and what its descriptors have -/
def tableCells (k : Nat) (D : Nat → Value) : Array Value := (Value.pointer (some ⟨k, 0, none⟩) :: (List.range 16).map D).toArray
def TableOf (w : World) (b k : Nat) (D : Nat → Value) : Prop := Blk w b 182 (tableCells k D)
theorem TableOf.kern {w : World} {b k : Nat} {D : Nat → Value} (h : TableOf w b k D) : w.cell? ⟨b, 0, none⟩ = some (.pointer (some ⟨k, 0, none⟩)) := Blk.cell h 0
theorem TableOf.fd {w : World} {b k : Nat} {D : Nat → Value} (h : TableOf w b k D) (i : Nat) (hi : i < 16) : w.cell? ⟨b, i + 1, none⟩ = some (D i) := by
  rw [Blk.cell h]
  unfold tableCells
  simp [hi]

set_option maxRecDepth 100000 in
set_option maxHeartbeats 1000000 in
theorem kHas (w : World) (b k : Nat) (D : Nat → Value) (h : TableOf w b k D) (fd : Int) :
    Calls Tryz.prog 216 #[.pointer (some ⟨b, 0, none⟩), .int .i64 fd] w fun e w' => e = .returned (if 0 ≤ fd ∧ fd < 16 then D fd.toNat else .nilIface) ∧ w' = w := by
  by_cases h0 : fd < 0
  · rw [if_neg (by omega)]
    go_enter Tryz.func216, Tryz.ntmps216
    go_wp2
    go_returns
    exact ⟨rfl, rfl⟩
  by_cases h1 : 16 ≤ fd
  · rw [if_neg (by omega)]
    go_enter Tryz.func216, Tryz.ntmps216
    go_wp2
    go_returns
    exact ⟨rfl, rfl⟩
  obtain ⟨i, rfl⟩ : ∃ i : Nat, fd = (i : Int) := ⟨fd.toNat, by omega⟩
  rw [if_pos (by omega)]
  have hc := h.fd i (by omega)
  have hc1 : w.cell? ⟨b, 1 + i, none⟩ = some (D i) := by rwa [Nat.add_comm]
  go_enter Tryz.func216, Tryz.ntmps216
  go_wp2
  go_returns
  exact ⟨rfl, rfl⟩

end Go.Proofs.YtlhiadnolckoeaaGreatDoor
end

section
namespace Go.Proofs.YtlhiadnolckoeaaGreatDoor
@[go_sem] theorem as_out_out (v : Value) (w : World) : (Instr.typeAssert (.iface 271 v) 178 271 true).run Tryz.prog w = .ok (.tuple #[v, .bool true]) w := by kernel_rfl
@[go_sem] theorem as_out_in (v : Value) (w : World) : (Instr.typeAssert (.iface 271 v) 178 274 true).run Tryz.prog w = .ok (.tuple #[.agg #[.pointer none], .bool false]) w := by kernel_rfl
@[go_sem] theorem as_out_file (v : Value) (w : World) : (Instr.typeAssert (.iface 271 v) 178 183 true).run Tryz.prog w = .ok (.tuple #[.pointer none, .bool false]) w := by kernel_rfl
@[go_sem] theorem as_out_sink (v : Value) (w : World) : (Instr.typeAssert (.iface 271 v) 178 193 true).run Tryz.prog w = .ok (.tuple #[.pointer none, .bool false]) w := by kernel_rfl
@[go_sem] theorem as_out_source (v : Value) (w : World) : (Instr.typeAssert (.iface 271 v) 178 189 true).run Tryz.prog w = .ok (.tuple #[.pointer none, .bool false]) w := by kernel_rfl
@[go_sem] theorem as_out_dir (v : Value) (w : World) : (Instr.typeAssert (.iface 271 v) 178 341 true).run Tryz.prog w = .ok (.tuple #[.agg #[], .bool false]) w := by kernel_rfl
@[go_sem] theorem as_in_out (v : Value) (w : World) : (Instr.typeAssert (.iface 274 v) 178 271 true).run Tryz.prog w = .ok (.tuple #[.agg #[.pointer none], .bool false]) w := by kernel_rfl
@[go_sem] theorem as_in_in (v : Value) (w : World) : (Instr.typeAssert (.iface 274 v) 178 274 true).run Tryz.prog w = .ok (.tuple #[v, .bool true]) w := by kernel_rfl
@[go_sem] theorem as_in_file (v : Value) (w : World) : (Instr.typeAssert (.iface 274 v) 178 183 true).run Tryz.prog w = .ok (.tuple #[.pointer none, .bool false]) w := by kernel_rfl
@[go_sem] theorem as_in_sink (v : Value) (w : World) : (Instr.typeAssert (.iface 274 v) 178 193 true).run Tryz.prog w = .ok (.tuple #[.pointer none, .bool false]) w := by kernel_rfl
@[go_sem] theorem as_in_source (v : Value) (w : World) : (Instr.typeAssert (.iface 274 v) 178 189 true).run Tryz.prog w = .ok (.tuple #[.pointer none, .bool false]) w := by kernel_rfl
@[go_sem] theorem as_in_dir (v : Value) (w : World) : (Instr.typeAssert (.iface 274 v) 178 341 true).run Tryz.prog w = .ok (.tuple #[.agg #[], .bool false]) w := by kernel_rfl
@[go_sem] theorem as_file_out (v : Value) (w : World) : (Instr.typeAssert (.iface 183 v) 178 271 true).run Tryz.prog w = .ok (.tuple #[.agg #[.pointer none], .bool false]) w := by kernel_rfl
@[go_sem] theorem as_file_in (v : Value) (w : World) : (Instr.typeAssert (.iface 183 v) 178 274 true).run Tryz.prog w = .ok (.tuple #[.agg #[.pointer none], .bool false]) w := by kernel_rfl
@[go_sem] theorem as_file_file (v : Value) (w : World) : (Instr.typeAssert (.iface 183 v) 178 183 true).run Tryz.prog w = .ok (.tuple #[v, .bool true]) w := by kernel_rfl
@[go_sem] theorem as_file_sink (v : Value) (w : World) : (Instr.typeAssert (.iface 183 v) 178 193 true).run Tryz.prog w = .ok (.tuple #[.pointer none, .bool false]) w := by kernel_rfl
@[go_sem] theorem as_file_source (v : Value) (w : World) : (Instr.typeAssert (.iface 183 v) 178 189 true).run Tryz.prog w = .ok (.tuple #[.pointer none, .bool false]) w := by kernel_rfl
@[go_sem] theorem as_file_dir (v : Value) (w : World) : (Instr.typeAssert (.iface 183 v) 178 341 true).run Tryz.prog w = .ok (.tuple #[.agg #[], .bool false]) w := by kernel_rfl
@[go_sem] theorem as_sink_out (v : Value) (w : World) : (Instr.typeAssert (.iface 193 v) 178 271 true).run Tryz.prog w = .ok (.tuple #[.agg #[.pointer none], .bool false]) w := by kernel_rfl
@[go_sem] theorem as_sink_in (v : Value) (w : World) : (Instr.typeAssert (.iface 193 v) 178 274 true).run Tryz.prog w = .ok (.tuple #[.agg #[.pointer none], .bool false]) w := by kernel_rfl
@[go_sem] theorem as_sink_file (v : Value) (w : World) : (Instr.typeAssert (.iface 193 v) 178 183 true).run Tryz.prog w = .ok (.tuple #[.pointer none, .bool false]) w := by kernel_rfl
@[go_sem] theorem as_sink_sink (v : Value) (w : World) : (Instr.typeAssert (.iface 193 v) 178 193 true).run Tryz.prog w = .ok (.tuple #[v, .bool true]) w := by kernel_rfl
@[go_sem] theorem as_sink_source (v : Value) (w : World) : (Instr.typeAssert (.iface 193 v) 178 189 true).run Tryz.prog w = .ok (.tuple #[.pointer none, .bool false]) w := by kernel_rfl
@[go_sem] theorem as_sink_dir (v : Value) (w : World) : (Instr.typeAssert (.iface 193 v) 178 341 true).run Tryz.prog w = .ok (.tuple #[.agg #[], .bool false]) w := by kernel_rfl
@[go_sem] theorem as_source_out (v : Value) (w : World) : (Instr.typeAssert (.iface 189 v) 178 271 true).run Tryz.prog w = .ok (.tuple #[.agg #[.pointer none], .bool false]) w := by kernel_rfl
@[go_sem] theorem as_source_in (v : Value) (w : World) : (Instr.typeAssert (.iface 189 v) 178 274 true).run Tryz.prog w = .ok (.tuple #[.agg #[.pointer none], .bool false]) w := by kernel_rfl
@[go_sem] theorem as_source_file (v : Value) (w : World) : (Instr.typeAssert (.iface 189 v) 178 183 true).run Tryz.prog w = .ok (.tuple #[.pointer none, .bool false]) w := by kernel_rfl
@[go_sem] theorem as_source_sink (v : Value) (w : World) : (Instr.typeAssert (.iface 189 v) 178 193 true).run Tryz.prog w = .ok (.tuple #[.pointer none, .bool false]) w := by kernel_rfl
@[go_sem] theorem as_source_source (v : Value) (w : World) : (Instr.typeAssert (.iface 189 v) 178 189 true).run Tryz.prog w = .ok (.tuple #[v, .bool true]) w := by kernel_rfl
@[go_sem] theorem as_source_dir (v : Value) (w : World) : (Instr.typeAssert (.iface 189 v) 178 341 true).run Tryz.prog w = .ok (.tuple #[.agg #[], .bool false]) w := by kernel_rfl
@[go_sem] theorem as_dir_out (v : Value) (w : World) : (Instr.typeAssert (.iface 341 v) 178 271 true).run Tryz.prog w = .ok (.tuple #[.agg #[.pointer none], .bool false]) w := by kernel_rfl
@[go_sem] theorem as_dir_in (v : Value) (w : World) : (Instr.typeAssert (.iface 341 v) 178 274 true).run Tryz.prog w = .ok (.tuple #[.agg #[.pointer none], .bool false]) w := by kernel_rfl
@[go_sem] theorem as_dir_file (v : Value) (w : World) : (Instr.typeAssert (.iface 341 v) 178 183 true).run Tryz.prog w = .ok (.tuple #[.pointer none, .bool false]) w := by kernel_rfl
@[go_sem] theorem as_dir_sink (v : Value) (w : World) : (Instr.typeAssert (.iface 341 v) 178 193 true).run Tryz.prog w = .ok (.tuple #[.pointer none, .bool false]) w := by kernel_rfl
@[go_sem] theorem as_dir_source (v : Value) (w : World) : (Instr.typeAssert (.iface 341 v) 178 189 true).run Tryz.prog w = .ok (.tuple #[.pointer none, .bool false]) w := by kernel_rfl
@[go_sem] theorem as_dir_dir (v : Value) (w : World) : (Instr.typeAssert (.iface 341 v) 178 341 true).run Tryz.prog w = .ok (.tuple #[v, .bool true]) w := by kernel_rfl
@[go_sem] theorem as_nil_out (w : World) : (Instr.typeAssert .nilIface 178 271 true).run Tryz.prog w = .ok (.tuple #[.agg #[.pointer none], .bool false]) w := by kernel_rfl
@[go_sem] theorem as_nil_in (w : World) : (Instr.typeAssert .nilIface 178 274 true).run Tryz.prog w = .ok (.tuple #[.agg #[.pointer none], .bool false]) w := by kernel_rfl
@[go_sem] theorem as_nil_file (w : World) : (Instr.typeAssert .nilIface 178 183 true).run Tryz.prog w = .ok (.tuple #[.pointer none, .bool false]) w := by kernel_rfl
@[go_sem] theorem as_nil_sink (w : World) : (Instr.typeAssert .nilIface 178 193 true).run Tryz.prog w = .ok (.tuple #[.pointer none, .bool false]) w := by kernel_rfl
@[go_sem] theorem as_nil_source (w : World) : (Instr.typeAssert .nilIface 178 189 true).run Tryz.prog w = .ok (.tuple #[.pointer none, .bool false]) w := by kernel_rfl
@[go_sem] theorem as_nil_dir (w : World) : (Instr.typeAssert .nilIface 178 341 true).run Tryz.prog w = .ok (.tuple #[.agg #[], .bool false]) w := by kernel_rfl

end Go.Proofs.YtlhiadnolckoeaaGreatDoor
end

section
namespace Go.Proofs.YtlhiadnolckoeaaGreatDoor
open Go.RowKit Go.Maps

/-- what can be open, as a value -/
def outV (p : Nat) : Value := .iface 271 (.agg #[.pointer (some ⟨p, 0, none⟩)])
def inV (p : Nat) : Value := .iface 274 (.agg #[.pointer (some ⟨p, 0, none⟩)])
def sourceV (p : Nat) : Value := .iface 189 (.pointer (some ⟨p, 0, none⟩))
def sinkV (p : Nat) : Value := .iface 193 (.pointer (some ⟨p, 0, none⟩))
def fileV (p : Nat) : Value := .iface 183 (.pointer (some ⟨p, 0, none⟩))
def dirV : Value := .iface 341 (.agg #[])
/-- a number far from an int's bounds -/
def Calm (n : Int) : Prop := -4611686018427387904 < n ∧ n < 4611686018427387904
theorem Calm.wrap_up {n : Int} (h : Calm n) : wrap64 (n + 1) = n + 1 := w64 _ (by unfold Calm at h; omega)
theorem Calm.wrap_down {n : Int} (h : Calm n) : wrap64 (n - 1) = n - 1 := w64 _ (by unfold Calm at h; omega)
/-- a pipe; a file -/
abbrev PipeAt (w : World) (p : Nat) (v : Value) (r wr : Int) : Prop := Blk w p 273 #[v, .int .i64 r, .int .i64 wr]
abbrev FileAt (w : World) (p : Nat) (ino how at_ had : Int) (gone : Bool) : Prop := Blk w p 186 #[.int .i64 ino, .int .i64 how, .int .i64 at_, .int .i64 had, .bool gone]

set_option maxRecDepth 100000 in
set_option maxHeartbeats 1000000 in
theorem takenOut (w : World) (k p : Nat) (v : Value) (r wr : Int) (h : PipeAt w p v r wr) (hr : Calm r) :
    Calls Tryz.prog 134 #[.pointer (some ⟨k, 0, none⟩), outV p] w fun e w' => e = .returned (.tuple #[]) ∧ PipeAt w' p v (r + 1) wr ∧ Turns [p] w w' := by
  have hlt := h.lt
  have c1 : w.cell? ⟨p, 1, none⟩ = some (.int .i64 r) := h.cell 1
  have f1 : w.frozen? ⟨p, 1, none⟩ = false := h.frozen 1
  have hw := hr.wrap_up
  unfold outV
  go_enter Tryz.func134, Tryz.ntmps134
  go_wp2
  go_returns
  exact ⟨rfl, (h.set_ 1 _).alloc _, ((Turns.refl _ w).setCell _ _ (by simp)).alloc _⟩

set_option maxRecDepth 100000 in
set_option maxHeartbeats 1000000 in
theorem takenIn (w : World) (k p : Nat) (v : Value) (r wr : Int) (h : PipeAt w p v r wr) (hr : Calm wr) :
    Calls Tryz.prog 134 #[.pointer (some ⟨k, 0, none⟩), inV p] w fun e w' => e = .returned (.tuple #[]) ∧ PipeAt w' p v r (wr + 1) ∧ Turns [p] w w' := by
  have hlt := h.lt
  have c1 : w.cell? ⟨p, 2, none⟩ = some (.int .i64 wr) := h.cell 2
  have f1 : w.frozen? ⟨p, 2, none⟩ = false := h.frozen 2
  have hw := hr.wrap_up
  unfold inV
  go_enter Tryz.func134, Tryz.ntmps134
  go_wp2
  go_returns
  exact ⟨rfl, (h.set_ 2 _).alloc _, ((Turns.refl _ w).setCell _ _ (by simp)).alloc _⟩

set_option maxRecDepth 100000 in
set_option maxHeartbeats 1000000 in
theorem takenSource (w : World) (k p : Nat) : Calls Tryz.prog 134 #[.pointer (some ⟨k, 0, none⟩), sourceV p] w fun e w' => e = .returned (.tuple #[]) ∧ w' = w := by
  unfold sourceV
  go_enter Tryz.func134, Tryz.ntmps134
  go_wp2
  go_returns
  exact ⟨rfl, rfl⟩

set_option maxRecDepth 100000 in
set_option maxHeartbeats 1000000 in
theorem takenSink (w : World) (k p : Nat) : Calls Tryz.prog 134 #[.pointer (some ⟨k, 0, none⟩), sinkV p] w fun e w' => e = .returned (.tuple #[]) ∧ w' = w := by
  unfold sinkV
  go_enter Tryz.func134, Tryz.ntmps134
  go_wp2
  go_returns
  exact ⟨rfl, rfl⟩

set_option maxRecDepth 100000 in
set_option maxHeartbeats 1000000 in
theorem takenDir (w : World) (k : Nat) : Calls Tryz.prog 134 #[.pointer (some ⟨k, 0, none⟩), dirV] w fun e w' => e = .returned (.tuple #[]) ∧ w' = w := by
  unfold dirV
  go_enter Tryz.func134, Tryz.ntmps134
  go_wp2
  go_returns
  exact ⟨rfl, rfl⟩

set_option maxRecDepth 100000 in
set_option maxHeartbeats 1000000 in
theorem takenFile (w : World) (k p : Nat) (ino how at_ had : Int) (gone : Bool) (h : FileAt w p ino how at_ had gone) (hr : Calm had) :
    Calls Tryz.prog 134 #[.pointer (some ⟨k, 0, none⟩), fileV p] w fun e w' => e = .returned (.tuple #[]) ∧ FileAt w' p ino how at_ (had + 1) gone ∧ Turns [p] w w' := by
  have hlt := h.lt
  have c1 : w.cell? ⟨p, 3, none⟩ = some (.int .i64 had) := h.cell 3
  have f1 : w.frozen? ⟨p, 3, none⟩ = false := h.frozen 3
  have hw := hr.wrap_up
  unfold fileV
  go_enter Tryz.func134, Tryz.ntmps134
  go_wp2
  go_returns
  exact ⟨rfl, h.set_ 3 _, (Turns.refl _ w).setCell _ _ (by simp)⟩

set_option maxRecDepth 100000 in
set_option maxHeartbeats 1000000 in
theorem leftOut (w : World) (k p : Nat) (v : Value) (r wr : Int) (h : PipeAt w p v r wr) (hr : Calm r) :
    Calls Tryz.prog 135 #[.pointer (some ⟨k, 0, none⟩), outV p] w fun e w' => e = .returned (.tuple #[]) ∧ PipeAt w' p v (r - 1) wr ∧ Turns [p] w w' := by
  have hlt := h.lt
  have c1 : w.cell? ⟨p, 1, none⟩ = some (.int .i64 r) := h.cell 1
  have f1 : w.frozen? ⟨p, 1, none⟩ = false := h.frozen 1
  have hw := hr.wrap_down
  unfold outV
  go_enter Tryz.func135, Tryz.ntmps135
  go_wp2
  go_returns
  exact ⟨rfl, (h.set_ 1 _).alloc _, ((Turns.refl _ w).setCell _ _ (by simp)).alloc _⟩

set_option maxRecDepth 100000 in
set_option maxHeartbeats 1000000 in
theorem leftIn (w : World) (k p : Nat) (v : Value) (r wr : Int) (h : PipeAt w p v r wr) (hr : Calm wr) :
    Calls Tryz.prog 135 #[.pointer (some ⟨k, 0, none⟩), inV p] w fun e w' => e = .returned (.tuple #[]) ∧ PipeAt w' p v r (wr - 1) ∧ Turns [p] w w' := by
  have hlt := h.lt
  have c1 : w.cell? ⟨p, 2, none⟩ = some (.int .i64 wr) := h.cell 2
  have f1 : w.frozen? ⟨p, 2, none⟩ = false := h.frozen 2
  have hw := hr.wrap_down
  unfold inV
  go_enter Tryz.func135, Tryz.ntmps135
  go_wp2
  go_returns
  exact ⟨rfl, (h.set_ 2 _).alloc _, ((Turns.refl _ w).setCell _ _ (by simp)).alloc _⟩

set_option maxRecDepth 100000 in
set_option maxHeartbeats 1000000 in
theorem leftSource (w : World) (k p : Nat) : Calls Tryz.prog 135 #[.pointer (some ⟨k, 0, none⟩), sourceV p] w fun e w' => e = .returned (.tuple #[]) ∧ w' = w := by
  unfold sourceV
  go_enter Tryz.func135, Tryz.ntmps135
  go_wp2
  go_returns
  exact ⟨rfl, rfl⟩

set_option maxRecDepth 100000 in
set_option maxHeartbeats 1000000 in
theorem leftSink (w : World) (k p : Nat) : Calls Tryz.prog 135 #[.pointer (some ⟨k, 0, none⟩), sinkV p] w fun e w' => e = .returned (.tuple #[]) ∧ w' = w := by
  unfold sinkV
  go_enter Tryz.func135, Tryz.ntmps135
  go_wp2
  go_returns
  exact ⟨rfl, rfl⟩

set_option maxRecDepth 100000 in
set_option maxHeartbeats 1000000 in
theorem leftDir (w : World) (k : Nat) : Calls Tryz.prog 135 #[.pointer (some ⟨k, 0, none⟩), dirV] w fun e w' => e = .returned (.tuple #[]) ∧ w' = w := by
  unfold dirV
  go_enter Tryz.func135, Tryz.ntmps135
  go_wp2
  go_returns
  exact ⟨rfl, rfl⟩

end Go.Proofs.YtlhiadnolckoeaaGreatDoor
end

section
namespace Go.Proofs.YtlhiadnolckoeaaGreatDoor
open Go.RowKit Go.Maps

theorem TableOf.set {w : World} {b k : Nat} {D : Nat → Value} (h : TableOf w b k D) (i : Nat) (hi : i < 16) (x : Value) : TableOf (w.setCell ⟨b, i + 1, none⟩ x) b k (fun j => if j = i then x else D j) := by
  have h1 := Blk.set_ h (i + 1) x
  unfold TableOf
  have e : (tableCells k D).setIfInBounds (i + 1) x = tableCells k (fun j => if j = i then x else D j) := by
    unfold tableCells
    apply Array.ext_getElem?
    intro j
    rw [List.setIfInBounds_toArray]
    cases j with
    | zero => simp
    | succ j =>
      by_cases hj : j = i
      · subst hj; simp [hi]
      · by_cases h16 : j < 16 <;> simp [h16, hj, show ¬ i = j from fun e => hj e.symm]
  rwa [e] at h1

set_option maxRecDepth 100000 in
set_option maxHeartbeats 1000000 in
/-- a descriptor that had nothing has a thing -/
theorem setPut (w : World) (b k : Nat) (D : Nat → Value) (h : TableOf w b k D) (i : Nat) (hi : i < 16) (hD : D i = .nilIface) (t : TypeId) (x : Value) (Q : World → Prop)
    (ht : Calls Tryz.prog 134 #[.pointer (some ⟨k, 0, none⟩), .iface t x] w fun e w' => e = .returned (.tuple #[]) ∧ Q w') (hQ : ∀ w', Q w' → w'.heap[b]? = w.heap[b]?) :
    Calls Tryz.prog 106 #[.pointer (some ⟨b, 0, none⟩), .int .i64 (i : Int), .iface t x] w fun e w' => e = .returned (.tuple #[]) ∧ ∃ w1, Q w1 ∧ w' = w1.setCell ⟨b, i + 1, none⟩ (.iface t x) := by
  have hc := h.fd i hi
  rw [hD] at hc
  have hc1 : w.cell? ⟨b, 1 + i, none⟩ = some .nilIface := by rwa [Nat.add_comm]
  have hk := h.kern
  go_enter Tryz.func106, Tryz.ntmps106
  go_wp2_with (go_at_call 134; refine ht.mono ?_; rintro e w1 ⟨rfl, hq⟩; have hT : TableOf w1 b k D := (hQ w1 hq).trans h; have hc2 : w1.cell? ⟨b, 1 + i, none⟩ = some .nilIface := (by rw [Nat.add_comm, hT.fd i hi, hD]); have hf := Blk.frozen hT (1 + i))
  go_returns
  exact ⟨rfl, _, hq, by rw [Nat.add_comm]⟩

set_option maxRecDepth 100000 in
set_option maxHeartbeats 1000000 in
/-- a descriptor that had a thing has nothing -/
theorem setNil (w : World) (b k : Nat) (D : Nat → Value) (h : TableOf w b k D) (i : Nat) (hi : i < 16) (t : TypeId) (x : Value) (hD : D i = .iface t x) (Q : World → Prop)
    (ht : Calls Tryz.prog 135 #[.pointer (some ⟨k, 0, none⟩), .iface t x] (w.setCell ⟨b, i + 1, none⟩ .nilIface) fun e w' => e = .returned (.tuple #[]) ∧ Q w') :
    Calls Tryz.prog 106 #[.pointer (some ⟨b, 0, none⟩), .int .i64 (i : Int), .nilIface] w fun e w' => e = .returned (.tuple #[]) ∧ Q w' := by
  have hc := h.fd i hi
  rw [hD] at hc
  have hc1 : w.cell? ⟨b, 1 + i, none⟩ = some (.iface t x) := by rwa [Nat.add_comm]
  have hf := Blk.frozen h (1 + i)
  have hk := h.kern
  rw [Nat.add_comm i 1] at ht
  go_enter Tryz.func106, Tryz.ntmps106
  go_wp2_with (go_at_call 135; refine ht.mono ?_; rintro e w1 ⟨rfl, hq⟩)
  go_returns
  exact ⟨rfl, hq⟩

set_option maxRecDepth 100000 in
set_option maxHeartbeats 1000000 in
/-- a thing that is no file is laid down where nothing lay -/
theorem kPut (w : World) (b k : Nat) (K : KS) (D : Nat → Value) (hK : KernOf w k K) (h : TableOf w b k D) (i : Nat) (hi : i < 16) (hD : D i = .nilIface) (n : Int) (hn : -9223372036854775808 ≤ n ∧ n ≤ 9223372036854775807) (t : TypeId) (x : Value)
    (hx : K.tf (.int .i64 n) = some (.iface t x)) (has : ∀ W, (Instr.typeAssert (.iface t x) 178 183 true).run Tryz.prog W = .ok (.tuple #[.pointer none, .bool false]) W) (Q : World → Prop)
    (ht : Calls Tryz.prog 134 #[.pointer (some ⟨k, 0, none⟩), .iface t x] w fun e w' => e = .returned (.tuple #[]) ∧ Q w') (hQ : ∀ w', Q w' → w'.heap[b]? = w.heap[b]?) :
    Calls Tryz.prog 82 #[.pointer (some ⟨b, 0, none⟩), .int .i64 (i : Int), .int .i64 n] w fun e w' => e = .returned (.int .i64 0) ∧ ∃ w1, Q w1 ∧ w' = w1.setCell ⟨b, i + 1, none⟩ (.iface t x) := by
  have hset := setPut w b k D h i hi hD t x Q ht hQ
  have hk := h.kern
  have c5 : w.cell? ⟨k, 5, none⟩ = some (.map (some K.tb)) := hK.blk.cell 5
  go_enter Tryz.func82, Tryz.ntmps82
  go_wp2_with (first | (go_at_call 106; refine hset.mono ?_; rintro e w1 ⟨rfl, w2, hq, rfl⟩) | (at_lookup; refine wpList_look_of _ rfl _ _ 167 rfl 3 178 intKeys Tryz.underlying167 .nilIface (by kernel_rfl) K.tb K.tn K.tf rfl hK.things _ (.int .i64 n) rfl (keyOf_int_mk Tryz.underlying3 (WalkArith.wf_i64 (by omega))) ?_; rw [hx]))
  go_returns
  exact ⟨rfl, _, hq, rfl⟩

end Go.Proofs.YtlhiadnolckoeaaGreatDoor
end

section
namespace Go.Proofs.YtlhiadnolckoeaaGreatDoor
open Go.RowKit

def bytesC (bs : List UInt8) : List Value := bs.map fun b => .int .u8 b.toNat
theorem bytesC_length (bs : List UInt8) : (bytesC bs).length = bs.length := by simp [bytesC]
theorem bytesC_take (bs : List UInt8) (n : Nat) : bytesC (bs.take n) = (bytesC bs).take n := by simp [bytesC]
theorem bytesC_drop (bs : List UInt8) (n : Nat) : bytesC (bs.drop n) = (bytesC bs).drop n := by simp [bytesC]
theorem bytesC_append (a b : List UInt8) : bytesC (a ++ b) = bytesC a ++ bytesC b := by simp [bytesC]
theorem bytesC_oneCell (l : List UInt8) : ∀ u ∈ bytesC l, u.oneCell' = true := by
  intro u hu
  unfold bytesC at hu
  obtain ⟨b, _, rfl⟩ := List.mem_map.1 hu
  rfl
theorem Tryz.infoByte : (Tryz.prog.info? 5).map (fun i => (i.zero, i.size, i.bytes)) = some (some (.int .u8 0), 1, 1) := by kernel_rfl

/-- a slice of bytes that can be read -/
def Bytes (w : World) (B : Nat) (v : Value) (bs : List UInt8) : Prop := ∃ A cap, v = .slice A bs.length cap ∧ bs.length ≤ cap ∧ cap ≤ maxLen ∧ (A = none → cap = 0) ∧ Reads w B 1 A bs.length (bytesC bs)
theorem Bytes.more {w : World} {B B' : Nat} {v : Value} {bs : List UInt8} (h : Bytes w B v bs) (hB : B ≤ B') : Bytes w B' v bs := by
  obtain ⟨A, cap, h1, h2, h3, h4, h5⟩ := h; exact ⟨A, cap, h1, h2, h3, h4, h5.more hB⟩
theorem Bytes.keep {w w' : World} {B : Nat} {v : Value} {bs : List UInt8} (h : Bytes w B v bs) (hk : ∀ p : Addr, p.block < B → w'.cell? p = w.cell? p) : Bytes w' B v bs := by
  obtain ⟨A, cap, h1, h2, h3, h4, h5⟩ := h; exact ⟨A, cap, h1, h2, h3, h4, h5.keep hk⟩
theorem Bytes.below {w w' : World} {B : Nat} {v : Value} {bs : List UInt8} (h : Bytes w B v bs) (hb : Below B w w') : Bytes w' B v bs := h.keep fun _ hp => hb.cell hp
theorem Bytes.nil (w : World) (B : Nat) : Bytes w B (.slice none 0 0) [] := ⟨none, 0, rfl, Nat.le_refl _, by unfold maxLen; omega, fun _ => rfl, Reads.none_⟩
theorem Bytes.of_off {w : World} {base n : Nat} {e : TypeId} {v : Value} {bs : List UInt8} (h : OffRow w base e v n (bytesC bs)) : Bytes w w.heap.size v bs := by
  have hn := h.1
  rw [bytesC_length] at hn
  obtain ⟨A, cap, hv, hc, hr⟩ := h.form
  refine ⟨A, cap, by rw [hv, hn], by omega, ?_, ?_, by rw [hn]; exact hr⟩
  · rcases h.2 with ⟨rfl, _⟩ | ⟨g, off, cap', cur, rfl, _, _, _, h3, _⟩
    · simp only [Value.slice.injEq] at hv
      unfold maxLen; omega
    · simp only [Value.slice.injEq] at hv
      omega
  · rintro rfl
    rcases h.2 with ⟨rfl, _⟩ | ⟨g, off, cap', cur, rfl, _⟩
    · simp only [Value.slice.injEq] at hv
      omega
    · simp at hv

theorem cloneB_any (ad : Addr) (cap : Nat) (bs : List UInt8) (w : World) (hr : Reads w w.heap.size 1 (some ad) bs.length (bytesC bs)) (hl : bs.length ≤ 140737488355328) :
    Calls Tryz.prog 108 #[.slice (some ad) bs.length cap] w fun e w' => ∃ v, e = .returned v ∧ w'.ownsRow w.heap.size 5 1 v bs.length (bytesC bs) ∧ Below w.heap.size w w' := by
  have heq := fun (W : World) => Lib.run_eql_slice_nil (P := Tryz.prog) W 23 5 (some ad) bs.length cap 0 0 Tryz.underlying23
  obtain ⟨iB, hiB, hB0, hB1, hB2⟩ := info_parts Tryz.infoByte
  have HI := Lib.hid hiB
  have H0 := Lib.hid hB0
  have H1 := Lib.hid hB1
  have H2 := Lib.hid hB2
  clear hiB hB0 hB1 hB2
  have hR := Lib.hid hr
  clear hr
  go_enter Tryz.func108, Tryz.ntmps108
  go_wp2_with (at_builtin; refine wpList_append_any _ rfl _ _ 23 rfl w.heap.size 5 iB (.int .u8 0) 1 1 Tryz.underlying23 HI.out H0.out H1.out H2.out rfl (by decide) (.slice (some ⟨w.heap.size, 0, none⟩) 0 0) 0 [] rfl (World.ownsRow_made w #[] 0 (Nat.le_refl _) (by decide) rfl) w.heap.size (some ad) bs.length cap (bytesC bs) rfl (hR.out.alloc (Nat.le_refl _) _) (bytesC_oneCell bs) (by simp only [maxLen]; omega) (by omega) (by simp) ?_; intro v2 w2 hown2 hg2 hat2)
  go_returns
  exact ⟨_, rfl, by simpa using hown2, ((Below.refl _ w).alloc (Nat.le_refl _) _).grown hg2 (by simp) (fun k hk => by simp [Value.ownBlock] at hk; omega)⟩
theorem cloneB_nil (w : World) : Calls Tryz.prog 108 #[.slice none 0 0] w fun e w' => e = .returned (.slice none 0 0) ∧ w' = w := by
  have heq := fun (W : World) => Lib.run_eql_slice_nil (P := Tryz.prog) W 23 5 none 0 0 0 0 Tryz.underlying23
  go_enter Tryz.func108, Tryz.ntmps108
  go_wp2
  go_returns
  exact ⟨rfl, rfl⟩
/-- bytes.Clone: a row of its own, or nil -/
theorem cloneB (w : World) (v : Value) (bs : List UInt8) (h : Bytes w w.heap.size v bs) (hl : bs.length ≤ 140737488355328) :
    Calls Tryz.prog 108 #[v] w fun e w' => ∃ u, e = .returned u ∧ w'.ownsRow w.heap.size 5 1 u bs.length (bytesC bs) ∧ Below w.heap.size w w' := by
  obtain ⟨A, cap, rfl, h2, h3, h4, h5⟩ := h
  cases A with
  | none =>
    have hc := h4 rfl
    have h0 : bs.length = 0 := by omega
    have hb : bs = [] := List.eq_nil_of_length_eq_zero h0
    subst hb hc
    refine (cloneB_nil w).mono ?_
    rintro e w' ⟨rfl, rfl⟩
    exact ⟨_, rfl, ⟨rfl, .inl ⟨rfl, rfl⟩⟩, Below.refl _ _⟩
  | some ad => exact cloneB_any ad cap bs w h5 hl

end Go.Proofs.YtlhiadnolckoeaaGreatDoor
end

section
namespace Go.Proofs.YtlhiadnolckoeaaGreatDoor
open Go.RowKit Go.Maps

/-- a kernel with one thing more -/
noncomputable def KS.adds (K : KS) (x : Value) : KS := { K with last := K.last + 1, tn := K.tn + 1, tf := upd K.tf (numK (K.last + 1)) (some x) }
theorem KernOf.below {w w' : World} {k : Nat} {K : KS} (h : KernOf w k K) (hb : Below w.heap.size w w') : KernOf w' k K := h.same fun b hm => hb.block b (h.foot_lt b hm)
theorem KernOf.alloc {w : World} {k : Nat} {K : KS} (h : KernOf w k K) (o : Obj) : KernOf (w.alloc o) k K := h.below ((Below.refl _ w).alloc (Nat.le_refl _) o)

set_option maxRecDepth 100000 in
set_option maxHeartbeats 1000000 in
theorem kSource (w : World) (k : Nat) (K : KS) (h : KernOf w k K) (h1 : K.last < 4611686018427387904) (h2 : K.tn < 4611686018427387904) (v : Value) (bs : List UInt8) (hb : Bytes w w.heap.size v bs) (hl : bs.length ≤ 140737488355328) :
    Calls Tryz.prog 83 #[.pointer (some ⟨k, 0, none⟩), v] w fun e w' => ∃ s u, e = .returned (.int .i64 ((K.last + 1 : Nat) : Int)) ∧ w.heap.size ≤ s ∧
      Blk w' s 192 #[u] ∧ OffRow w' w.heap.size 5 u bs.length (bytesC bs) ∧ KernOf w' k (K.adds (sourceV s)) ∧ Turns [k, K.tb] w w' := by
  have hcl := cloneB w v bs hb hl
  go_enter Tryz.func83, Tryz.ntmps83
  go_wp2_with (first
    | (go_at_call 108; refine hcl.mono ?_; rintro e w1 ⟨u, rfl, hown, hbel⟩; obtain ⟨A, c, rfl, hc1, hc2, hrd⟩ := own_slice hown)
    | (go_at_call 107; refine (kAdd _ k K _ ((h.below hbel).alloc _) h1 h2).mono ?_; rintro e w2 ⟨rfl, hK2, hT2⟩))
  go_returns
  have hs : w1.heap.size ∉ [k, K.tb] := by
    have := h.blk.lt
    have := h.things.lt
    have := hbel.size
    simp only [List.mem_cons, List.not_mem_nil, or_false, not_or]
    omega
  refine ⟨w1.heap.size, .slice A bs.length c, rfl, hbel.size, ?_, ?_, hK2, ((Turns.of_below hbel).more (by simp)).alloc _ |>.trans hT2⟩
  · exact (hT2.block _ (by simp) hs).trans (Blk.new w1 _ _)
  · refine OffRow.of_own (ownsRow_same (hown.alloc _) fun g hg => hT2.block g ?_ ?_)
    · have := (hown.lt g hg).2
      simp; omega
    · have h1 := (hown.lt g hg).1
      have := h.blk.lt
      have := h.things.lt
      simp only [List.mem_cons, List.not_mem_nil, or_false, not_or]
      omega

set_option maxRecDepth 100000 in
set_option maxHeartbeats 1000000 in
theorem kTable (w : World) (k : Nat) :
    Calls Tryz.prog 104 #[.pointer (some ⟨k, 0, none⟩)] w fun e w' => e = .returned (.pointer (some ⟨w.heap.size, 0, none⟩)) ∧ TableOf w' w.heap.size k (fun _ => .nilIface) ∧ Below w.heap.size w w' := by
  go_enter Tryz.func104, Tryz.ntmps104
  go_wp2
  go_returns
  exact ⟨rfl, Blk.new w _ _, (Below.refl _ w).alloc (Nat.le_refl _) _⟩

end Go.Proofs.YtlhiadnolckoeaaGreatDoor
end

section
namespace Go.Proofs.YtlhiadnolckoeaaGreatDoor
open Go.RowKit Go.Maps

/-- a region that draws: its first n operations only read; the world behind the draw goes by a name -/
theorem still_tail {P : Program} {id : Nat} {Q : Exit → Act → World → Prop} {a : Act} {w : World} {l : List Oper} (n : Nat) (W : World) (hW : w.drew = W) (hm : P.follows .mixedOrders = true) (hB : Region.lexTailB .any l.toArray n = true)
    (h : wpStill P l.toArray W (fun a' => wpList P l.toArray Q (l.drop n) a' W) (l.take n) a) : (Code.region id l.toArray true).wp P Q a w := by
  subst hW
  exact wp_region_still_tail n hm hB h

theorem shortN_le {m : Int} {f : Int × Int} (h : 0 ≤ m) : 0 ≤ shortN m f ∧ shortN m f ≤ m := by
  unfold shortN
  split <;> omega
theorem OffRow.front {w : World} {base n c k : Nat} {e : TypeId} {A : Option Addr} {xs : List Value} (h : OffRow w base e (.slice A n c) n xs) (hk : k ≤ n) : OffRow w base e (.slice A k c) k (xs.take k) := by
  refine ⟨by rw [List.length_take, h.1]; omega, ?_⟩
  rcases h.2 with ⟨hv, h0⟩ | ⟨g, off, cap, cur, hv, h1, h2, h3, h4, h5, h6⟩
  · simp only [Value.slice.injEq] at hv
    obtain ⟨rfl, rfl, rfl⟩ := hv
    exact .inl ⟨by rw [show k = 0 by omega], by omega⟩
  · simp only [Value.slice.injEq] at hv
    obtain ⟨rfl, _, rfl⟩ := hv
    exact .inr ⟨g, off, c, cur, rfl, h1, h2, by omega, h4, h5, by rw [← h6, List.take_take, Nat.min_eq_left hk]⟩
theorem run_front {P : Program} (t e : TypeId) (i : TypeInfo) (ht : P.underlying t = some (.slice e)) (hi : P.info? e = some i) (A : Option Addr) (len cap n : Nat) (hn : n ≤ cap) (W : World) :
    (Instr.slice t (.slice A len cap) none (some (.int .i64 (n : Int))) none).run P W = .ok (.slice A n cap) W := by
  have hee : P.elem t = e := by simp only [Program.elem, ht]
  have he : P.underlying t = some (.slice (P.elem t)) := by rw [hee]; exact ht
  simp only [run_slice_h W t A len cap he .i64 (n : Int) (by omega) (by omega), hee, sizeOf, typeInfo, Sem.run_bind, Sem.run_pure]
  have h0 : A.map (·.add (0 * i.size)) = A := by
    cases A with
    | none => rfl
    | some a => simp [Addr.add]
  simp [hi, sliced, go_sem]

theorem bytes_of_front {W W' : World} {base n c : Nat} {A : Option Addr} {bs : List UInt8} {e : TypeId} (h : OffRow W base e (.slice A bs.length c) bs.length (bytesC bs)) (hW : ∀ g, g < W.heap.size → W'.heap[g]? = W.heap[g]?) (hn : n ≤ bs.length) : Bytes W' W'.heap.size (.slice A n c) (bs.take n) := by
  have h1 := (h.front hn).same (w' := W') fun g hg => hW g ((h.front hn).lt hg).2
  rw [← bytesC_take] at h1
  exact Bytes.of_off h1
theorem Reads.turns {w w' : World} {B size n : Nat} {A : Option Addr} {xs : List Value} {S : List Nat} (h : Reads w B size A n xs) (ht : Turns S w w') (hB : B ≤ w.heap.size) (hS : ∀ ad, A = some ad → ad.block ∉ S) : Reads w' B size A n xs := by
  refine ⟨h.1, fun hn => ?_⟩
  obtain ⟨ad, h1, h2, h3⟩ := h.2 hn
  refine ⟨ad, h1, h2, fun j u hu => ?_⟩
  rw [← h3 j u hu]
  exact ht.cell (by rw [block_of_add]; omega) (by rw [block_of_add]; exact hS ad h1)
theorem Reads.front {w : World} {B n k : Nat} {A : Option Addr} {xs : List Value} (h : Reads w B 1 A n xs) (hk : k ≤ n) : Reads w B 1 A k (xs.take k) := by
  refine ⟨by rw [List.length_take, h.1]; omega, fun hn => ?_⟩
  obtain ⟨ad, h1, h2, h3⟩ := h.2 (by omega)
  refine ⟨ad, h1, h2, fun j u hu => h3 j u ?_⟩
  rw [List.getElem?_take] at hu
  split at hu
  · exact hu
  · cases hu
theorem KernOf.off_own {w : World} {k base n g : Nat} {K : KS} {t : TypeId} {v : Value} {xs : List Value} (h : KernOf w k K) (ho : OffRow w base t v n xs) (h1 : t ≠ 174) (h2 : t ≠ 166) (hg : v.ownBlock = some g) : g ∉ K.foot k := by
  rcases ho.2 with ⟨rfl, _⟩ | ⟨g', off, cap, cur, rfl, _, hgb, _⟩
  · simp [Value.ownBlock] at hg
  · obtain rfl : g' = g := by simpa [Value.ownBlock] using hg
    exact h.off (show Blk w g' t cur from hgb) h1 h2

end Go.Proofs.YtlhiadnolckoeaaGreatDoor
end

section
namespace Go.Proofs.YtlhiadnolckoeaaGreatDoor
open Go.RowKit Go.Maps

/-- a sink -/
abbrev SinkAt (w : World) (p : Nat) (v : Value) : Prop := Blk w p 194 #[v]

set_option maxRecDepth 100000 in
set_option maxHeartbeats 1000000 in
theorem kSink (w : World) (k : Nat) (K : KS) (h : KernOf w k K) (h1 : K.last < 4611686018427387904) (h2 : K.tn < 4611686018427387904) :
    Calls Tryz.prog 84 #[.pointer (some ⟨k, 0, none⟩)] w fun e w' => e = .returned (.int .i64 ((K.last + 1 : Nat) : Int)) ∧
      SinkAt w' w.heap.size (.slice none 0 0) ∧ KernOf w' k (K.adds (sinkV w.heap.size)) ∧ Turns [k, K.tb] w w' := by
  go_enter Tryz.func84, Tryz.ntmps84
  go_wp2_with (go_at_call 107; refine (kAdd _ k K (sinkV w.heap.size) (h.alloc _) h1 h2).mono ?_; rintro e w2 ⟨rfl, hK2, hT2⟩)
  go_returns
  have hs : w.heap.size ∉ [k, K.tb] := by
    have := h.blk.lt
    have := h.things.lt
    simp only [List.mem_cons, List.not_mem_nil, or_false, not_or]
    omega
  exact ⟨rfl, (hT2.block _ (by simp) hs).trans (Blk.new w _ _), hK2, ((Turns.refl _ w).alloc _).trans hT2⟩

set_option maxRecDepth 100000 in
set_option maxHeartbeats 2000000 in
theorem landSink (w : World) (k p base : Nat) (v : Value) (xs : List UInt8) (hp : SinkAt w p v) (hv : OffRow w base 5 v xs.length (bytesC xs)) (hbase : base ≤ w.heap.size)
    (A : Option Addr) (c : Nat) (bs : List UInt8) (hb : Reads w w.heap.size 1 A bs.length (bytesC bs)) (hl : xs.length + bs.length ≤ 140737488355328) :
    Calls Tryz.prog 220 #[.pointer (some ⟨k, 0, none⟩), sinkV p, .slice A bs.length c] w fun e w' => e = .returned (.tuple #[]) ∧ ∃ v', SinkAt w' p v' ∧
      OffRow w' base 5 v' (xs.length + bs.length) (bytesC (xs ++ bs)) ∧ Turns ([p] ++ v.ownBlock.toList) w w' ∧ (v'.ownBlock = v.ownBlock ∨ ∃ g, v'.ownBlock = some g ∧ w.heap.size ≤ g) := by
  have hlt := hp.lt
  have c0 : w.cell? ⟨p, 0, none⟩ = some v := hp.cell 0
  have f0 : w.frozen? ⟨p, 0, none⟩ = false := hp.frozen 0
  have hvp := hv.blk_ne hp (by decide)
  obtain ⟨iB, hiB, hB0, hB1, hB2⟩ := info_parts Tryz.infoByte
  have HI := Lib.hid hiB
  have H0 := Lib.hid hB0
  have H1 := Lib.hid hB1
  have H2 := Lib.hid hB2
  clear hiB hB0 hB1 hB2
  have HV := Lib.hid hv
  have HB := Lib.hid hb
  clear hv hb
  unfold sinkV
  obtain ⟨A0, c0', hvf, hc0, _⟩ := HV.out.form
  subst hvf
  go_enter Tryz.func220, Tryz.ntmps220
  have HQ : ∀ w2, w.grownBy w2 (Value.slice A0 xs.length c0').ownBlock → SinkAt w2 p (.slice A0 xs.length c0') := fun w2 hg => hp.grown hg (fun e => hvp e.symm)
  go_wp2_with (at_builtin; (refine wpList_append_off _ rfl _ _ 23 rfl base 5 iB (.int .u8 0) 1 Tryz.underlying23 HI.out H0.out H1.out H2.out rfl (.slice A0 xs.length c0') xs.length (bytesC xs) (by rfl) HV.out w.heap.size A bs.length c (bytesC bs) (by rfl) HB.out (bytesC_oneCell bs) (by simp only [maxLen]; omega) (by omega) hbase ?_; intro v1 w2 hown2 hg2 hat2; obtain ⟨A1, c1, rfl, hc1, _⟩ := hown2.form; have q2 := Blk.cell (HQ w2 hg2) 0; have f2 := Blk.frozen (HQ w2 hg2) 0; have l2 := Blk.lt (HQ w2 hg2)))
  all_goals
    go_returns
    refine ⟨rfl, _, (HQ w2 hg2).set_ 0 _, ?_, ?_, ?_⟩
    · rw [bytesC_append]
      exact hown2.same fun g hg => Below.heap_setCell _ _ _ _ (fun e => hown2.blk_ne (HQ w2 hg2) (by decide) (hg.trans (congrArg some e)))
    · exact ((Turns.refl _ w).grown hg2 (fun g hg _ => by rw [hg]; simp)).setCell _ _ (by simp)
    · exact hat2.imp id fun e => ⟨_, e, Nat.le_refl _⟩

/-- what a fault makes of a write to a sink -/
def wErr (f : Int × Int) : Int := if f.1 = 2 then 9 else if f.1 = 4 then 7 else if f.1 = 3 then 6 else if f.1 = 5 then 8 else 0

set_option maxRecDepth 100000 in
set_option maxHeartbeats 2000000 in
/-- no byte is written -/
theorem sinkNone (w : World) (b k : Nat) (D : Nat → Value) (h : TableOf w b k D) (i : Nat) (hi : i < 16) (p : Nat) (hD : D i = sinkV p) (A : Option Addr) (c : Nat) :
    Calls Tryz.prog 191 #[.pointer (some ⟨b, 0, none⟩), .int .i64 (i : Int), .slice A 0 c] w fun e w' => e = .returned (.tuple #[.int .i64 0, .int .i64 0]) ∧ Turns [] w w' := by
  have hhas := kHas w b k D h (i : Int)
  rw [if_pos (by omega), Int.toNat_natCast, hD] at hhas
  unfold sinkV at hhas
  have hltb : b < w.heap.size := Blk.lt h
  go_enter Tryz.func191, Tryz.ntmps191
  go_wp2_with (go_at_call 216; refine hhas.mono ?_; rintro e w1 ⟨rfl, rfl⟩)
  all_goals
    go_returns
    exact ⟨rfl, Turns.refl _ _⟩

set_option maxRecDepth 100000 in
set_option maxHeartbeats 2000000 in
/-- a write that fails, or is interrupted -/
theorem sinkErr (w : World) (b k : Nat) (K : KS) (D : Nat → Value) (hK : KernOf w k K) (h : TableOf w b k D) (i : Nat) (hi : i < 16) (p : Nat) (hD : D i = sinkV p) (A : Option Addr) (m c : Nat) (hm : 0 < m) (hf : wErr K.next ≠ 0) :
    Calls Tryz.prog 191 #[.pointer (some ⟨b, 0, none⟩), .int .i64 (i : Int), .slice A m c] w fun e w' => e = .returned (.tuple #[.int .i64 0, .int .i64 (wErr K.next)]) ∧ KernOf w' k K.took ∧ Turns [k] w w' := by
  have hhas := kHas w b k D h (i : Int)
  rw [if_pos (by omega), Int.toNat_natCast, hD] at hhas
  unfold sinkV at hhas
  have hk := h.kern
  have hltb : b < w.heap.size := Blk.lt h
  have hfa := kFault w k K hK
  obtain ⟨f1, f2, hff⟩ : ∃ f1 f2, K.next = (f1, f2) := ⟨_, _, rfl⟩
  rw [hff] at hf hfa ⊢
  have hcase : f1 = 2 ∨ f1 = 4 ∨ f1 = 3 ∨ f1 = 5 := by
    unfold wErr at hf
    simp only at hf
    split at hf
    · exact .inl (by assumption)
    · split at hf
      · exact .inr (.inl (by assumption))
      · split at hf
        · exact .inr (.inr (.inl (by assumption)))
        · split at hf
          · exact .inr (.inr (.inr (by assumption)))
          · exact absurd rfl hf
  clear hf
  rcases hcase with rfl | rfl | rfl | rfl
  all_goals
    simp only [wErr, if_true, if_false, Int.reduceEq]
    go_enter Tryz.func191, Tryz.ntmps191
    go_wp2_with (first | (go_at_call 216; refine hhas.mono ?_; rintro e w1 ⟨rfl, rfl⟩) | (go_at_call 218; refine hfa.mono ?_; rintro e w2 ⟨rfl, hK2, hT2⟩))
    go_returns
    exact ⟨rfl, hK2.alloc _, hT2.alloc _⟩

set_option maxRecDepth 100000 in
set_option maxHeartbeats 2000000 in
/-- a write that goes through -/
theorem sinkOk (w : World) (b k : Nat) (K : KS) (D : Nat → Value) (hK : KernOf w k K) (h : TableOf w b k D) (i : Nat) (hi : i < 16) (p : Nat) (hD : D i = sinkV p) (xs : List UInt8) (v : Value) (hp : SinkAt w p v) (base : Nat) (hv : OffRow w base 5 v xs.length (bytesC xs)) (hbase : base ≤ w.heap.size)
    (A : Option Addr) (c : Nat) (bs : List UInt8) (hb : Reads w w.heap.size 1 A bs.length (bytesC bs)) (hAk : ∀ ad, A = some ad → ad.block ≠ k) (hc : bs.length ≤ c) (hm : 0 < bs.length) (hl : xs.length + bs.length ≤ 140737488355000) (hf1 : wErr K.next = 0) (n : Nat) (hn : shortN bs.length K.next = (n : Int)) :
    Calls Tryz.prog 191 #[.pointer (some ⟨b, 0, none⟩), .int .i64 (i : Int), .slice A bs.length c] w fun e w' => e = .returned (.tuple #[.int .i64 (n : Int), .int .i64 0]) ∧ KernOf w' k K.took ∧
      (∃ v', SinkAt w' p v' ∧ OffRow w' base 5 v' (xs.length + n) (bytesC (xs ++ bs.take n)) ∧ (v'.ownBlock = v.ownBlock ∨ ∃ g, v'.ownBlock = some g ∧ w.heap.size ≤ g)) ∧
      Turns ([k, p] ++ v.ownBlock.toList) w w' := by
  have hhas := kHas w b k D h (i : Int)
  rw [if_pos (by omega), Int.toNat_natCast, hD] at hhas
  unfold sinkV at hhas
  have hk := h.kern
  have hltb : b < w.heap.size := Blk.lt h
  obtain ⟨f1, f2, hff⟩ : ∃ f1 f2, K.next = (f1, f2) := ⟨_, _, rfl⟩
  rw [hff] at hn hf1
  have hfa := kFault w k K hK
  rw [hff] at hfa
  have hpf : p ∉ K.foot k := hK.off hp (by decide) (by decide)
  have hbk : b ≠ k := Blk.ne_ h hK.blk (by decide)
  obtain ⟨g2, g4, g3, g5⟩ : f1 ≠ 2 ∧ f1 ≠ 4 ∧ f1 ≠ 3 ∧ f1 ≠ 5 := by
    unfold wErr at hf1
    simp only at hf1
    refine ⟨?_, ?_, ?_, ?_⟩ <;> (rintro rfl; simp at hf1)
  have e2 : (f1 == 2) = false := beq_eq_false_iff_ne.2 g2
  have e3 : (f1 == 3) = false := beq_eq_false_iff_ne.2 g3
  have e4 : (f1 == 4) = false := beq_eq_false_iff_ne.2 g4
  have e5 : (f1 == 5) = false := beq_eq_false_iff_ne.2 g5
  clear g2 g3 g4 g5 hf1
  have hsh := fun W => kShort W bs.length (f1, f2)
  rw [hn] at hsh
  have hnl : n ≤ bs.length := by
    have := (shortN_le (m := (bs.length : Int)) (f := (f1, f2)) (by omega)).2
    omega
  obtain ⟨iB, hiB, hB0, hB1, hB2⟩ := info_parts Tryz.infoByte
  have hfr := fun W => run_front (P := Tryz.prog) 23 5 iB Tryz.underlying23 hiB A bs.length c n (by omega) W
  clear hiB hB0 hB1 hB2
  have HN := Lib.hid hnl
  have HC := Lib.hid hc
  have HB := Lib.hid hb
  have HV := Lib.hid hv
  clear hnl hc hb hv
  go_enter Tryz.func191, Tryz.ntmps191
  go_wp2_with (first
    | (go_at_call 216; refine hhas.mono ?_; rintro e w1 ⟨rfl, rfl⟩)
    | (go_at_call 218; refine hfa.mono ?_; rintro e w2 ⟨rfl, hK2, hT2⟩; have tb2 : TableOf w2 b k D := (hT2.block b hltb (by rw [List.mem_singleton]; exact hbk)).trans h; have k2 := tb2.kern; have ltb2 := Blk.lt tb2)
    | (go_at_call 219; refine (hsh _).mono ?_; rintro e w3 ⟨rfl, rfl⟩))
  obtain ⟨X, hX⟩ : ∃ X : Obj, .cells #[.int .i64 f1, .int .i64 f2] 166 = X := ⟨_, rfl⟩
  rw [hX]
  obtain ⟨W, hW⟩ : ∃ W, ((w2.alloc X).alloc X).drew = W := ⟨_, rfl⟩
  have TW : Turns [k] w1 W := by rw [← hW]; exact ((hT2.alloc _).alloc _).drew
  have KW : KernOf W k K.took := by rw [← hW]; exact ((hK2.alloc _).alloc _).same fun _ _ => rfl
  have bW : TableOf W b k D := (TW.block b hltb (by rw [List.mem_singleton]; exact hbk)).trans h
  have q0 := bW.kern
  have pW : SinkAt W p v := (TW.block p hp.lt (by rw [List.mem_singleton]; intro e; exact hpf (by rw [e]; simp [KS.foot]))).trans hp
  have vW : OffRow W base 5 v xs.length (bytesC xs) := HV.out.same fun g hg => TW.block g (HV.out.lt hg).2 (by rw [List.mem_singleton]; rintro rfl; exact HV.out.blk_ne hK.blk (by decide) hg)
  have rW : Reads W W.heap.size 1 A (bs.take n).length (bytesC (bs.take n)) := by
    have h1 := ((HB.out.turns TW (Nat.le_refl _) (by intro ad hA; rw [List.mem_singleton]; exact hAk ad hA)).more TW.size).front HN.out
    rw [List.length_take, Nat.min_eq_left HN.out, bytesC_take]
    exact h1
  have hland := landSink W k p base _ xs pW vW (Nat.le_trans hbase TW.size) A c (bs.take n) rW (by rw [List.length_take]; have := HN.out; omega)
  rw [List.length_take, Nat.min_eq_left HN.out] at hland
  unfold sinkV at hland
  clear bW rW
  have VW := Lib.hid vW
  clear vW
  refine still_tail 8 W hW (by kernel_rfl) (by kernel_rfl) ?_
  simp only [List.take_succ_cons, List.take_zero, List.drop_succ_cons, List.drop_zero]
  repeat still_step
  refine wpStill_nil ?_
  go_wp2_with (go_at_call 220; refine hland.mono ?_; rintro e w4 ⟨rfl, v4, hp4, hv4, hT4, hn4⟩)
  go_returns
  refine ⟨rfl, KW.turns hT4 ?_, ⟨v4, hp4, hv4, hn4.imp id fun ⟨g, e, hg⟩ => ⟨g, e, Nat.le_trans TW.size hg⟩⟩, (TW.more (by simp)).trans (hT4.more (by intro g hg; simp only [List.mem_append, List.mem_cons, List.not_mem_nil, or_false] at hg ⊢; rcases hg with hg | hg <;> simp [hg]))⟩
  intro g hg hm
  simp only [List.mem_append, List.mem_cons, List.not_mem_nil, or_false, Option.mem_toList] at hm
  rcases hm with hm | hm
  · exact hpf (hm ▸ hg)
  · exact KW.off_own VW.out (by decide) (by decide) hm hg

end Go.Proofs.YtlhiadnolckoeaaGreatDoor
end

section
namespace Go.Proofs.YtlhiadnolckoeaaGreatDoor
open Go.RowKit Go.Maps

theorem Tryz.infoFault : (Tryz.prog.info? 166).map (fun i => (i.zero, i.size, i.bytes)) = some (some (.agg #[.int .i64 0, .int .i64 0]), 2, 16) := by kernel_rfl
theorem faultV_length (l : List (Int × Int)) : (faultV l).length = l.length * 2 := by
  induction l with
  | nil => rfl
  | cons p l ih => rw [show faultV (p :: l) = .int .i64 p.1 :: .int .i64 p.2 :: faultV l by simp [faultV]]; simp [ih]; omega
theorem faultV_oneCell (l : List (Int × Int)) : ∀ u ∈ faultV l, u.oneCell' = true := by
  intro u hu
  unfold faultV at hu
  obtain ⟨q, _, hq⟩ := List.mem_flatMap.1 hu
  simp only [List.mem_cons, List.not_mem_nil, or_false] at hq
  rcases hq with rfl | rfl <;> rfl
/-- a slice of faults that can be read -/
def Faults (w : World) (v : Value) (l : List (Int × Int)) : Prop := ∃ A cap, v = .slice A l.length cap ∧ l.length ≤ cap ∧ cap ≤ maxLen ∧ (A = none → cap = 0) ∧ Reads w w.heap.size 2 A l.length (faultV l)

set_option maxHeartbeats 1000000 in
theorem cloneF_any (ad : Addr) (cap : Nat) (l : List (Int × Int)) (w : World) (hr : Reads w w.heap.size 2 (some ad) l.length (faultV l)) (hl : l.length ≤ 8796093022208) :
    Calls Tryz.prog 103 #[.slice (some ad) l.length cap] w fun e w' => ∃ v, e = .returned v ∧ w'.ownsRow w.heap.size 166 2 v l.length (faultV l) ∧ Below w.heap.size w w' := by
  have heq := fun (W : World) => Lib.run_eql_slice_nil (P := Tryz.prog) W 33 166 (some ad) l.length cap 0 0 Tryz.underlying33
  obtain ⟨iB, hiB, hB0, hB1, hB2⟩ := info_parts Tryz.infoFault
  have HI := Lib.hid hiB
  have H0 := Lib.hid hB0
  have H1 := Lib.hid hB1
  have H2 := Lib.hid hB2
  clear hiB hB0 hB1 hB2
  have hR := Lib.hid hr
  clear hr
  go_enter Tryz.func103, Tryz.ntmps103
  go_wp2_with (at_builtin; refine wpList_append_any _ rfl _ _ 33 rfl w.heap.size 166 iB (.agg #[.int .i64 0, .int .i64 0]) 2 16 Tryz.underlying33 HI.out H0.out H1.out H2.out rfl (by decide) (.slice (some ⟨w.heap.size, 0, none⟩) 0 0) 0 [] rfl (World.ownsRow_made w #[] 0 (Nat.le_refl _) (by decide) rfl) w.heap.size (some ad) l.length cap (faultV l) rfl (hR.out.alloc (Nat.le_refl _) _) (faultV_oneCell l) (by simp only [maxLen]; omega) (by omega) (by simp) ?_; intro v2 w2 hown2 hg2 hat2)
  go_returns
  exact ⟨_, rfl, by simpa using hown2, ((Below.refl _ w).alloc (Nat.le_refl _) _).grown hg2 (by simp) (fun k hk => by simp [Value.ownBlock] at hk; omega)⟩
theorem cloneF_nil (w : World) : Calls Tryz.prog 103 #[.slice none 0 0] w fun e w' => e = .returned (.slice none 0 0) ∧ w' = w := by
  have heq := fun (W : World) => Lib.run_eql_slice_nil (P := Tryz.prog) W 33 166 none 0 0 0 0 Tryz.underlying33
  go_enter Tryz.func103, Tryz.ntmps103
  go_wp2
  go_returns
  exact ⟨rfl, rfl⟩
theorem cloneF (w : World) (v : Value) (l : List (Int × Int)) (h : Faults w v l) (hl : l.length ≤ 8796093022208) :
    Calls Tryz.prog 103 #[v] w fun e w' => ∃ u, e = .returned u ∧ w'.ownsRow w.heap.size 166 2 u l.length (faultV l) ∧ Below w.heap.size w w' := by
  obtain ⟨A, cap, rfl, h2, h3, h4, h5⟩ := h
  cases A with
  | none =>
    have hc := h4 rfl
    have hb : l = [] := List.eq_nil_of_length_eq_zero (by omega)
    subst hb hc
    refine (cloneF_nil w).mono ?_
    rintro e w' ⟨rfl, rfl⟩
    exact ⟨_, rfl, ⟨rfl, .inl ⟨rfl, rfl⟩⟩, Below.refl _ _⟩
  | some ad => exact cloneF_any ad cap l w h5 hl

set_option maxRecDepth 100000 in
set_option maxHeartbeats 1000000 in
theorem kNew (w : World) (t : Nat) (v : Value) (l : List (Int × Int)) (h : Faults w v l) (hl : l.length ≤ 8796093022208) (now : Int) :
    Calls Tryz.prog 79 #[.pointer (some ⟨t, 0, none⟩), v, .int .i64 now] w fun e w' => ∃ k u tb, e = .returned (.pointer (some ⟨k, 0, none⟩)) ∧ w.heap.size ≤ k ∧ w.heap.size ≤ tb ∧ (∀ g, u.ownBlock = some g → w.heap.size ≤ g) ∧
      KernOf w' k { t := t, now := now, fv := u, fl := l, used := 0, last := 0, tb := tb, tn := 0, tf := fun _ => none } ∧ Below w.heap.size w w' := by
  have hcl := cloneF w v l h hl
  have hmm := @run_makeMap Tryz.prog
  go_enter Tryz.func79, Tryz.ntmps79
  go_wp2_with (go_at_call 103; refine hcl.mono ?_; rintro e w1 ⟨u, rfl, hown, hbel⟩; obtain ⟨A, c, rfl, hc1, hc2, hrd⟩ := own_slice hown)
  go_returns
  have e1 : (w1.alloc (.map #[] 0)).heap.size = w1.heap.size + 1 := by simp
  have hs := hbel.size
  refine ⟨w1.heap.size + 1, .slice A l.length c, w1.heap.size, rfl, by omega, hs, fun g hg => (hown.lt g hg).1, ⟨?_, ?_, ?_, Nat.zero_le _⟩, (hbel.alloc hs _).alloc (by rw [e1]; omega) _⟩
  · have := Blk.new (w1.alloc (.map #[] 0)) 174 #[.pointer (some ⟨t, 0, none⟩), .int .i64 now, .slice A l.length c, .int .i64 0, .int .i64 0, .map (some w1.heap.size)]
    rwa [e1] at this
  · exact (MapOf.made w1 Tryz.prog 3).same (Below.heap_alloc _ _ _ (by rw [e1]; omega))
  · exact Joins.ownsRow_le ((hown.alloc _).alloc _) (Nat.zero_le _)

set_option maxHeartbeats 1000000 in
theorem kUsed (w : World) (k : Nat) (K : KS) (h : KernOf w k K) : Calls Tryz.prog 88 #[.pointer (some ⟨k, 0, none⟩)] w fun e w' => e = .returned (.int .i64 (K.used : Int)) ∧ w' = w := by
  have c3 : w.cell? ⟨k, 3, none⟩ = some (.int .i64 (K.used : Int)) := h.blk.cell 3
  go_enter Tryz.func88, Tryz.ntmps88
  go_wp2
  go_returns
  exact ⟨rfl, rfl⟩

end Go.Proofs.YtlhiadnolckoeaaGreatDoor
end

section
namespace Go.Proofs.YtlhiadnolckoeaaGreatDoor
open Go.RowKit Go.Maps

def strsC (l : List ByteArray) : List Value := l.map .string
/-- a process, as it stands in memory -/
structure PS where
  k : Nat
  tb : Nat
  av : Value
  args : List ByteArray
  ev : Value
  env : List ByteArray
  cwd : ByteArray
  buf : Int
  line : Int
  run : Int
  held : Int
  peak : Int
  /-- what calls answered: the slice's value, and the answers of writes; how many of them main was told -/
  lv : Value
  log : List (Int × Int)
  at_ : Nat
  may : Bool
  top : Bool
  steps : Nat
  all : Nat
/-- a reply of a call that answers a number and an error -/
def replyC (q : Int × Int) : List Value := [.int .i64 q.1, .int .i64 0, .slice none 0 0, .slice none 0 0, .int .i64 0, .bool false, .int .i64 0, .int .i64 0, .int .i64 0, .int .i64 0, .int .i64 q.2]
def logC (l : List (Int × Int)) : List Value := l.flatMap replyC
def procCells (J : PS) : Array Value :=
  #[.pointer (some ⟨J.k, 0, none⟩), .pointer (some ⟨J.tb, 0, none⟩), J.av, J.ev, .string J.cwd, .int .i64 J.buf, .int .i64 J.line, .int .i64 J.run, .int .i64 J.held, .int .i64 J.peak, J.lv, .int .i64 (J.at_ : Int), .bool J.may, .bool J.top, .bool false, .int .i64 (J.steps : Int), .nilIface, .pointer (some ⟨J.all, 0, none⟩)]
structure ProcOf (w : World) (p : Nat) (J : PS) : Prop where
  blk : Blk w p 132 (procCells J)
  args : w.ownsRow 0 9 1 J.av J.args.length (strsC J.args)
  env : w.ownsRow 0 9 1 J.ev J.env.length (strsC J.env)
  log : w.ownsRow 0 302 11 J.lv J.log.length (logC J.log)

section
variable {w w' : World} {p : Nat} {J : PS}
theorem OffRow.ne_ {b b' n n' : Nat} {e e' : TypeId} {v v' : Value} {xs xs' : List Value} (h : OffRow w b e v n xs) (h' : OffRow w b' e' v' n' xs') (he : e ≠ e') (hv : v.ownBlock ≠ none) : v.ownBlock ≠ v'.ownBlock := by
  intro hvv
  obtain ⟨g, hg⟩ := Option.ne_none_iff_exists'.1 hv
  rcases h'.2 with ⟨rfl, _⟩ | ⟨g', off, cap, cur, rfl, _, hgb, _⟩
  · rw [hg] at hvv; simp [Value.ownBlock] at hvv
  · have : g' = g := by rw [hg] at hvv; simpa [Value.ownBlock] using hvv.symm
    subst this
    exact h.blk_ne (show Blk w g' e' cur from hgb) he hg
/-- the blocks of a process -/
def PS.foot (J : PS) (p : Nat) : List Nat := [p] ++ J.av.ownBlock.toList ++ J.ev.ownBlock.toList ++ J.lv.ownBlock.toList
theorem ProcOf.foot_lt (h : ProcOf w p J) : ∀ g ∈ J.foot p, g < w.heap.size := by
  intro g hg
  simp only [PS.foot, List.mem_append, List.mem_cons, List.not_mem_nil, or_false, Option.mem_toList] at hg
  rcases hg with ((rfl | hg) | hg) | hg
  · exact h.blk.lt
  · exact (h.args.lt _ hg).2
  · exact (h.env.lt _ hg).2
  · exact (h.log.lt _ hg).2
theorem ProcOf.same (h : ProcOf w p J) (hb : ∀ g ∈ J.foot p, w'.heap[g]? = w.heap[g]?) : ProcOf w' p J := by
  refine ⟨(hb p (by simp [PS.foot])).trans h.blk, ownsRow_same h.args fun g hg => hb g ?_, ownsRow_same h.env fun g hg => hb g ?_, ownsRow_same h.log fun g hg => hb g ?_⟩ <;> simp [PS.foot, hg]
theorem ProcOf.turns {S : List Nat} (h : ProcOf w p J) (ht : Turns S w w') (hS : ∀ g ∈ J.foot p, g ∉ S) : ProcOf w' p J := h.same fun g hg => ht.block g (h.foot_lt g hg) (hS g hg)
theorem ProcOf.below (h : ProcOf w p J) (hb : Below w.heap.size w w') : ProcOf w' p J := h.turns (Turns.of_below hb) (by simp)
/-- blocks of other types are none of a process's -/
theorem ProcOf.off {g : Nat} {t : TypeId} {cs : Array Value} (h : ProcOf w p J) (hg : Blk w g t cs) (h1 : t ≠ 132) (h2 : t ≠ 9) (h3 : t ≠ 302) : g ∉ J.foot p := by
  simp only [PS.foot, List.mem_append, List.mem_cons, List.not_mem_nil, or_false, Option.mem_toList, not_or]
  exact ⟨⟨⟨Blk.ne_ hg h.blk h1, fun e => own_blk_ne h.args hg h2.symm e⟩, fun e => own_blk_ne h.env hg h2.symm e⟩, fun e => own_blk_ne h.log hg h3.symm e⟩
end

end Go.Proofs.YtlhiadnolckoeaaGreatDoor
end
