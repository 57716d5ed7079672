/-
  Parts of the proof: What a tree in memory is: the plain tree that it stands for; How a tree in memory turns when one of its blocks does; Walks over Fds and Free of a table of sources and sinks; A walk over Said of a sink.
-/
import Derived.Test.YtffffjngodinnaaGreatDoorV05
import Derived.Test.YtffffjngodinnaaGreatDoorV01
import Derived.Test.YtffffjngodinnaaGreatDoorV04
import Derived.Test.YtffffjngodinnaaGreatDoorV08
import Derived.Test.YtffffjngodinnaaGreatDoorV07
import Derived.Deep.MidRow
import Derived.LoopN

section
namespace Go.Proofs.YtffffjngodinnaaGreatDoor
open Go.RowKit Go.Maps

/-- the blocks of a tree S are the items of the plain tree T; β: the block of a number -/
structure Rep (S : TS) (T : Abs.T) (β : Nat → Nat) : Prop where
  root : S.root = β 1
  next : S.next = T.next
  many : S.many = (T.many : Int)
  inj : ∀ i j x y, T.get i = some x → T.get j = some y → β i = β j → i = j
  item : ∀ i x, T.get i = some x → ∃ y, S.items (β i) = some y ∧ y.ino = i ∧ y.mode = x.mode ∧ y.tick = x.tick ∧ y.dir = x.dir ∧ y.data = x.data ∧
    (x.dir = true → (∀ n, y.nf n = (Abs.lk x.names n).map β) ∧ y.up = β x.up) ∧ y.links = (T.links i : Int) ∧ y.held = (x.held : Int)
  files : ∀ i, S.files i = match T.get i with | some x => if x.dir then none else some (β i) | none => none
structure TreeIs (w : World) (t : Nat) (S : TS) (T : Abs.T) (β : Nat → Nat) : Prop where
  mem : TreeOf w t S
  rep : Rep S T β
  wf : T.WF

section
variable {w w' : World} {t : Nat} {S : TS} {T : Abs.T} {β : Nat → Nat}
theorem TreeIs.below (h : TreeIs w t S T β) (hb : Below w.heap.size w w') : TreeIs w' t S T β := ⟨h.mem.below hb, h.rep, h.wf⟩
/-- an item's block -/
theorem TreeIs.at_ (h : TreeIs w t S T β) {i : Nat} {x : Abs.Ent} (hx : T.get i = some x) : ∃ y, S.items (β i) = some y ∧ Blk w (β i) 179 (itemCells y) ∧ y.ino = i ∧ y.mode = x.mode ∧ y.tick = x.tick ∧ y.dir = x.dir ∧ y.data = x.data ∧
    (x.dir = true → (∀ n, y.nf n = (Abs.lk x.names n).map β) ∧ y.up = β x.up) ∧ y.links = (T.links i : Int) ∧ y.held = (x.held : Int) := by
  obtain ⟨y, h1, h2⟩ := h.rep.item i x hx
  exact ⟨y, h1, (h.mem.item _ _ h1).1, h2⟩
end

/-- the empty tree -/
theorem emptyT_rep (h : Nat) : Rep (emptyT h) Abs.emptyT (fun _ => h + 1) := by
  refine ⟨rfl, rfl, rfl, ?_, ?_, ?_⟩
  · intro i j x y hx hy _
    rw [(Abs.emptyT_get hx).1, (Abs.emptyT_get hy).1]
  · intro i x hx
    obtain ⟨rfl, rfl⟩ := Abs.emptyT_get hx
    exact ⟨rootItem h, by simp [emptyT], rfl, rfl, rfl, rfl, rfl, fun _ => ⟨fun _ => rfl, rfl⟩, rfl, rfl⟩
  · intro i
    show none = _
    cases hg : Abs.emptyT.get i with
    | none => rfl
    | some x => obtain ⟨rfl, rfl⟩ := Abs.emptyT_get hg; rfl
theorem emptyT_is {w : World} {t h : Nat} (hT : TreeOf w t (emptyT h)) : TreeIs w t (emptyT h) Abs.emptyT (fun _ => h + 1) := ⟨hT, emptyT_rep h, Abs.emptyT_wf⟩

end Go.Proofs.YtffffjngodinnaaGreatDoor
end

section
namespace Go.Proofs.YtffffjngodinnaaGreatDoor
open Go.RowKit Go.Maps

/-- worlds of which the blocks of F alone have turned -/
structure TurnsP (F : Nat → Prop) (w w' : World) : Prop where
  os : w'.os = w.os
  tape : w'.tape = w.tape
  output : w'.output = w.output
  size : w.heap.size ≤ w'.heap.size
  block : ∀ k, k < w.heap.size → ¬ F k → w'.heap[k]? = w.heap[k]?
section
variable {w w' w'' : World} {F G : Nat → Prop}
theorem TurnsP.refl (F : Nat → Prop) (w : World) : TurnsP F w w := ⟨rfl, rfl, rfl, Nat.le_refl _, fun _ _ _ => rfl⟩
theorem TurnsP.then (h : TurnsP F w w') (h' : TurnsP G w' w'') (hs : ∀ k, G k → F k ∨ w.heap.size ≤ k) : TurnsP F w w'' :=
  ⟨h'.os.trans h.os, h'.tape.trans h.tape, h'.output.trans h.output, Nat.le_trans h.size h'.size, fun k hk hn => (h'.block k (Nat.lt_of_lt_of_le hk h.size) (fun hg => (hs k hg).elim hn (fun hge => by omega))).trans (h.block k hk hn)⟩
theorem TurnsP.more (h : TurnsP F w w') (hs : ∀ k, F k → G k) : TurnsP G w w' := ⟨h.os, h.tape, h.output, h.size, fun k hk hn => h.block k hk (fun hm => hn (hs k hm))⟩
theorem TurnsP.of_list {S : List Nat} (h : Turns S w w') (hs : ∀ k ∈ S, F k) : TurnsP F w w' := ⟨h.os, h.tape, h.output, h.size, fun k hk hn => h.block k hk (fun hm => hn (hs k hm))⟩
theorem TurnsP.to_list {S : List Nat} (h : TurnsP (· ∈ S) w w') : Turns S w w' := ⟨h.os, h.tape, h.output, h.size, h.block⟩
theorem TurnsP.of_below (h : Below w.heap.size w w') : TurnsP F w w' := ⟨h.os, h.tape, h.output, h.size, fun k hk _ => h.block k hk⟩
theorem TurnsP.grown {row : Option Nat} (h : TurnsP F w w') (hg : w'.grownBy w'' row) (hr : ∀ k, row = some k → k < w.heap.size → F k) : TurnsP F w w'' :=
  ⟨hg.os.trans h.os, hg.tape.trans h.tape, hg.output.trans h.output, Nat.le_trans h.size hg.size, fun k hk hn => (hg.block k (Nat.lt_of_lt_of_le hk h.size) (fun e => hn (hr k e.symm hk))).trans (h.block k hk hn)⟩
theorem TurnsP.setCell (h : TurnsP F w w') (p : Addr) (v : Value) (hp : p.block < w.heap.size → F p.block) : TurnsP F w (w'.setCell p v) :=
  ⟨h.os, h.tape, h.output, by simpa [World.setCell] using h.size, fun k hk hn => (Below.heap_setCell _ _ _ _ (by rintro rfl; exact hn (hp hk))).trans (h.block k hk hn)⟩
theorem TurnsP.alloc (h : TurnsP F w w') (o : Obj) : TurnsP F w (w'.alloc o) :=
  ⟨h.os, h.tape, h.output, Nat.le_trans h.size (by simp), fun k hk hn => (Below.heap_alloc _ _ _ (Nat.lt_of_lt_of_le hk h.size)).trans (h.block k hk hn)⟩
theorem TurnsP.drew (h : TurnsP F w w') : TurnsP F w w'.drew := ⟨h.os, h.tape, h.output, h.size, h.block⟩
theorem grown_setCell (w : World) (p : Addr) (v : Value) : w.grownBy (w.setCell p v) (some p.block) :=
  ⟨rfl, rfl, rfl, by simp [World.setCell], fun k _ hne => Below.heap_setCell _ _ _ _ (fun e => hne (by rw [e]))⟩
end

def TS.put (S : TS) (b : Nat) (y : Item) : TS := { S with items := fun c => if c = b then some y else S.items c }
theorem TS.put_same (S : TS) (b : Nat) (y : Item) : (S.put b y).items b = some y := if_pos rfl
theorem TS.put_other (S : TS) {b c : Nat} (y : Item) (h : c ≠ b) : (S.put b y).items c = S.items c := if_neg h
/-- a tree's blocks -/
def TS.foot (S : TS) (t b : Nat) : Prop := b = t ∨ b = S.fb ∨ ∃ i y, S.items i = some y ∧ (b = i ∨ (y.dir = true ∧ b = y.nb) ∨ y.dv.ownBlock = some b)

theorem MapOf.obj {w : World} {P : Program} {q : TypeId} {b n : Nat} {f : Lit → Option Value} (h : MapOf w P q b n f) : ∃ es clock, w.heap[b]? = some (.map es clock) := by
  obtain ⟨D, ⟨es, clock, h0, _⟩, _⟩ := h
  exact ⟨es, clock, h0⟩
theorem OffRow.obj {w : World} {base n g : Nat} {e : TypeId} {v : Value} {xs : List Value} (h : OffRow w base e v n xs) (hv : v.ownBlock = some g) : ∃ cur, Blk w g e cur := by
  rcases h.2 with ⟨rfl, _⟩ | ⟨g', off, cap, cur, rfl, _, hg, _⟩
  · simp [Value.ownBlock] at hv
  · obtain rfl : g' = g := by simpa [Value.ownBlock] using hv
    exact ⟨cur, hg⟩
theorem MapOf.ne_blk {w : World} {P : Program} {q t : TypeId} {b n g : Nat} {f : Lit → Option Value} {cs : Array Value} (h : MapOf w P q b n f) (hg : Blk w g t cs) : b ≠ g := h.blk_ne' hg

section
variable {w w' : World} {t b : Nat} {S : TS} {y y' : Item}
theorem TreeOf.foot_lt (h : TreeOf w t S) {g : Nat} (hg : S.foot t g) : g < w.heap.size := by
  rcases hg with rfl | rfl | ⟨i, y, hy, rfl | ⟨hd, rfl⟩ | hv⟩
  · exact h.blk.lt
  · exact h.files.lt
  · exact (h.item _ _ hy).1.lt
  · exact ((h.item _ _ hy).2.2 hd).1.lt
  · exact ((h.item _ _ hy).2.1.lt hv).2
/-- what turns none of a tree's blocks leaves it as it is -/
theorem TreeOf.off {F : Nat → Prop} (h : TreeOf w t S) (ht : TurnsP F w w') (hF : ∀ g, S.foot t g → ¬ F g) : TreeOf w' t S := by
  have hk : ∀ g, S.foot t g → w'.heap[g]? = w.heap[g]? := fun g hg => ht.block g (h.foot_lt hg) (hF g hg)
  refine ⟨(hk t (.inl rfl)).trans h.blk, h.files.same (hk _ (.inr (.inl rfl))), fun b x hx => ?_, h.apart⟩
  obtain ⟨h1, h2, h3⟩ := h.item b x hx
  exact ⟨(hk b (.inr (.inr ⟨b, x, hx, .inl rfl⟩))).trans h1, h2.same fun g hg => hk g (.inr (.inr ⟨b, x, hx, .inr (.inr hg)⟩)), fun hd => ⟨(h3 hd).1.same (hk _ (.inr (.inr ⟨b, x, hx, .inr (.inl ⟨hd, rfl⟩)⟩))), (h3 hd).2⟩⟩

/-- an item's own cells have turned -/
theorem TreeOf.setItem (h : TreeOf w t S) (hy : S.items b = some y) (hg : w.grownBy w' (some b)) (hb : Blk w' b 179 (itemCells y'))
    (e1 : y'.dir = y.dir) (e2 : y'.nb = y.nb) (e3 : y'.nn = y.nn) (e4 : y'.nf = y.nf) (e5 : y'.dv = y.dv) (e6 : y'.data = y.data) : TreeOf w' t (S.put b y') := by
  obtain ⟨i1, i2, i3⟩ := h.item b y hy
  have hk : ∀ g, g < w.heap.size → g ≠ b → w'.heap[g]? = w.heap[g]? := fun g hl hne => hg.block g hl (by simpa using hne)
  refine ⟨(hk t h.blk.lt (Blk.ne_ h.blk i1 (by decide))).trans h.blk, h.files.same (hk _ h.files.lt (h.files.ne_blk i1)), fun c x hx => ?_, fun c c' x x' hx hx' hne => ?_⟩
  · by_cases hc : c = b
    · subst hc
      rw [TS.put_same] at hx
      cases hx
      refine ⟨hb, ?_, fun hd => ?_⟩
      · rw [e5, e6]
        exact i2.same fun g hv => hk g (i2.lt hv).2 (fun e => i2.blk_ne i1 (by decide) (e ▸ hv))
      · rw [e1] at hd
        rw [e2, e3, e4]
        exact ⟨(i3 hd).1.same (hk _ (i3 hd).1.lt ((i3 hd).1.ne_blk i1)), (i3 hd).2⟩
    · rw [TS.put_other S y' hc] at hx
      obtain ⟨j1, j2, j3⟩ := h.item c x hx
      refine ⟨(hk c j1.lt hc).trans j1, j2.same fun g hv => hk g (j2.lt hv).2 (fun e => j2.blk_ne i1 (by decide) (e ▸ hv)), fun hd => ⟨(j3 hd).1.same (hk _ (j3 hd).1.lt ((j3 hd).1.ne_blk i1)), (j3 hd).2⟩⟩
  · by_cases hc : c = b
    · subst hc
      rw [TS.put_same] at hx
      cases hx
      rw [TS.put_other S y' (fun e => hne e.symm)] at hx'
      rw [e1, e2, e5]
      exact h.apart _ _ y x' hy hx' hne
    · rw [TS.put_other S y' hc] at hx
      by_cases hc' : c' = b
      · subst hc'
        rw [TS.put_same] at hx'
        cases hx'
        rw [e1, e2, e5]
        exact h.apart _ _ x y hx hy hne
      · rw [TS.put_other S y' hc'] at hx'
        exact h.apart _ _ x x' hx hx' hne

/-- a directory's names have turned -/
theorem TreeOf.setNames (h : TreeOf w t S) (hy : S.items b = some y) (hd : y.dir = true) (hg : w.grownBy w' (some y.nb)) (nn : Nat) (nf : List UInt8 → Option Nat) (hm : MapOf w' Tryz.prog 9 y.nb nn (namesF nf)) : TreeOf w' t (S.put b { y with nn := nn, nf := nf }) := by
  obtain ⟨i1, i2, i3⟩ := h.item b y hy
  have hk : ∀ g, g < w.heap.size → g ≠ y.nb → w'.heap[g]? = w.heap[g]? := fun g hl hne => hg.block g hl (by simpa using hne)
  have hbk : ∀ g t cs, Blk w g t cs → w'.heap[g]? = w.heap[g]? := fun g t cs hb => hk g hb.lt (fun e => (i3 hd).1.ne_blk hb e.symm)
  have hrow : ∀ (v : Value) (n : Nat) (xs : List Value), OffRow w 0 5 v n xs → OffRow w' 0 5 v n xs := fun v n xs hr => hr.same fun g hv => by obtain ⟨cur, hb⟩ := hr.obj hv; exact hbk g _ _ hb
  refine ⟨(hbk _ _ _ h.blk).trans h.blk, h.files.same (hk _ h.files.lt (fun e => (i3 hd).2 e.symm)), fun c x hx => ?_, fun c c' x x' hx hx' hne => ?_⟩
  · by_cases hc : c = b
    · subst hc
      rw [TS.put_same] at hx
      cases hx
      exact ⟨(hbk _ _ _ i1).trans i1, hrow _ _ _ i2, fun _ => ⟨hm, (i3 hd).2⟩⟩
    · rw [TS.put_other S _ hc] at hx
      obtain ⟨j1, j2, j3⟩ := h.item c x hx
      exact ⟨(hbk _ _ _ j1).trans j1, hrow _ _ _ j2, fun hd' => ⟨(j3 hd').1.same (hk _ (j3 hd').1.lt ((h.apart c b x y hx hy hc).1 hd' hd)), (j3 hd').2⟩⟩
  · by_cases hc : c = b
    · subst hc
      rw [TS.put_same] at hx
      cases hx
      rw [TS.put_other S _ (fun e => hne e.symm)] at hx'
      exact h.apart _ _ y x' hy hx' hne
    · rw [TS.put_other S _ hc] at hx
      by_cases hc' : c' = b
      · subst hc'
        rw [TS.put_same] at hx'
        cases hx'
        exact h.apart _ _ x y hx hy hne
      · rw [TS.put_other S _ hc'] at hx'
        exact h.apart _ _ x x' hx hx' hne

/-- an item's bytes have turned -/
theorem TreeOf.setData (h : TreeOf w t S) (hy : S.items b = some y) (e1 : y'.dir = y.dir) (e2 : y'.nb = y.nb) (e3 : y'.nn = y.nn) (e4 : y'.nf = y.nf)
    (ht : TurnsP (fun g => g = b ∨ y.dv.ownBlock = some g) w w') (hb : Blk w' b 179 (itemCells y')) (hr : OffRow w' 0 5 y'.dv y'.data.length (bytesC y'.data))
    (hown : ∀ g, y'.dv.ownBlock = some g → y.dv.ownBlock = some g ∨ w.heap.size ≤ g) : TreeOf w' t (S.put b y') := by
  obtain ⟨i1, i2, i3⟩ := h.item b y hy
  have hnb : ∀ {g t cs}, Blk w g t cs → t ≠ 5 → g ≠ b → w'.heap[g]? = w.heap[g]? := fun {g t cs} hg hne hgb => ht.block g hg.lt (by
    rintro (rfl | hv)
    · exact hgb rfl
    · obtain ⟨cur, hc⟩ := i2.obj hv
      exact Blk.ne_ hg hc hne rfl)
  have hmp : ∀ {q g n f}, MapOf w Tryz.prog q g n f → w'.heap[g]? = w.heap[g]? := fun {q g n f} hm => ht.block g hm.lt (by
    rintro (rfl | hv)
    · exact hm.ne_blk i1 rfl
    · obtain ⟨cur, hc⟩ := i2.obj hv
      exact hm.ne_blk hc rfl)
  refine ⟨(hnb h.blk (by decide) (Blk.ne_ h.blk i1 (by decide))).trans h.blk, h.files.same (hmp h.files), fun c x hx => ?_, fun c c' x x' hx hx' hne => ?_⟩
  · by_cases hc : c = b
    · subst hc
      rw [TS.put_same] at hx
      cases hx
      refine ⟨hb, hr, fun hd => ?_⟩
      rw [e1] at hd
      rw [e2, e3, e4]
      exact ⟨(i3 hd).1.same (hmp (i3 hd).1), (i3 hd).2⟩
    · rw [TS.put_other S y' hc] at hx
      obtain ⟨j1, j2, j3⟩ := h.item c x hx
      refine ⟨(hnb j1 (by decide) hc).trans j1, j2.same fun g hv => ht.block g (j2.lt hv).2 ?_, fun hd => ⟨(j3 hd).1.same (hmp (j3 hd).1), (j3 hd).2⟩⟩
      rintro (rfl | hv')
      · exact j2.blk_ne i1 (by decide) hv
      · exact (h.apart c b x y hx hy hc).2 (by rw [hv]; simp) (hv.trans hv'.symm)
  · by_cases hc : c = b
    · subst hc
      rw [TS.put_same] at hx
      cases hx
      rw [TS.put_other S y' (fun e => hne e.symm)] at hx'
      rw [e1, e2]
      refine ⟨(h.apart _ _ y x' hy hx' hne).1, fun hn he => ?_⟩
      cases hv : y'.dv.ownBlock with
      | none => exact hn hv
      | some g =>
        rw [hv] at he
        have j2 := (h.item _ _ hx').2.1
        rcases hown g hv with h1 | h1
        · exact (h.apart _ _ y x' hy hx' hne).2 (by rw [h1]; simp) (h1.trans he)
        · have := (j2.lt he.symm).2; omega
    · rw [TS.put_other S y' hc] at hx
      by_cases hc' : c' = b
      · subst hc'
        rw [TS.put_same] at hx'
        cases hx'
        rw [e1, e2]
        refine ⟨(h.apart _ _ x y hx hy hne).1, fun hn he => ?_⟩
        cases hv : x.dv.ownBlock with
        | none => exact hn hv
        | some g =>
          rw [hv] at he
          have j2 := (h.item _ _ hx).2.1
          rcases hown g he.symm with h1 | h1
          · exact (h.apart _ _ x y hx hy hne).2 (by rw [hv]; simp) (hv.trans h1.symm)
          · have := (j2.lt hv).2; omega
      · rw [TS.put_other S y' hc'] at hx'
        exact h.apart _ _ x x' hx hx' hne

/-- the tree's own numbers have turned -/
theorem TreeOf.setTree (h : TreeOf w t S) (hg : w.grownBy w' (some t)) (next : Nat) (many : Int) (hb : Blk w' t 169 #[ptrV S.root, .map (some S.fb), .int .i64 (next : Int), .int .i64 many]) : TreeOf w' t { S with next := next, many := many } := by
  have hk : ∀ g, g < w.heap.size → g ≠ t → w'.heap[g]? = w.heap[g]? := fun g hl hne => hg.block g hl (by simpa using hne)
  refine ⟨hb, h.files.same (hk _ h.files.lt (h.files.ne_blk h.blk)), fun c x hx => ?_, h.apart⟩
  obtain ⟨j1, j2, j3⟩ := h.item c x hx
  exact ⟨(hk c j1.lt (Blk.ne_ j1 h.blk (by decide))).trans j1, j2.same fun g hv => hk g (j2.lt hv).2 (fun e => j2.blk_ne h.blk (by decide) (e ▸ hv)), fun hd => ⟨(j3 hd).1.same (hk _ (j3 hd).1.lt ((j3 hd).1.ne_blk h.blk)), (j3 hd).2⟩⟩

/-- the map of files has turned -/
theorem TreeOf.setFiles (h : TreeOf w t S) (hg : w.grownBy w' (some S.fb)) (fn : Nat) (files : Nat → Option Nat) (hm : MapOf w' Tryz.prog 3 S.fb fn (filesF files)) : TreeOf w' t { S with fn := fn, files := files } := by
  have hk : ∀ g, g < w.heap.size → g ≠ S.fb → w'.heap[g]? = w.heap[g]? := fun g hl hne => hg.block g hl (by simpa using hne)
  have hbk : ∀ g t cs, Blk w g t cs → w'.heap[g]? = w.heap[g]? := fun g t cs hb => hk g hb.lt (fun e => h.files.ne_blk hb e.symm)
  refine ⟨(hbk _ _ _ h.blk).trans h.blk, hm, fun c x hx => ?_, h.apart⟩
  obtain ⟨j1, j2, j3⟩ := h.item c x hx
  exact ⟨(hbk _ _ _ j1).trans j1, j2.same fun g hv => (by obtain ⟨cur, hb⟩ := j2.obj hv; exact hbk g _ _ hb), fun hd => ⟨(j3 hd).1.same (hk _ (j3 hd).1.lt (j3 hd).2), (j3 hd).2⟩⟩

/-- an item more, of blocks that the tree has not -/
theorem TreeOf.addItem (h : TreeOf w t S) (hb : Blk w b 179 (itemCells y)) (hr : OffRow w 0 5 y.dv y.data.length (bytesC y.data)) (hm : y.dir = true → MapOf w Tryz.prog 9 y.nb y.nn (namesF y.nf))
    (hnb : y.dir = true → ¬ S.foot t y.nb) (hnv : ∀ g, y.dv.ownBlock = some g → ¬ S.foot t g) : TreeOf w t (S.put b y) := by
  refine ⟨h.blk, h.files, fun c x hx => ?_, fun c c' x x' hx hx' hne => ?_⟩
  · by_cases hc : c = b
    · subst hc
      rw [TS.put_same] at hx
      cases hx
      exact ⟨hb, hr, fun hd => ⟨hm hd, fun e => hnb hd (e ▸ .inr (.inl rfl))⟩⟩
    · rw [TS.put_other S y hc] at hx
      exact h.item c x hx
  · by_cases hc : c = b
    · subst hc
      rw [TS.put_same] at hx
      cases hx
      rw [TS.put_other S y (fun e => hne e.symm)] at hx'
      refine ⟨fun hd hd' e => hnb hd (.inr (.inr ⟨c', x', hx', .inr (.inl ⟨hd', e⟩)⟩)), fun hn he => ?_⟩
      cases hv : y.dv.ownBlock with
      | none => exact hn hv
      | some g => exact hnv g hv (.inr (.inr ⟨c', x', hx', .inr (.inr (he.symm.trans hv))⟩))
    · rw [TS.put_other S y hc] at hx
      by_cases hc' : c' = b
      · subst hc'
        rw [TS.put_same] at hx'
        cases hx'
        refine ⟨fun hd hd' e => hnb hd' (.inr (.inr ⟨c, x, hx, .inr (.inl ⟨hd, e.symm⟩)⟩)), fun hn he => ?_⟩
        cases hv : x.dv.ownBlock with
        | none => exact hn hv
        | some g => exact hnv g (he.symm.trans hv) (.inr (.inr ⟨c, x, hx, .inr (.inr hv)⟩))
      · rw [TS.put_other S y hc'] at hx'
        exact h.apart _ _ x x' hx hx' hne
end

end Go.Proofs.YtffffjngodinnaaGreatDoor
end

section
namespace Go.Proofs.YtffffjngodinnaaGreatDoor
open Go.RowKit Go.Maps

theorem Tryz.infoInt : (Tryz.prog.info? 3).map (fun i => (i.zero, i.size, i.bytes)) = some (some (.int .i64 0), 1, 8) := by kernel_rfl
def intsC (l : List Nat) : List Value := l.map fun n : Nat => .int .i64 (n : Int)
theorem intsC_oneCell (l : List Nat) : ∀ u ∈ intsC l, u.oneCell' = true := by
  intro u hu
  obtain ⟨s, _, rfl⟩ := List.mem_map.1 hu
  rfl
def isNilV : Value → Bool
  | .nilIface => true
  | _ => false
/-- the descriptors below n that have something -/
def fdsOf (D : Nat → Value) (n : Nat) : List Nat := (List.range n).filter fun i => !isNilV (D i)
theorem fdsOf_succ (D : Nat → Value) (n : Nat) : fdsOf D (n + 1) = fdsOf D n ++ if isNilV (D n) then [] else [n] := by
  unfold fdsOf
  rw [List.range_succ, List.filter_append]
  cases h : isNilV (D n) <;> simp [h]
theorem fdsOf_le (D : Nat → Value) (n : Nat) : (fdsOf D n).length ≤ n := by
  have := List.length_filter_le (fun i => !isNilV (D i)) (List.range n)
  simpa [fdsOf] using this
theorem intsC_length (l : List Nat) : (intsC l).length = l.length := by simp [intsC]
/-- a row of one new cell -/
theorem row_one (w : World) (t : TypeId) (v : Value) : Reads (w.alloc (.cells #[v] t)) (w.heap.size + 1) 1 (some ⟨w.heap.size, 0, none⟩) 1 [v] := by
  refine ⟨rfl, fun _ => ⟨_, rfl, Nat.lt_succ_self _, fun j u hu => ?_⟩⟩
  have hj : j = 0 := by have := (List.getElem?_eq_some_iff.1 hu).1; simp at this; exact this
  subst hj
  have h0 := (Blk.new w t #[v]).cell 0
  simpa [Addr.add] using (h0.trans hu)

theorem Tryz.infoThing : (Tryz.prog.info? 146).map (fun i => (i.zero, i.size, i.bytes)) = some (some .nilIface, 1, 16) := by kernel_rfl
theorem idx16 (cs : List Value) (j : Nat) (v : Value) (hj : j < 16) (e : cs[j]? = some v) (W : World) : (Instr.index 148 (.agg cs.toArray) (.int .i64 (j : Int))).run Tryz.prog W = .ok v W := by
  obtain ⟨iT, hiT, hT0, hT1, hT2⟩ := info_parts Tryz.infoThing
  have hu : (underlying 148).run Tryz.prog W = .ok (.array 16 146) W := run_underlying Tryz.underlying148 W
  have h0 : (0 : Int) ≤ (j : Int) ∧ (j : Int) < 16 := by omega
  simp [Instr.index, asIntOf, hu, part, sizeOf, typeInfo, hiT, hT1, h0, hj, e]

set_option maxRecDepth 100000 in
set_option maxHeartbeats 2000000 in
theorem kFds (w : World) (b k : Nat) (D : Nat → Value) (h : TableOf w b k D) (hD : ∀ i, i < 16 → D i = .nilIface ∨ ∃ t x, D i = .iface t x) :
    Calls Tryz.prog 130 #[.pointer (some ⟨b, 0, none⟩)] w fun e w' => ∃ v, e = .returned v ∧ w'.ownsRow w.heap.size 3 1 v (fdsOf D 16).length (intsC (fdsOf D 16)) ∧ Below w.heap.size w w' := by
  have hra : w.rangeAt b 1 ((List.range 16).map D) := by
    intro j v hv
    have hj : j < 16 := by have := (List.getElem?_eq_some_iff.1 hv).1; simpa using this
    rw [Nat.add_comm, h.fd j hj]
    simpa [hj] using hv
  obtain ⟨cs, hcs⟩ : ∃ cs, (List.range 16).map D = cs := ⟨_, rfl⟩
  rw [hcs] at hra
  have hlen : cs.length = 16 := by rw [← hcs]; simp
  have hat : ∀ j, j < 16 → cs[j]? = some (D j) := by intro j hj; rw [← hcs]; simp [hj]
  have HLEN := Lib.hid hlen
  have HAT := Lib.hid hat
  have HD := Lib.hid hD
  clear hcs hlen hat hD
  obtain ⟨iI, hiI, hI0, hI1, hI2⟩ := info_parts Tryz.infoInt
  have HI := Lib.hid hiI
  have H0 := Lib.hid hI0
  have H1 := Lib.hid hI1
  have H2 := Lib.hid hI2
  clear hiI hI0 hI1 hI2
  go_enter Tryz.func130, Tryz.ntmps130
  go_wp2_with (first | (refine wpList_load_mid rfl _ _ rfl b 1 rfl cs _ hra Tryz.underlying148 rfl (by rw [HLEN.out]; kernel_rfl) ?_) | fail)
  go_loopw [3, 10] (fun o i W => ∃ (j : Nat), j ≤ 16 ∧ i = .int .i64 (j : Int) ∧ W.ownsRow w.heap.size 3 1 o (fdsOf D j).length (intsC (fdsOf D j)) ∧ Below w.heap.size w W) (fun _ i _ => 16 - (intOf i).toNat)
  case atStart => exact ⟨0, Nat.zero_le _, rfl, World.ownsRow_nil _ _ _ _, Below.refl _ _⟩
  case round =>
    obtain ⟨j, hj, rfl, hown, hbel⟩ := hrel
    have HB := Lib.hid hbel
    have HO := Lib.hid hown
    clear hbel hown
    obtain ⟨A, cp, rfl, _⟩ := own_slice HO.out
    by_cases hlt : j < 16
    · have e0 := HAT.out j hlt
      have hfs := fdsOf_succ D j
      have hfl := fdsOf_le D j
      rcases HD.out j hlt with hn | ⟨t, x, hn⟩
      · rw [hn] at e0
        have hix := idx16 cs j _ hlt e0
        rw [hn] at hfs
        simp only [isNilV, if_true, List.append_nil] at hfs
        have HFS := Lib.hid hfs
        clear hfs hfl hn
        go_wp2_with fail
        go_roundw
        case rel => exact ⟨j + 1, by omega, by go_num, by rw [HFS.out]; exact HO.out, HB.out⟩
        case measure => simp [intOf]; omega
      · rw [hn] at e0
        have hix := idx16 cs j _ hlt e0
        rw [hn] at hfs
        simp only [isNilV, Bool.false_eq_true, if_false] at hfs
        have HFS := Lib.hid hfs
        have HFL := Lib.hid hfl
        clear hfs hfl hn
        go_wp2_with (at_builtin; refine wpList_append_any _ rfl _ _ 28 rfl w.heap.size 3 iI (.int .i64 0) 1 8 Tryz.underlying28 HI.out H0.out H1.out H2.out rfl (by decide) (.slice A (fdsOf D j).length cp) (fdsOf D j).length (intsC (fdsOf D j)) rfl ((HO.out).alloc _) (wr.heap.size + 1) (some ⟨wr.heap.size, 0, none⟩) 1 1 [.int .i64 (j : Int)] rfl (row_one wr 3 _) (by simp [Value.oneCell']) (by have := HFL.out; simp only [maxLen]; omega) (by have := HFL.out; omega) (by have := HB.out.size; simp; omega) ?_; intro v1 w1 hown1 hg1 hat1)
        go_roundw
        case rel =>
          refine ⟨j + 1, by omega, by go_num, ?_, HB.out.alloc HB.out.size _ |>.grown hg1 (by have := HB.out.size; simp; omega) (fun r hr => (HO.out.lt r hr).1)⟩
          rw [HFS.out, List.length_append]
          simpa [intsC] using hown1
        case measure => simp [intOf]; omega
    · have he : j = 16 := by omega
      subst he
      go_wp2_with fail
      go_returns
      exact ⟨_, rfl, HO.out, HB.out⟩

/-- of a table of sources and sinks -/
def Plain (D : Nat → Value) : Prop := ∀ i, i < 16 → D i = .nilIface ∨ (∃ s, D i = sourceV s) ∨ ∃ s, D i = sinkV s
theorem Plain.iface {D : Nat → Value} (h : Plain D) : ∀ i, i < 16 → D i = .nilIface ∨ ∃ t x, D i = .iface t x := by
  intro i hi
  rcases h i hi with h | ⟨s, h⟩ | ⟨s, h⟩
  · exact .inl h
  · exact .inr ⟨_, _, h⟩
  · exact .inr ⟨_, _, h⟩
theorem TableOf.congr {w : World} {b k : Nat} {D D' : Nat → Value} (h : TableOf w b k D) (hD : ∀ i, i < 16 → D i = D' i) : TableOf w b k D' := by
  unfold TableOf at h ⊢
  have e : tableCells k D = tableCells k D' := by
    unfold tableCells
    congr 2
    exact List.map_congr_left fun i hi => hD i (List.mem_range.1 hi)
  rwa [e] at h

set_option maxRecDepth 100000 in
set_option maxHeartbeats 2000000 in
theorem kFree (w : World) (b k : Nat) (D : Nat → Value) (h : TableOf w b k D) (hD : Plain D) :
    Calls Tryz.prog 100 #[.pointer (some ⟨b, 0, none⟩)] w fun e w' => e = .returned (.tuple #[]) ∧ TableOf w' b k (fun _ => .nilIface) ∧ Turns [b] w w' := by
  have hfd := kFds w b k D h hD.iface
  obtain ⟨fl, hfl⟩ : ∃ fl, fdsOf D 16 = fl := ⟨_, rfl⟩
  rw [hfl] at hfd
  have hmem : ∀ i, i ∈ fl → i < 16 ∧ isNilV (D i) = false := by
    intro i hi
    rw [← hfl] at hi
    have := List.mem_filter.1 hi
    exact ⟨List.mem_range.1 this.1, by simpa using this.2⟩
  have hall : ∀ i, i < 16 → i ∉ fl → D i = .nilIface := by
    intro i hi hn
    rcases hD i hi with e | ⟨s, e⟩ | ⟨s, e⟩
    · exact e
    all_goals
      exfalso
      apply hn
      rw [← hfl]
      exact List.mem_filter.2 ⟨List.mem_range.2 hi, by rw [e]; rfl⟩
  have hnd : fl.Nodup := by rw [← hfl]; exact List.Pairwise.filter _ List.nodup_range
  have hlen : fl.length ≤ 16 := by rw [← hfl]; exact fdsOf_le D 16
  have hlt := Blk.lt h
  have HM := Lib.hid hmem
  have HA := Lib.hid hall
  have HN := Lib.hid hnd
  have HL := Lib.hid hlen
  have HT := Lib.hid h
  have HD := Lib.hid hD
  clear hfl hmem hall hnd hlen h hD
  go_enter Tryz.func100, Tryz.ntmps100
  go_wp2_with (go_at_call 130; refine hfd.mono ?_; rintro e w1 ⟨v, rfl, hown, hbel⟩; obtain ⟨A, cp, rfl, hcp⟩ := own_slice hown)
  have HO := Lib.hid hown
  have HB := Lib.hid hbel
  clear hown hbel
  go_loopw [7] (fun i W => ∃ (j : Nat), j ≤ fl.length ∧ i = .int .i64 (j : Int) ∧ TableOf W b k (fun i => if i ∈ fl.take j then .nilIface else D i) ∧ Turns [b] w1 W) (fun i _ => fl.length - (intOf i).toNat)
  case atStart => exact ⟨0, Nat.zero_le _, rfl, TableOf.congr (D := D) (Blk.on HT.out HB.out) (fun i _ => by simp), Turns.refl _ _⟩
  case round =>
    obtain ⟨j, hj, rfl, hT, hTu⟩ := hrel
    have hbA : ∀ ad, A = some ad → ad.block ∉ [b] := by
      intro ad hA hm
      rw [List.mem_singleton] at hm
      rcases HO.out.2 with ⟨e, _⟩ | ⟨g, cap, cur, e, hg, _⟩
      · simp only [Value.slice.injEq] at e; rw [hA] at e; exact absurd e.1 (by simp)
      · simp only [Value.slice.injEq] at e; rw [hA] at e; have := e.1; cases this; simp at hm; omega
    have hR := hcp.2.2.turns hTu (Nat.le_refl _) hbA
    have hj16 : j ≤ 16 := Nat.le_trans hj HL.out
    by_cases hlt2 : j < fl.length
    · obtain ⟨ad, u, rfl, _, hu, hcell⟩ := hR.at_ hlt2
      obtain ⟨i0, hi0⟩ : ∃ i0, fl[j]? = some i0 := ⟨_, List.getElem?_eq_getElem hlt2⟩
      have hui : u = .int .i64 (i0 : Int) := by
        rw [intsC, List.getElem?_map, hi0] at hu
        simpa using hu.symm
      subst hui
      have hmi := HM.out i0 (List.mem_of_getElem? hi0)
      have hnt : i0 ∉ fl.take j := by
        intro hm
        obtain ⟨q, hq⟩ := List.getElem?_of_mem hm
        rw [List.getElem?_take] at hq
        split at hq
        · have := (List.getElem?_inj (i := q) (j := j) (by omega) HN.out).1 (by rw [hq, hi0])
          omega
        · cases hq
      have hset : Calls Tryz.prog 60 #[.pointer (some ⟨b, 0, none⟩), .int .i64 (i0 : Int), .nilIface] wr fun e w' => e = .returned (.tuple #[]) ∧ w' = wr.setCell ⟨b, i0 + 1, none⟩ .nilIface := by
        rcases HD.out i0 hmi.1 with e | ⟨s, e⟩ | ⟨s, e⟩
        · rw [e] at hmi; exact absurd hmi.2 (by simp [isNilV])
        · exact setNil wr b k _ hT i0 hmi.1 _ _ (by simp only [if_neg hnt]; rw [e]; rfl) _ (leftSource _ k s)
        · exact setNil wr b k _ hT i0 hmi.1 _ _ (by simp only [if_neg hnt]; rw [e]; rfl) _ (leftSink _ k s)
      have hT2 : TableOf (wr.setCell ⟨b, i0 + 1, none⟩ .nilIface) b k (fun i => if i ∈ fl.take (j + 1) then .nilIface else D i) := by
        refine (hT.set i0 hmi.1 .nilIface).congr fun i hi => ?_
        rw [List.take_add_one, hi0]
        by_cases e : i = i0
        · simp [e]
        · simp [e]
      have HT2 := Lib.hid hT2
      have HTU := Lib.hid hTu
      have HSET := Lib.hid hset
      clear hT2 hTu hset hT hnt hmi hu hi0 hbA hR
      go_wp2_with (go_at_call 60; refine HSET.out.mono ?_; rintro e w2 ⟨rfl, rfl⟩)
      go_roundw
      case rel => exact ⟨j + 1, by omega, by go_num, HT2.out, HTU.out.setCell _ _ (fun _ => List.mem_singleton.2 rfl)⟩
      case measure => simp [intOf]; omega
    · have he : j = fl.length := by omega
      subst he
      have HT2 := Lib.hid hT
      have HTU := Lib.hid hTu
      clear hT hTu hR
      go_wp2_with fail
      go_returns
      refine ⟨rfl, HT2.out.congr fun i hi => ?_, ((Turns.of_below HB.out).more (by simp)).trans HTU.out⟩
      rw [List.take_length]
      by_cases e : i ∈ fl
      · simp [e]
      · simp [e, HA.out i hi e]

end Go.Proofs.YtffffjngodinnaaGreatDoor
end

section
namespace Go.Proofs.YtffffjngodinnaaGreatDoor
open Go.RowKit Go.Maps

set_option maxRecDepth 100000 in
set_option maxHeartbeats 1000000 in
theorem kSaid (w : World) (k : Nat) (K : KS) (h : KernOf w k K) (n : Nat) (hn : n < 4611686018427387904) (p : Nat) (hx : K.tf (numK n) = some (sinkV p)) (base : Nat) (v : Value) (bs : List UInt8) (hp : SinkAt w p v) (hv : OffRow w base 5 v bs.length (bytesC bs)) (hl : bs.length ≤ 140737488355328) :
    Calls Tryz.prog 33 #[.pointer (some ⟨k, 0, none⟩), .int .i64 (n : Int)] w fun e w' => ∃ u, e = .returned u ∧ w'.ownsRow w.heap.size 5 1 u bs.length (bytesC bs) ∧ Below w.heap.size w w' := by
  have hcl := cloneB w v bs (Bytes.of_off hv) hl
  have c0 : w.cell? ⟨p, 0, none⟩ = some v := hp.cell 0
  have c5 : w.cell? ⟨k, 5, none⟩ = some (.map (some K.tb)) := h.blk.cell 5
  obtain ⟨A, cp, hvf, _⟩ := hv.form
  subst hvf
  go_enter Tryz.func33, Tryz.ntmps33
  go_wp2_with (first
    | (go_at_call 62; refine hcl.mono ?_; rintro e w1 ⟨u, rfl, hown, hbel⟩)
    | (at_lookup; refine wpList_look1_of _ rfl _ _ 135 rfl 3 146 intKeys Tryz.underlying135 .nilIface (by kernel_rfl) K.tb K.tn K.tf rfl h.things _ (numK n) rfl (keyOf_int_mk Tryz.underlying3 (WalkArith.wf_i64 (by omega))) ?_; rw [hx]; unfold sinkV))
  go_returns
  exact ⟨_, rfl, hown, hbel⟩

end Go.Proofs.YtffffjngodinnaaGreatDoor
end
