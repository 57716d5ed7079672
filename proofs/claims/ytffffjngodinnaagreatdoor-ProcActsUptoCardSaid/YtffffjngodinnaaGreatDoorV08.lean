/-
  Parts of the proof.
-/
import Derived.Lib.Join
import Derived.Lib.AppendZerosOnto
import Derived.RangeFuncNested
import Derived.Test.YtffffjngodinnaaGreatDoorV07
import Derived.Test.YtffffjngodinnaaGreatDoorV06
import Derived.Deep.MidRow
section
namespace Go.Proofs.YtffffjngodinnaaGreatDoor
set_option maxRecDepth 100000
open Go.RowKit Go.Maps
structure Item where
 ino : Nat
 mode : Int
 tick : Int
 dir : Bool
 dv : Value
 data : List UInt8
 nb : Nat
 nn : Nat
 nf : List UInt8 -> Option Nat
 up : Nat
 links : Int
 held : Int
def ptrV (b : Nat) : Value := .pointer (some ⟨b, 0, none⟩)
def itemCells (x : Item) : Array Value :=
 #[.int .i64 (x.ino : Int), .int .i64 x.mode, .int .i64 x.tick, .bool x.dir, x.dv, .map (if x.dir then some x.nb else none), .pointer (if x.dir then some ⟨x.up, 0, none⟩ else none), .int .i64 x.links, .int .i64 x.held]
def namesF (nf : List UInt8 -> Option Nat) : Lit -> Option Value
 | .string s => (nf s).map ptrV
 | _ => none
structure TS where
 root : Nat
 fb : Nat
 fn : Nat
 files : Nat -> Option Nat
 next : Nat
 many : Int
 items : Nat -> Option Item
open Classical in
noncomputable def filesF (f : Nat -> Option Nat) : Lit -> Option Value
 | .int .i64 n => if 0 <= n then (f n.toNat).map ptrV else none
 | _ => none
theorem MapOf.blk_ne' {w : World} {P : Program} {q t : TypeId} {b n g : Nat} {f : Lit -> Option Value} {cs : Array Value} (h : MapOf w P q b n f) (hg : Blk w g t cs) : b ≠ g := by
 obtain ⟨D, ⟨es, clock, h0, _⟩, _⟩ := h
 rintro rfl
 rw [show w.heap[b]? = _ from hg] at h0
 cases h0
structure TreeOf (w : World) (t : Nat) (T : TS) : Prop where
 blk : Blk w t 169 #[ptrV T.root, .map (some T.fb), .int .i64 (T.next : Int), .int .i64 T.many]
 files : MapOf w Tryz.prog 3 T.fb T.fn (filesF T.files)
 item : ∀ b x, T.items b = some x -> Blk w b 179 (itemCells x) /\ OffRow w 0 5 x.dv x.data.length (bytesC x.data) /\
  (x.dir = true -> MapOf w Tryz.prog 9 x.nb x.nn (namesF x.nf) /\ x.nb ≠ T.fb)
 apart : ∀ b b' x x', T.items b = some x -> T.items b' = some x' -> b ≠ b' -> (x.dir = true -> x'.dir = true -> x.nb ≠ x'.nb) /\ (x.dv.ownBlock ≠ none -> x.dv.ownBlock ≠ x'.dv.ownBlock)
def rootItem (h : Nat) : Item := { ino := 1, mode := 493, tick := 0, dir := true, dv := .slice none 0 0, data := [], nb := h, nn := 0, nf := fun _ => none, up := h + 1, links := 0, held := 0 }
def emptyT (h : Nat) : TS := { root := h + 1, fb := h + 1 + 1, fn := 0, files := fun _ => none, next := 2, many := 0, items := fun b => if b = h + 1 then some (rootItem h) else none }
theorem namesF_none : namesF (fun _ => none) = fun _ => none := by funext l; cases l <;> rfl
theorem filesF_none : filesF (fun _ => none) = fun _ => none := by
 funext l
 unfold filesF
 split
 · split <;> rfl
 · rfl
set_option maxHeartbeats 1000000 in
theorem treeNew (w : World) : Calls Tryz.prog 90 #[] w fun e w' => e = .returned (ptrV (w.heap.size + 1 + 1 + 1)) /\ TreeOf w' (w.heap.size + 1 + 1 + 1) (emptyT w.heap.size) /\ Below w.heap.size w w' := by
 have hmm := @run_makeMap Tryz.prog
 go_enter Tryz.func90, Tryz.ntmps90
 go_wp2
 go_returns
 obtain ⟨h, hh⟩ : ∃ h, w.heap.size = h := ⟨_, rfl⟩
 rw [hh]
 obtain ⟨w1, h1⟩ : ∃ w1, w.alloc (.map #[] 0) = w1 := ⟨_, rfl⟩
 have s1 : w1.heap.size = h + 1 := by rw [<- h1]; simp [hh]
 have m1 : MapOf w1 Tryz.prog 9 h 0 (fun _ => none) := by rw [<- h1, <- hh]; exact MapOf.made w Tryz.prog 9
 have b1 : Below h w w1 := by rw [<- h1, <- hh]; exact (Below.refl _ w).alloc (Nat.le_refl _) _
 rw [h1]
 obtain ⟨o2, ho2⟩ : ∃ o : Array Value, #[.int .i64 1, .int .i64 493, .int .i64 0, .bool true, .slice none 0 0, .map (some h), .pointer (some ⟨h + 1, 0, none⟩), .int .i64 0, .int .i64 0] = o := ⟨_, rfl⟩
 have hi2 : itemCells (rootItem h) = o2 := by rw [<- ho2]; rfl
 rw [ho2]
 obtain ⟨w2, h2⟩ : ∃ w2, w1.alloc (.cells o2 179) = w2 := ⟨_, rfl⟩
 have s2 : w2.heap.size = h + 1 + 1 := by rw [<- h2]; simp [s1]
 have k2 : Blk w2 (h + 1) 179 o2 := by rw [<- h2, <- s1]; exact Blk.new w1 _ _
 have m2 : MapOf w2 Tryz.prog 9 h 0 (fun _ => none) := by rw [<- h2]; exact m1.same (Below.heap_alloc _ _ _ (by omega))
 have b2 : Below h w w2 := by rw [<- h2]; exact b1.alloc (by omega) _
 rw [h2]
 obtain ⟨w3, h3⟩ : ∃ w3, w2.alloc (.map #[] 0) = w3 := ⟨_, rfl⟩
 have s3 : w3.heap.size = h + 1 + 1 + 1 := by rw [<- h3]; simp [s2]
 have k3 : Blk w3 (h + 1) 179 o2 := by rw [<- h3]; exact k2.alloc _
 have m3 : MapOf w3 Tryz.prog 9 h 0 (fun _ => none) := by rw [<- h3]; exact m2.same (Below.heap_alloc _ _ _ (by omega))
 have f3 : MapOf w3 Tryz.prog 3 (h + 1 + 1) 0 (fun _ => none) := by rw [<- h3, <- s2]; exact MapOf.made w2 Tryz.prog 3
 have b3 : Below h w w3 := by rw [<- h3]; exact b2.alloc (by omega) _
 rw [h3]
 refine ⟨rfl, ⟨?_, ?_, ?_, ?_⟩, b3.alloc (by omega) _⟩
 · have := Blk.new w3 169 #[.pointer (some ⟨h + 1, 0, none⟩), .map (some (h + 1 + 1)), .int .i64 2, .int .i64 0]
   rw [s3] at this
   exact this
 · rw [show (emptyT h).files = fun _ => none from rfl, filesF_none]
   exact f3.same (Below.heap_alloc _ _ _ (by show h + 1 + 1 < _; omega))
 · intro b x hx
   have hb : b = h + 1 /\ x = rootItem h := by
    simp only [emptyT] at hx
    split at hx
    · exact ⟨by assumption, by simpa using hx.symm⟩
    · cases hx
   obtain ⟨rfl, rfl⟩ := hb
   refine ⟨by rw [hi2]; exact k3.alloc _, OffRow.nil _ _ _, fun _ => ⟨?_, by simp [rootItem, emptyT]; omega⟩⟩
   rw [show (rootItem h).nf = fun _ => none from rfl, namesF_none]
   exact m3.same (Below.heap_alloc _ _ _ (by show h < _; omega))
 · intro b b' x x' hx hx' hne
   simp only [emptyT] at hx hx'
   split at hx
   · split at hx'
     · omega
     · cases hx'
   · cases hx
theorem TreeOf.below {w w' : World} {t : Nat} {T : TS} (h : TreeOf w t T) (hb : Below w.heap.size w w') : TreeOf w' t T := by
 have hk : ∀ g, g < w.heap.size -> w'.heap[g]? = w.heap[g]? := fun g hg => hb.block g hg
 refine ⟨(hk t h.blk.lt).trans h.blk, h.files.same (hk _ h.files.lt), fun b x hx => ?_, h.apart⟩
 obtain ⟨h1, h2, h3⟩ := h.item b x hx
 exact ⟨(hk b h1.lt).trans h1, h2.same fun g hg => hk g (h2.lt hg).2, fun hd => ⟨(h3 hd).1.same (hk _ (h3 hd).1.lt), (h3 hd).2⟩⟩
def NoTree (w : World) (g : Nat) : Prop := g < w.heap.size -> ∃ e cs, Blk w g e cs /\ e ≠ 169 /\ e ≠ 179 /\ e ≠ 5
theorem TreeOf.turns {w w' : World} {t : Nat} {T : TS} {S : List Nat} (h : TreeOf w t T) (ht : Turns S w w') (hS : ∀ g ∈ S, NoTree w g) : TreeOf w' t T := by
 have hk : ∀ g cs e, Blk w g e cs -> (e = 169 \/ e = 179 \/ e = 5) -> w'.heap[g]? = w.heap[g]? := by
  intro g cs e hg he
  refine ht.block g hg.lt fun hm => ?_
  obtain ⟨e', cs', hb, h1, h2, h3⟩ := hS g hm hg.lt
  have hee : e = e' := by
   have h4 := (show w.heap[g]? = _ from hg).symm.trans hb
   injection h4 with h4
   injection h4
  subst hee
  rcases he with he | he | he
  · exact h1 he
  · exact h2 he
  · exact h3 he
 have hm : ∀ q b n f, MapOf w Tryz.prog q b n f -> w'.heap[b]? = w.heap[b]? := by
  intro q b n f hf
  refine ht.block b hf.lt fun hm => ?_
  obtain ⟨e', cs', hb, _⟩ := hS b hm hf.lt
  exact absurd rfl (MapOf.blk_ne' hf hb)
 refine ⟨(hk t _ _ h.blk (.inl rfl)).trans h.blk, h.files.same (hm _ _ _ _ h.files), fun b x hx => ?_, h.apart⟩
 obtain ⟨h1, h2, h3⟩ := h.item b x hx
 refine ⟨(hk b _ _ h1 (.inr (.inl rfl))).trans h1, h2.same fun g hg => ?_, fun hd => ⟨(h3 hd).1.same (hm _ _ _ _ (h3 hd).1), (h3 hd).2⟩⟩
 rcases h2.2 with ⟨e, _⟩ | ⟨g', off, cap, cur, e, _, hb, _⟩
 · rw [e] at hg; simp [Value.ownBlock] at hg
 · obtain rfl : g' = g := by rw [e] at hg; simpa [Value.ownBlock] using hg
   exact hk g' cur _ hb (.inr (.inr rfl))
set_option maxHeartbeats 1000000 in
theorem treeLoadNil (w : World) : Calls Tryz.prog 55 #[.slice none 0 0] w fun e w' => e = .returned (.tuple #[ptrV (w.heap.size + 1 + 1 + 1), .int .i64 0]) /\ TreeOf w' (w.heap.size + 1 + 1 + 1) (emptyT w.heap.size) /\ Below w.heap.size w w' := by
 have hmm := @run_makeMap Tryz.prog
 go_enter Tryz.func55, Tryz.ntmps55
 go_wp2_with (go_at_call 90; refine (treeNew _).mono ?_; rintro e w1 ⟨rfl, hT, hb⟩; unfold ptrV)
 all_goals
  refine wp_loop_rounds 1 ?_
  rw [rounds_succ]
  go_wp2
  go_returns
  exact ⟨rfl, hT.below ((Below.refl _ w1).alloc (Nat.le_refl _) _), hb.alloc hb.size _⟩
end Go.Proofs.YtffffjngodinnaaGreatDoor
end
section
namespace Go.Proofs.YtffffjngodinnaaGreatDoor
open Go.RowKit Go.Maps
structure Rep (S : TS) (T : Abs.T) (β : Nat -> Nat) : Prop where
 root : S.root = β 1
 next : S.next = T.next
 many : S.many = (T.many : Int)
 inj : ∀ i j x y, T.get i = some x -> T.get j = some y -> β i = β j -> i = j
 item : ∀ i x, T.get i = some x -> ∃ y, S.items (β i) = some y /\ y.ino = i /\ y.mode = x.mode /\ y.tick = x.tick /\ y.dir = x.dir /\ y.data = x.data /\
  (x.dir = true -> (∀ n, y.nf n = (Abs.lk x.names n).map β) /\ y.up = β x.up) /\ y.links = (T.links i : Int) /\ y.held = (x.held : Int)
 files : ∀ i, S.files i = match T.get i with | some x => if x.dir then none else some (β i) | none => none
structure TreeIs (w : World) (t : Nat) (S : TS) (T : Abs.T) (β : Nat -> Nat) : Prop where
 mem : TreeOf w t S
 rep : Rep S T β
 wf : T.WF
section
variable {w w' : World} {t : Nat} {S : TS} {T : Abs.T} {β : Nat -> Nat}
theorem TreeIs.below (h : TreeIs w t S T β) (hb : Below w.heap.size w w') : TreeIs w' t S T β := ⟨h.mem.below hb, h.rep, h.wf⟩
theorem TreeIs.at_ (h : TreeIs w t S T β) {i : Nat} {x : Abs.Ent} (hx : T.get i = some x) : ∃ y, S.items (β i) = some y /\ Blk w (β i) 179 (itemCells y) /\ y.ino = i /\ y.mode = x.mode /\ y.tick = x.tick /\ y.dir = x.dir /\ y.data = x.data /\
 (x.dir = true -> (∀ n, y.nf n = (Abs.lk x.names n).map β) /\ y.up = β x.up) /\ y.links = (T.links i : Int) /\ y.held = (x.held : Int) := by
 obtain ⟨y, h1, h2⟩ := h.rep.item i x hx
 exact ⟨y, h1, (h.mem.item _ _ h1).1, h2⟩
end
theorem emptyT_rep (h : Nat) : Rep (emptyT h) Abs.emptyT (fun _ => h + 1) := by
 refine ⟨rfl, rfl, rfl, ?_, ?_, ?_⟩
 · intro i j x y hx hy _
   rw [(Abs.emptyT_get hx).1, (Abs.emptyT_get hy).1]
 · intro i x hx
   obtain ⟨rfl, rfl⟩ := Abs.emptyT_get hx
   exact ⟨rootItem h, by simp [emptyT], rfl, rfl, rfl, rfl, rfl, fun _ => ⟨fun _ => rfl, rfl⟩, rfl, rfl⟩
 · intro i
   show none = _
   cases hg : Abs.emptyT.get i with
   | none => rfl
   | some x => obtain ⟨rfl, rfl⟩ := Abs.emptyT_get hg; rfl
theorem emptyT_is {w : World} {t h : Nat} (hT : TreeOf w t (emptyT h)) : TreeIs w t (emptyT h) Abs.emptyT (fun _ => h + 1) := ⟨hT, emptyT_rep h, Abs.emptyT_wf⟩
end Go.Proofs.YtffffjngodinnaaGreatDoor
end
section
namespace Go.Proofs.YtffffjngodinnaaGreatDoor
open Go.RowKit Go.Maps
structure TurnsP (F : Nat -> Prop) (w w' : World) : Prop where
 os : w'.os = w.os
 tape : w'.tape = w.tape
 output : w'.output = w.output
 size : w.heap.size <= w'.heap.size
 block : ∀ k, k < w.heap.size -> ¬ F k -> w'.heap[k]? = w.heap[k]?
section
variable {w w' w'' : World} {F G : Nat -> Prop}
theorem TurnsP.refl (F : Nat -> Prop) (w : World) : TurnsP F w w := ⟨rfl, rfl, rfl, Nat.le_refl _, fun _ _ _ => rfl⟩
theorem TurnsP.then (h : TurnsP F w w') (h' : TurnsP G w' w'') (hs : ∀ k, G k -> F k \/ w.heap.size <= k) : TurnsP F w w'' :=
 ⟨h'.os.trans h.os, h'.tape.trans h.tape, h'.output.trans h.output, Nat.le_trans h.size h'.size, fun k hk hn => (h'.block k (Nat.lt_of_lt_of_le hk h.size) (fun hg => (hs k hg).elim hn (fun hge => by omega))).trans (h.block k hk hn)⟩
theorem TurnsP.more (h : TurnsP F w w') (hs : ∀ k, F k -> G k) : TurnsP G w w' := ⟨h.os, h.tape, h.output, h.size, fun k hk hn => h.block k hk (fun hm => hn (hs k hm))⟩
theorem TurnsP.of_below (h : Below w.heap.size w w') : TurnsP F w w' := ⟨h.os, h.tape, h.output, h.size, fun k hk _ => h.block k hk⟩
theorem TurnsP.grown {row : Option Nat} (h : TurnsP F w w') (hg : w'.grownBy w'' row) (hr : ∀ k, row = some k -> k < w.heap.size -> F k) : TurnsP F w w'' :=
 ⟨hg.os.trans h.os, hg.tape.trans h.tape, hg.output.trans h.output, Nat.le_trans h.size hg.size, fun k hk hn => (hg.block k (Nat.lt_of_lt_of_le hk h.size) (fun e => hn (hr k e.symm hk))).trans (h.block k hk hn)⟩
theorem TurnsP.setCell (h : TurnsP F w w') (p : Addr) (v : Value) (hp : p.block < w.heap.size -> F p.block) : TurnsP F w (w'.setCell p v) :=
 ⟨h.os, h.tape, h.output, by simpa [World.setCell] using h.size, fun k hk hn => (Below.heap_setCell _ _ _ _ (by rintro rfl; exact hn (hp hk))).trans (h.block k hk hn)⟩
theorem TurnsP.alloc (h : TurnsP F w w') (o : Obj) : TurnsP F w (w'.alloc o) :=
 ⟨h.os, h.tape, h.output, Nat.le_trans h.size (by simp), fun k hk hn => (Below.heap_alloc _ _ _ (Nat.lt_of_lt_of_le hk h.size)).trans (h.block k hk hn)⟩
theorem TurnsP.drew (h : TurnsP F w w') : TurnsP F w w'.drew := ⟨h.os, h.tape, h.output, h.size, h.block⟩
theorem grown_setCell (w : World) (p : Addr) (v : Value) : w.grownBy (w.setCell p v) (some p.block) :=
 ⟨rfl, rfl, rfl, by simp [World.setCell], fun k _ hne => Below.heap_setCell _ _ _ _ (fun e => hne (by rw [e]))⟩
end
def TS.put (S : TS) (b : Nat) (y : Item) : TS := { S with items := fun c => if c = b then some y else S.items c }
theorem TS.put_same (S : TS) (b : Nat) (y : Item) : (S.put b y).items b = some y := if_pos rfl
theorem TS.put_other (S : TS) {b c : Nat} (y : Item) (h : c ≠ b) : (S.put b y).items c = S.items c := if_neg h
def TS.foot (S : TS) (t b : Nat) : Prop := b = t \/ b = S.fb \/ ∃ i y, S.items i = some y /\ (b = i \/ (y.dir = true /\ b = y.nb) \/ y.dv.ownBlock = some b)
theorem OffRow.obj {w : World} {base n g : Nat} {e : TypeId} {v : Value} {xs : List Value} (h : OffRow w base e v n xs) (hv : v.ownBlock = some g) : ∃ cur, Blk w g e cur := by
 rcases h.2 with ⟨rfl, _⟩ | ⟨g', off, cap, cur, rfl, _, hg, _⟩
 · simp [Value.ownBlock] at hv
 · obtain rfl : g' = g := by simpa [Value.ownBlock] using hv
   exact ⟨cur, hg⟩
theorem MapOf.ne_blk {w : World} {P : Program} {q t : TypeId} {b n g : Nat} {f : Lit -> Option Value} {cs : Array Value} (h : MapOf w P q b n f) (hg : Blk w g t cs) : b ≠ g := h.blk_ne' hg
section
variable {w w' : World} {t b : Nat} {S : TS} {y y' : Item}
theorem TreeOf.foot_lt (h : TreeOf w t S) {g : Nat} (hg : S.foot t g) : g < w.heap.size := by
 rcases hg with rfl | rfl | ⟨i, y, hy, rfl | ⟨hd, rfl⟩ | hv⟩
 · exact h.blk.lt
 · exact h.files.lt
 · exact (h.item _ _ hy).1.lt
 · exact ((h.item _ _ hy).2.2 hd).1.lt
 · exact ((h.item _ _ hy).2.1.lt hv).2
theorem TreeOf.off {F : Nat -> Prop} (h : TreeOf w t S) (ht : TurnsP F w w') (hF : ∀ g, S.foot t g -> ¬ F g) : TreeOf w' t S := by
 have hk : ∀ g, S.foot t g -> w'.heap[g]? = w.heap[g]? := fun g hg => ht.block g (h.foot_lt hg) (hF g hg)
 refine ⟨(hk t (.inl rfl)).trans h.blk, h.files.same (hk _ (.inr (.inl rfl))), fun b x hx => ?_, h.apart⟩
 obtain ⟨h1, h2, h3⟩ := h.item b x hx
 exact ⟨(hk b (.inr (.inr ⟨b, x, hx, .inl rfl⟩))).trans h1, h2.same fun g hg => hk g (.inr (.inr ⟨b, x, hx, .inr (.inr hg)⟩)), fun hd => ⟨(h3 hd).1.same (hk _ (.inr (.inr ⟨b, x, hx, .inr (.inl ⟨hd, rfl⟩)⟩))), (h3 hd).2⟩⟩
theorem TreeOf.setItem (h : TreeOf w t S) (hy : S.items b = some y) (hg : w.grownBy w' (some b)) (hb : Blk w' b 179 (itemCells y'))
 (e1 : y'.dir = y.dir) (e2 : y'.nb = y.nb) (e3 : y'.nn = y.nn) (e4 : y'.nf = y.nf) (e5 : y'.dv = y.dv) (e6 : y'.data = y.data) : TreeOf w' t (S.put b y') := by
 obtain ⟨i1, i2, i3⟩ := h.item b y hy
 have hk : ∀ g, g < w.heap.size -> g ≠ b -> w'.heap[g]? = w.heap[g]? := fun g hl hne => hg.block g hl (by simpa using hne)
 refine ⟨(hk t h.blk.lt (Blk.ne_ h.blk i1 (by decide))).trans h.blk, h.files.same (hk _ h.files.lt (h.files.ne_blk i1)), fun c x hx => ?_, fun c c' x x' hx hx' hne => ?_⟩
 · by_cases hc : c = b
   · subst hc
     rw [TS.put_same] at hx
     cases hx
     refine ⟨hb, ?_, fun hd => ?_⟩
     · rw [e5, e6]
       exact i2.same fun g hv => hk g (i2.lt hv).2 (fun e => i2.blk_ne i1 (by decide) (e ▸ hv))
     · rw [e1] at hd
       rw [e2, e3, e4]
       exact ⟨(i3 hd).1.same (hk _ (i3 hd).1.lt ((i3 hd).1.ne_blk i1)), (i3 hd).2⟩
   · rw [TS.put_other S y' hc] at hx
     obtain ⟨j1, j2, j3⟩ := h.item c x hx
     refine ⟨(hk c j1.lt hc).trans j1, j2.same fun g hv => hk g (j2.lt hv).2 (fun e => j2.blk_ne i1 (by decide) (e ▸ hv)), fun hd => ⟨(j3 hd).1.same (hk _ (j3 hd).1.lt ((j3 hd).1.ne_blk i1)), (j3 hd).2⟩⟩
 · by_cases hc : c = b
   · subst hc
     rw [TS.put_same] at hx
     cases hx
     rw [TS.put_other S y' (fun e => hne e.symm)] at hx'
     rw [e1, e2, e5]
     exact h.apart _ _ y x' hy hx' hne
   · rw [TS.put_other S y' hc] at hx
     by_cases hc' : c' = b
     · subst hc'
       rw [TS.put_same] at hx'
       cases hx'
       rw [e1, e2, e5]
       exact h.apart _ _ x y hx hy hne
     · rw [TS.put_other S y' hc'] at hx'
       exact h.apart _ _ x x' hx hx' hne
theorem TreeOf.setNames (h : TreeOf w t S) (hy : S.items b = some y) (hd : y.dir = true) (hg : w.grownBy w' (some y.nb)) (nn : Nat) (nf : List UInt8 -> Option Nat) (hm : MapOf w' Tryz.prog 9 y.nb nn (namesF nf)) : TreeOf w' t (S.put b { y with nn := nn, nf := nf }) := by
 obtain ⟨i1, i2, i3⟩ := h.item b y hy
 have hk : ∀ g, g < w.heap.size -> g ≠ y.nb -> w'.heap[g]? = w.heap[g]? := fun g hl hne => hg.block g hl (by simpa using hne)
 have hbk : ∀ g t cs, Blk w g t cs -> w'.heap[g]? = w.heap[g]? := fun g t cs hb => hk g hb.lt (fun e => (i3 hd).1.ne_blk hb e.symm)
 have hrow : ∀ (v : Value) (n : Nat) (xs : List Value), OffRow w 0 5 v n xs -> OffRow w' 0 5 v n xs := fun v n xs hr => hr.same fun g hv => by obtain ⟨cur, hb⟩ := hr.obj hv; exact hbk g _ _ hb
 refine ⟨(hbk _ _ _ h.blk).trans h.blk, h.files.same (hk _ h.files.lt (fun e => (i3 hd).2 e.symm)), fun c x hx => ?_, fun c c' x x' hx hx' hne => ?_⟩
 · by_cases hc : c = b
   · subst hc
     rw [TS.put_same] at hx
     cases hx
     exact ⟨(hbk _ _ _ i1).trans i1, hrow _ _ _ i2, fun _ => ⟨hm, (i3 hd).2⟩⟩
   · rw [TS.put_other S _ hc] at hx
     obtain ⟨j1, j2, j3⟩ := h.item c x hx
     exact ⟨(hbk _ _ _ j1).trans j1, hrow _ _ _ j2, fun hd' => ⟨(j3 hd').1.same (hk _ (j3 hd').1.lt ((h.apart c b x y hx hy hc).1 hd' hd)), (j3 hd').2⟩⟩
 · by_cases hc : c = b
   · subst hc
     rw [TS.put_same] at hx
     cases hx
     rw [TS.put_other S _ (fun e => hne e.symm)] at hx'
     exact h.apart _ _ y x' hy hx' hne
   · rw [TS.put_other S _ hc] at hx
     by_cases hc' : c' = b
     · subst hc'
       rw [TS.put_same] at hx'
       cases hx'
       exact h.apart _ _ x y hx hy hne
     · rw [TS.put_other S _ hc'] at hx'
       exact h.apart _ _ x x' hx hx' hne
theorem TreeOf.setData (h : TreeOf w t S) (hy : S.items b = some y) (e1 : y'.dir = y.dir) (e2 : y'.nb = y.nb) (e3 : y'.nn = y.nn) (e4 : y'.nf = y.nf)
 (ht : TurnsP (fun g => g = b \/ y.dv.ownBlock = some g) w w') (hb : Blk w' b 179 (itemCells y')) (hr : OffRow w' 0 5 y'.dv y'.data.length (bytesC y'.data))
 (hown : ∀ g, y'.dv.ownBlock = some g -> y.dv.ownBlock = some g \/ w.heap.size <= g) : TreeOf w' t (S.put b y') := by
 obtain ⟨i1, i2, i3⟩ := h.item b y hy
 have hnb : ∀ {g t cs}, Blk w g t cs -> t ≠ 5 -> g ≠ b -> w'.heap[g]? = w.heap[g]? := fun {g t cs} hg hne hgb => ht.block g hg.lt (by
  rintro (rfl | hv)
  · exact hgb rfl
  · obtain ⟨cur, hc⟩ := i2.obj hv
    exact Blk.ne_ hg hc hne rfl)
 have hmp : ∀ {q g n f}, MapOf w Tryz.prog q g n f -> w'.heap[g]? = w.heap[g]? := fun {q g n f} hm => ht.block g hm.lt (by
  rintro (rfl | hv)
  · exact hm.ne_blk i1 rfl
  · obtain ⟨cur, hc⟩ := i2.obj hv
    exact hm.ne_blk hc rfl)
 refine ⟨(hnb h.blk (by decide) (Blk.ne_ h.blk i1 (by decide))).trans h.blk, h.files.same (hmp h.files), fun c x hx => ?_, fun c c' x x' hx hx' hne => ?_⟩
 · by_cases hc : c = b
   · subst hc
     rw [TS.put_same] at hx
     cases hx
     refine ⟨hb, hr, fun hd => ?_⟩
     rw [e1] at hd
     rw [e2, e3, e4]
     exact ⟨(i3 hd).1.same (hmp (i3 hd).1), (i3 hd).2⟩
   · rw [TS.put_other S y' hc] at hx
     obtain ⟨j1, j2, j3⟩ := h.item c x hx
     refine ⟨(hnb j1 (by decide) hc).trans j1, j2.same fun g hv => ht.block g (j2.lt hv).2 ?_, fun hd => ⟨(j3 hd).1.same (hmp (j3 hd).1), (j3 hd).2⟩⟩
     rintro (rfl | hv')
     · exact j2.blk_ne i1 (by decide) hv
     · exact (h.apart c b x y hx hy hc).2 (by rw [hv]; simp) (hv.trans hv'.symm)
 · by_cases hc : c = b
   · subst hc
     rw [TS.put_same] at hx
     cases hx
     rw [TS.put_other S y' (fun e => hne e.symm)] at hx'
     rw [e1, e2]
     refine ⟨(h.apart _ _ y x' hy hx' hne).1, fun hn he => ?_⟩
     cases hv : y'.dv.ownBlock with
     | none => exact hn hv
     | some g =>
       rw [hv] at he
       have j2 := (h.item _ _ hx').2.1
       rcases hown g hv with h1 | h1
       · exact (h.apart _ _ y x' hy hx' hne).2 (by rw [h1]; simp) (h1.trans he)
       · have := (j2.lt he.symm).2; omega
   · rw [TS.put_other S y' hc] at hx
     by_cases hc' : c' = b
     · subst hc'
       rw [TS.put_same] at hx'
       cases hx'
       rw [e1, e2]
       refine ⟨(h.apart _ _ x y hx hy hne).1, fun hn he => ?_⟩
       cases hv : x.dv.ownBlock with
       | none => exact hn hv
       | some g =>
         rw [hv] at he
         have j2 := (h.item _ _ hx).2.1
         rcases hown g he.symm with h1 | h1
         · exact (h.apart _ _ x y hx hy hne).2 (by rw [hv]; simp) (hv.trans h1.symm)
         · have := (j2.lt hv).2; omega
     · rw [TS.put_other S y' hc'] at hx'
       exact h.apart _ _ x x' hx hx' hne
theorem TreeOf.setTree (h : TreeOf w t S) (hg : w.grownBy w' (some t)) (next : Nat) (many : Int) (hb : Blk w' t 169 #[ptrV S.root, .map (some S.fb), .int .i64 (next : Int), .int .i64 many]) : TreeOf w' t { S with next := next, many := many } := by
 have hk : ∀ g, g < w.heap.size -> g ≠ t -> w'.heap[g]? = w.heap[g]? := fun g hl hne => hg.block g hl (by simpa using hne)
 refine ⟨hb, h.files.same (hk _ h.files.lt (h.files.ne_blk h.blk)), fun c x hx => ?_, h.apart⟩
 obtain ⟨j1, j2, j3⟩ := h.item c x hx
 exact ⟨(hk c j1.lt (Blk.ne_ j1 h.blk (by decide))).trans j1, j2.same fun g hv => hk g (j2.lt hv).2 (fun e => j2.blk_ne h.blk (by decide) (e ▸ hv)), fun hd => ⟨(j3 hd).1.same (hk _ (j3 hd).1.lt ((j3 hd).1.ne_blk h.blk)), (j3 hd).2⟩⟩
theorem TreeOf.setFiles (h : TreeOf w t S) (hg : w.grownBy w' (some S.fb)) (fn : Nat) (files : Nat -> Option Nat) (hm : MapOf w' Tryz.prog 3 S.fb fn (filesF files)) : TreeOf w' t { S with fn := fn, files := files } := by
 have hk : ∀ g, g < w.heap.size -> g ≠ S.fb -> w'.heap[g]? = w.heap[g]? := fun g hl hne => hg.block g hl (by simpa using hne)
 have hbk : ∀ g t cs, Blk w g t cs -> w'.heap[g]? = w.heap[g]? := fun g t cs hb => hk g hb.lt (fun e => h.files.ne_blk hb e.symm)
 refine ⟨(hbk _ _ _ h.blk).trans h.blk, hm, fun c x hx => ?_, h.apart⟩
 obtain ⟨j1, j2, j3⟩ := h.item c x hx
 exact ⟨(hbk _ _ _ j1).trans j1, j2.same fun g hv => (by obtain ⟨cur, hb⟩ := j2.obj hv; exact hbk g _ _ hb), fun hd => ⟨(j3 hd).1.same (hk _ (j3 hd).1.lt (j3 hd).2), (j3 hd).2⟩⟩
theorem TreeOf.addItem (h : TreeOf w t S) (hb : Blk w b 179 (itemCells y)) (hr : OffRow w 0 5 y.dv y.data.length (bytesC y.data)) (hm : y.dir = true -> MapOf w Tryz.prog 9 y.nb y.nn (namesF y.nf))
 (hnb : y.dir = true -> ¬ S.foot t y.nb) (hnv : ∀ g, y.dv.ownBlock = some g -> ¬ S.foot t g) : TreeOf w t (S.put b y) := by
 refine ⟨h.blk, h.files, fun c x hx => ?_, fun c c' x x' hx hx' hne => ?_⟩
 · by_cases hc : c = b
   · subst hc
     rw [TS.put_same] at hx
     cases hx
     exact ⟨hb, hr, fun hd => ⟨hm hd, fun e => hnb hd (e ▸ .inr (.inl rfl))⟩⟩
   · rw [TS.put_other S y hc] at hx
     exact h.item c x hx
 · by_cases hc : c = b
   · subst hc
     rw [TS.put_same] at hx
     cases hx
     rw [TS.put_other S y (fun e => hne e.symm)] at hx'
     refine ⟨fun hd hd' e => hnb hd (.inr (.inr ⟨c', x', hx', .inr (.inl ⟨hd', e⟩)⟩)), fun hn he => ?_⟩
     cases hv : y.dv.ownBlock with
     | none => exact hn hv
     | some g => exact hnv g hv (.inr (.inr ⟨c', x', hx', .inr (.inr (he.symm.trans hv))⟩))
   · rw [TS.put_other S y hc] at hx
     by_cases hc' : c' = b
     · subst hc'
       rw [TS.put_same] at hx'
       cases hx'
       refine ⟨fun hd hd' e => hnb hd' (.inr (.inr ⟨c, x, hx, .inr (.inl ⟨hd, e.symm⟩)⟩)), fun hn he => ?_⟩
       cases hv : x.dv.ownBlock with
       | none => exact hn hv
       | some g => exact hnv g (he.symm.trans hv) (.inr (.inr ⟨c, x, hx, .inr (.inr hv)⟩))
     · rw [TS.put_other S y hc'] at hx'
       exact h.apart _ _ x x' hx hx' hne
end
end Go.Proofs.YtffffjngodinnaaGreatDoor
end
section
namespace Go.Proofs.YtffffjngodinnaaGreatDoor
open Go.RowKit
section
variable {P : Program}
theorem run_store_blk {w : World} {g : Nat} {t : TypeId} {old : Array Value} (ty : TypeId) (cells : Array Value) (h : Blk w g t old) (hs : old.size = cells.size) (hi : (P.info? ty).map (·.size) = some cells.size) (h1 : cells.all (·.oneCell') = true) :
 (Instr.storeAt ty (.pointer (some ⟨g, 0, none⟩)) (.agg cells)).run P w = .ok () (w.setRow g cells) := by
 have hr := run_storeCells_at P g 0 t cells.toList 0 old w h (by simp [hs]) (fun v hv => (Array.all_eq_true_iff_forall_mem.1 h1) v (by simpa using hv))
 have e : (old.toList.take (0 + 0) ++ cells.toList ++ old.toList.drop (0 + 0 + cells.toList.length)).toArray = cells := by
  rw [List.take_zero, List.nil_append, List.drop_eq_nil_of_le (by simp [hs]), List.append_nil]
 rw [e] at hr
 cases hq : P.info? ty with
 | none => simp [hq] at hi
 | some i =>
   have hz : cells.size = i.size := by simp [hq] at hi; omega
   simp [Instr.storeAt, Instr.sureAddr, storeVar, sizeOf, typeInfo, hq, Value.cells, hz, hr]
theorem wpList_store_blk {ops : Array Oper} {rest : List Oper} {o : Oper} {a : Act} {w : World} {Q : Exit -> Act -> World -> Prop} (hgd : o.guard = none) (ty : TypeId) (x y : Operand) (ho : o.op = .store ty x y)
 (g : Nat) (t : TypeId) (old cells : Array Value) (hx : a.eval x = .pointer (some ⟨g, 0, none⟩)) (hy : a.eval y = .agg cells) (h : Blk w g t old) (hs : old.size = cells.size) (hi : (P.info? ty).map (·.size) = some cells.size) (h1 : cells.all (·.oneCell') = true)
 (hK : ∀ w', Blk w' g t cells -> w.grownBy w' (some g) -> wpList P ops Q rest (a.put o.dst undef) w') : wpList P ops Q (o :: rest) a w := by
 refine wpList_plain hgd fun K' hK' => ?_
 have hrun := run_store_blk (P := P) ty cells h hs hi h1
 unfold Oper.wp execOp
 simp only [ho, hx, hy, Sem.run_bind, hrun, Sem.run_pure, Result.andThen_ok]
 exact hK' _ _ (hK _ (setRow_heap w g old cells t (0, 0) h) ⟨rfl, rfl, rfl, by simp [World.setRow], fun k _ hk => setRow_other w g k _ (fun e => hk (by rw [e]))⟩)
end
end Go.Proofs.YtffffjngodinnaaGreatDoor
end
section
namespace Go.Proofs.YtffffjngodinnaaGreatDoor.Abs
theorem segs_no (l : List UInt8) : ∀ p ∈ segs l, (47 : UInt8) ∉ p := by
 induction l with
 | nil => simp [segs]
 | cons c l ih =>
   unfold segs
   split
   · intro p hp
     rcases List.mem_cons.1 hp with rfl | hp
     · simp
     · exact ih p hp
   · rename_i hc
     cases hs : segs l with
     | nil => intro p hp; simp at hp; subst hp; simp; exact fun e => hc e.symm
     | cons a b =>
       rw [hs] at ih
       intro p hp
       rcases List.mem_cons.1 hp with rfl | hp
       · intro hm
         rcases List.mem_cons.1 hm with e | hm
         · exact hc e.symm
         · exact ih a (by simp) hm
       · exact ih p (by simp [hp])
theorem segs_ne (l : List UInt8) : segs l ≠ [] := by
 cases l with
 | nil => simp [segs]
 | cons c l =>
   unfold segs
   split
   · simp
   · split <;> simp
theorem segs_self {p : Name} (h : (47 : UInt8) ∉ p) : segs p = [p] := by
 induction p with
 | nil => rfl
 | cons c l ih =>
   unfold segs
   rw [if_neg (fun e => h (by simp [e])), ih (fun hm => h (by simp [hm]))]
theorem segs_cons {c : UInt8} {l : List UInt8} {a : Name} {b : List Name} (hc : c ≠ 47) (hs : segs l = a :: b) : segs (c :: l) = (c :: a) :: b := by simp [segs, hc, hs]
theorem segs_app {p : Name} (h : (47 : UInt8) ∉ p) (l : List UInt8) : segs (p ++ 47 :: l) = p :: segs l := by
 induction p with
 | nil => simp [segs]
 | cons c q ih =>
   rw [List.cons_append]
   exact segs_cons (fun e => h (by simp [e])) (ih (fun hm => h (by simp [hm])))
theorem join_one (p : Name) : Lib.join [p] [47] = p := by simp [Lib.join, List.intercalate]
theorem parts_ok (l : List UInt8) : ∀ p ∈ parts l, p ≠ [] /\ (47 : UInt8) ∉ p := by
 intro p hp
 obtain ⟨h1, h2⟩ := List.mem_filter.1 hp
 exact ⟨fun e => by subst e; simp at h2, segs_no l p h1⟩
theorem segs_join : ∀ (l : List Name), l ≠ [] -> (∀ p ∈ l, (47 : UInt8) ∉ p) -> segs (Lib.join l [47]) = l
 | [], h, _ => absurd rfl h
 | [p], _, h => by
   rw [join_one]
   exact segs_self (h p (by simp))
 | p :: q :: l, _, h => by
   rw [show Lib.join (p :: q :: l) [47] = p ++ 47 :: Lib.join (q :: l) [47] from by simp [Lib.join]]
   rw [segs_app (h p (by simp)), segs_join (q :: l) (by simp) (fun x hx => h x (by simp [hx]))]
theorem parts_join (l : List Name) (h : ∀ p ∈ l, p ≠ [] /\ (47 : UInt8) ∉ p) : parts (Lib.join l [47]) = l := by
 by_cases hl : l = []
 · subst hl; rfl
 · unfold parts
   rw [segs_join l hl (fun p hp => (h p hp).2)]
   refine List.filter_eq_self.2 fun p hp => ?_
   cases p with
   | nil => exact absurd rfl (h _ hp).1
   | cons a b => rfl
def sumL (l : List Name) : Nat := (l.map fun p => p.length + 1).sum
theorem sumL_segs (s : List UInt8) : sumL (segs s) = s.length + 1 := by
 induction s with
 | nil => rfl
 | cons c l ih =>
   unfold segs
   split
   · simp only [sumL, List.map_cons, List.sum_cons, List.length_nil, List.length_cons] at ih ⊢; omega
   · split
     · rename_i h; exact absurd h (segs_ne l)
     · rename_i a b h
       rw [h] at ih
       simp only [sumL, List.map_cons, List.sum_cons, List.length_cons] at ih ⊢; omega
theorem sumL_sub {a b : List Name} (h : a.Sublist b) : sumL a <= sumL b := by
 induction h with
 | slnil => exact Nat.le_refl _
 | cons x _ ih => simp only [sumL, List.map_cons, List.sum_cons] at ih ⊢; omega
 | cons_cons x _ ih => simp only [sumL, List.map_cons, List.sum_cons] at ih ⊢; omega
theorem join_len : ∀ (l : List Name), l ≠ [] -> (Lib.join l [47]).length + 1 = sumL l
 | [], h => absurd rfl h
 | [p], _ => by simp [Lib.join, sumL]
 | p :: q :: l, _ => by
   rw [show Lib.join (p :: q :: l) [47] = p ++ 47 :: Lib.join (q :: l) [47] from by simp [Lib.join]]
   have ih := join_len (q :: l) (by simp)
   simp only [sumL, List.map_cons, List.sum_cons, List.length_append, List.length_cons] at ih ⊢
   omega
theorem join_parts_le (s : List UInt8) : (Lib.join (parts s).dropLast [47]).length <= s.length := by
 by_cases hl : (parts s).dropLast = []
 · rw [hl]; exact Nat.zero_le _
 · have h1 := join_len _ hl
   have h2 : sumL (parts s).dropLast <= sumL (segs s) := sumL_sub ((List.dropLast_sublist _).trans (List.filter_sublist))
   rw [sumL_segs] at h2
   omega
theorem T.place_ne0 {t : T} {e : Nat} {cwd path : List UInt8} (h : t.place cwd path = .error e) : e ≠ 0 := by
 unfold T.place at h
 split at h
 · rename_i e' he; injection h with h; subst h; exact T.start_ne0 he
 · split at h
   · cases h
   · split at h
     · rename_i e' he; injection h with h; subst h; exact T.leads_ne0 he
     · repeat' split at h
       all_goals (cases h <;> decide)
end Go.Proofs.YtffffjngodinnaaGreatDoor.Abs
end
section
namespace Go.Proofs.YtffffjngodinnaaGreatDoor.Abs
theorem nlt_irrefl : ∀ a : Name, nlt a a = false
 | [] => rfl
 | a :: l => by
   unfold nlt
   rw [if_neg (UInt8.lt_irrefl a), if_neg (UInt8.lt_irrefl a)]
   exact nlt_irrefl l
theorem nlt_trans : ∀ {a b c : Name}, nlt a b = true -> nlt b c = true -> nlt a c = true
 | [], [], _, h, _ => by cases h
 | [], _ :: _, [], _, h => by cases h
 | [], _ :: _, _ :: _, _, _ => rfl
 | _ :: _, [], _, h, _ => by cases h
 | _ :: _, _ :: _, [], _, h => by cases h
 | a :: l, b :: m, c :: k, h, h' => by
   unfold nlt at h h' ⊢
   by_cases hab : a < b
   · by_cases hbc : b < c
     · rw [if_pos (UInt8.lt_trans hab hbc)]
     · rw [if_neg hbc] at h'
       split at h'
       · cases h'
       · have : b = c := UInt8.le_antisymm (UInt8.not_lt.1 (by assumption)) (UInt8.not_lt.1 hbc)
         subst this
         rw [if_pos hab]
   · rw [if_neg hab] at h
     split at h
     · cases h
     · have : a = b := UInt8.le_antisymm (UInt8.not_lt.1 (by assumption)) (UInt8.not_lt.1 hab)
       subst this
       by_cases hbc : a < c
       · rw [if_pos hbc]
       · rw [if_neg hbc] at h' ⊢
         split at h'
         · cases h'
         · rename_i hn
           rw [if_neg hn]
           exact nlt_trans h h'
theorem nlt_total : ∀ {a b : Name}, a ≠ b -> nlt a b = false -> nlt b a = true
 | [], [], h, _ => absurd rfl h
 | [], _ :: _, _, h => by cases h
 | _ :: _, [], _, _ => rfl
 | a :: l, b :: m, h, h' => by
   unfold nlt at h' ⊢
   by_cases hab : a < b
   · rw [if_pos hab] at h'; cases h'
   · rw [if_neg hab] at h'
     by_cases hba : b < a
     · rw [if_pos hba]
     · rw [if_neg hba] at h' ⊢
       rw [if_neg hab]
       have : a = b := UInt8.le_antisymm (UInt8.not_lt.1 hba) (UInt8.not_lt.1 hab)
       subst this
       exact nlt_total (fun e => h (by rw [e])) h'
theorem lk_of_mem {l : List (Name × Nat)} {n : Name} {j : Nat} (hs : l.Pairwise (fun a b => nlt a.1 b.1 = true)) (h : (n, j) ∈ l) : lk l n = some j := by
 induction l with
 | nil => cases h
 | cons p l ih =>
   obtain ⟨m, i⟩ := p
   rw [List.pairwise_cons] at hs
   unfold lk
   rcases List.mem_cons.1 h with e | h
   · injection e with e1 e2; subst e1; subst e2; rw [if_pos rfl]
   · have := hs.1 _ h
     rw [if_neg (by rintro rfl; rw [nlt_irrefl] at this; cases this)]
     exact ih hs.2 h
theorem lk_mem {l : List (Name × Nat)} {n : Name} {j : Nat} (h : lk l n = some j) : (n, j) ∈ l := by
 induction l with
 | nil => cases h
 | cons p l ih =>
   obtain ⟨m, i⟩ := p
   unfold lk at h
   split at h
   · rename_i e; subst e; cases h; simp
   · exact List.mem_cons_of_mem _ (ih h)
theorem ins_mem {l : List (Name × Nat)} {n : Name} {j : Nat} {p : Name × Nat} (h : p ∈ ins n j l) : p = (n, j) \/ p ∈ l := by
 induction l with
 | nil => simp [ins] at h; exact .inl h
 | cons q l ih =>
   unfold ins at h
   split at h
   · rcases List.mem_cons.1 h with h | h
     · exact .inl h
     · exact .inr h
   · rcases List.mem_cons.1 h with h | h
     · exact .inr (by rw [h]; simp)
     · exact (ih h).imp id (List.mem_cons_of_mem _)
theorem ins_sorted {l : List (Name × Nat)} {n : Name} (j : Nat) (hs : l.Pairwise (fun a b => nlt a.1 b.1 = true)) (h : lk l n = none) : (ins n j l).Pairwise (fun a b => nlt a.1 b.1 = true) := by
 induction l with
 | nil => simp [ins]
 | cons q l ih =>
   obtain ⟨m, i⟩ := q
   rw [List.pairwise_cons] at hs
   unfold lk at h
   split at h
   · cases h
   · rename_i hne
     unfold ins
     split
     · rename_i hlt
       refine List.pairwise_cons.2 ⟨fun p hp => ?_, List.pairwise_cons.2 hs⟩
       rcases List.mem_cons.1 hp with rfl | hp
       · exact hlt
       · exact nlt_trans hlt (hs.1 p hp)
     · rename_i hlt
       refine List.pairwise_cons.2 ⟨fun p hp => ?_, ih hs.2 h⟩
       rcases ins_mem hp with rfl | hp
       · exact nlt_total hne (by simpa using hlt)
       · exact hs.1 p hp
theorem lk_ins {l : List (Name × Nat)} {n m : Name} {j : Nat} (h : lk l n = none) : lk (ins n j l) m = if m = n then some j else lk l m := by
 induction l with
 | nil => simp [ins, lk]
 | cons p l ih =>
   obtain ⟨q, i⟩ := p
   unfold lk at h
   split at h
   · cases h
   · rename_i hq
     unfold ins
     split
     · rfl
     · show (if m = q then some i else lk (ins n j l) m) = if m = n then some j else if m = q then some i else lk l m
       rw [ih h]
       by_cases h1 : m = q
       · subst h1
         rw [if_pos rfl, if_pos rfl, if_neg (fun e => hq e.symm)]
       · rw [if_neg h1, if_neg h1]
theorem ins_length (n : Name) (j : Nat) (l : List (Name × Nat)) : (ins n j l).length = l.length + 1 := by
 induction l with
 | nil => rfl
 | cons p l ih => unfold ins; split <;> simp [ih]
theorem ins_count (n : Name) (j k : Nat) (l : List (Name × Nat)) : (ins n j l).countP (fun q => q.2 == k) = l.countP (fun q => q.2 == k) + if j = k then 1 else 0 := by
 induction l with
 | nil => simp [ins, List.countP_cons]
 | cons p l ih =>
   unfold ins
   split
   · rw [List.countP_cons]
     by_cases h : j = k <;> simp [h]
   · rw [List.countP_cons, ih, List.countP_cons]
     simp only
     omega
theorem geti_seti {l : List (Nat × Ent)} {i j : Nat} {f : Ent -> Ent} : geti (seti l i f) j = if j = i then (geti l j).map f else geti l j := by
 induction l with
 | nil => simp [seti, geti]
 | cons p l ih =>
   obtain ⟨k, x⟩ := p
   unfold seti at ih ⊢
   rw [List.map_cons]
   by_cases hk : k = i
   · subst hk
     rw [if_pos rfl]
     show (if j = k then some (f x) else geti _ j) = if j = k then (if j = k then some x else geti l j).map f else if j = k then some x else geti l j
     by_cases hj : j = k
     · simp [hj]
     · simp only [if_neg hj, ih]
   · rw [if_neg hk]
     show (if j = k then some x else geti _ j) = if j = i then (if j = k then some x else geti l j).map f else if j = k then some x else geti l j
     by_cases hj : j = k
     · subst hj; simp [hk]
     · simp only [if_neg hj, ih]
theorem geti_append {l m : List (Nat × Ent)} {j : Nat} : geti (l ++ m) j = match geti l j with | some x => some x | none => geti m j := by
 induction l with
 | nil => simp [geti]
 | cons p l ih =>
   obtain ⟨k, x⟩ := p
   rw [List.cons_append]
   show (if j = k then some x else geti (l ++ m) j) = match (if j = k then some x else geti l j) with | some x => some x | none => geti m j
   by_cases hj : j = k
   · rw [if_pos hj, if_pos hj]
   · rw [if_neg hj, if_neg hj]; exact ih
theorem geti_mem {l : List (Nat × Ent)} {j : Nat} {x : Ent} (h : geti l j = some x) : (j, x) ∈ l := by
 induction l with
 | nil => cases h
 | cons p l ih =>
   obtain ⟨k, y⟩ := p
   unfold geti at h
   split at h
   · rename_i e; subst e; cases h; simp
   · exact List.mem_cons_of_mem _ (ih h)
theorem geti_of_mem {l : List (Nat × Ent)} {j : Nat} {x : Ent} (hn : (l.map (·.1)).Nodup) (h : (j, x) ∈ l) : geti l j = some x := by
 induction l with
 | nil => cases h
 | cons p l ih =>
   obtain ⟨k, y⟩ := p
   rw [List.map_cons, List.nodup_cons] at hn
   unfold geti
   rcases List.mem_cons.1 h with e | h2
   · injection e with e1 e2; subst e1; subst e2; rw [if_pos rfl]
   · rw [if_neg (fun e => hn.1 (by subst e; exact List.mem_map.2 ⟨_, h2, rfl⟩))]
     exact ih hn.2 h2
theorem seti_keys (l : List (Nat × Ent)) (i : Nat) (f : Ent -> Ent) : (seti l i f).map (·.1) = l.map (·.1) := by
 unfold seti
 rw [List.map_map]
 refine List.map_congr_left fun p _ => ?_
 simp only [Function.comp]
 split <;> rfl
theorem sum_seti {l : List (Nat × Ent)} {i : Nat} {f : Ent -> Ent} {g : Ent -> Nat} {x : Ent} {c : Nat} (hn : (l.map (·.1)).Nodup) (hx : geti l i = some x) (hg : g (f x) = g x + c) : ((seti l i f).map fun p => g p.2).sum = (l.map fun p => g p.2).sum + c := by
 induction l with
 | nil => cases hx
 | cons p l ih =>
   obtain ⟨k, y⟩ := p
   rw [List.map_cons, List.nodup_cons] at hn
   unfold geti at hx
   unfold seti at ih ⊢
   rw [List.map_cons, List.map_cons, List.map_cons, List.sum_cons, List.sum_cons]
   by_cases hk : i = k
   · subst hk
     rw [if_pos rfl] at hx
     injection hx with hx; subst hx
     have hrest : (l.map fun p => if p.1 = i then (p.1, f p.2) else p) = l := by
      refine (List.map_congr_left fun q hq => ?_).trans (List.map_id l)
      rw [if_neg (fun e => hn.1 (by rw [<- e]; exact List.mem_map.2 ⟨q, hq, rfl⟩))]; rfl
     rw [if_pos rfl, hrest]
     simp only [hg]; omega
   · rw [if_neg hk] at hx
     rw [if_neg (fun e => hk e.symm), ih hn.2 hx]; omega
def T.made (t : T) (d : Nat) (n : Name) (x : Ent) : T := { ents := seti t.ents d (fun y => { y with names := ins n t.next y.names }) ++ [(t.next, x)], next := t.next + 1 }
section
variable {t : T} {d i : Nat} {n : Name} {x y z : Ent}
theorem T.WF.next_none (h : t.WF) : t.get t.next = none := by
 cases hg : t.get t.next with
 | none => rfl
 | some x => have := (h.lt _ _ hg).2; omega
theorem T.WF.made_get (h : t.WF) (hy : t.get d = some y) : (t.made d n x).get i = if i = t.next then some x else if i = d then some { y with names := ins n t.next y.names } else t.get i := by
 have hd := (h.lt d y hy).2
 unfold T.made T.get
 rw [geti_append, geti_seti]
 by_cases hi : i = t.next
 · subst hi
   rw [if_neg (by omega), show geti t.ents t.next = none from h.next_none]
   simp [geti]
 · rw [if_neg hi]
   by_cases hid : i = d
   · subst hid
     rw [if_pos rfl, if_pos rfl, show geti t.ents i = some y from hy]; rfl
   · rw [if_neg hid, if_neg hid]
     cases geti t.ents i with
     | none => simp [geti, hi]
     | some z => rfl
theorem T.WF.links_none (h : t.WF) (hn : t.get i = none) : t.links i = 0 := by
 unfold T.links
 have key : ∀ l : List (Nat × Ent), (∀ p ∈ l, p ∈ t.ents) -> (l.map fun p => p.2.names.countP fun q => q.2 == i).sum = 0 := by
  intro l
  induction l with
  | nil => intro _; rfl
  | cons p l ih =>
    intro hl
    rw [List.map_cons, List.sum_cons, ih (fun q hq => hl q (List.mem_cons_of_mem _ hq)), Nat.add_zero, List.countP_eq_zero]
    rintro ⟨nm, j⟩ hq he
    have hj : j = i := by simpa using he
    subst hj
    have hx : t.get p.1 = some p.2 := geti_of_mem h.nodup (hl p (by simp))
    obtain ⟨y, hy⟩ := (h.live _ _ _ _ hx (lk_of_mem (h.sorted _ _ hx) hq)).2
    rw [hn] at hy; cases hy
 exact key _ (fun _ hp => hp)
theorem T.WF.made_links (h : t.WF) (hy : t.get d = some y) (hx : x.names = []) : (t.made d n x).links i = t.links i + if i = t.next then 1 else 0 := by
 have hs := sum_seti (g := fun y => y.names.countP fun q => q.2 == i) (f := fun y => { y with names := ins n t.next y.names }) (c := if t.next = i then 1 else 0) h.nodup hy (ins_count n t.next i y.names)
 unfold T.links T.made
 rw [List.map_append, List.sum_append, hs]
 simp only [List.map_cons, List.map_nil, List.sum_cons, List.sum_nil, hx, List.countP_nil, Nat.add_zero]
 by_cases e : i = t.next
 · rw [if_pos e, if_pos e.symm]
 · rw [if_neg e, if_neg (fun e' => e e'.symm)]
theorem T.WF.made_many (h : t.WF) (hy : t.get d = some y) (hx : x.names = []) : (t.made d n x).many = t.many + 1 := by
 have hs := sum_seti (g := fun y => y.names.length) (f := fun y => { y with names := ins n t.next y.names }) (c := 1) h.nodup hy (ins_length n t.next y.names)
 unfold T.many T.made
 rw [List.map_append, List.sum_append, hs]
 simp [hx]
theorem T.WF.depth_dp (h : t.WF) {dp : Nat -> Nat} (h1 : dp 1 = 0) (hdp : ∀ i x, t.get i = some x -> x.dir = true -> i ≠ 1 -> dp i = dp x.up + 1 /\ dp i <= 10) (hy : t.get d = some y) (hd : y.dir = true) : t.depth d = dp d := by
 have key : ∀ n i, (∃ x, t.get i = some x /\ x.dir = true) -> dp i < n -> t.depthN n i = dp i := by
  intro n
  induction n with
  | zero => intro i _ h; omega
  | succ n ih =>
    rintro i ⟨x, hx, hd⟩ hlt
    unfold T.depthN
    by_cases hi : i = 1
    · subst hi; rw [if_pos rfl, h1]
    · rw [if_neg hi, hx]
      have h2 := (hdp i x hx hd hi).1
      simp only
      rw [ih x.up (h.up i x hx hd) (by omega), h2]
      omega
 refine key 11 d ⟨y, hy, hd⟩ ?_
 by_cases e : d = 1
 · subst e; omega
 · have := (hdp d y hy hd e).2; omega
theorem T.WF.made_wf (h : t.WF) (hy : t.get d = some y) (hd : y.dir = true) (hn : lk y.names n = none) (hx : x.names = []) (hxu : x.dir = true -> x.up = d) (hdep : t.depth d < 10) : (t.made d n x).WF := by
 have hdl := (h.lt d y hy).2
 have hd0 := (h.lt d y hy).1
 have hg := fun i => h.made_get (n := n) (x := x) (i := i) hy
 have hold : ∀ {i z}, t.get i = some z -> i ≠ t.next := fun {i z} hz => by have := (h.lt i z hz).2; omega
 have hnew : ∀ {i z}, t.get i = some z -> ∃ z', (t.made d n x).get i = some z' /\ z'.dir = z.dir /\ z'.up = z.up := by
  intro i z hz
  rw [hg, if_neg (hold hz)]
  by_cases e : i = d
  · subst e
    rw [hy] at hz; cases hz
    exact ⟨_, if_pos rfl, rfl, rfl⟩
  · exact ⟨z, by rw [if_neg e]; exact hz, rfl, rfl⟩
 have hback : ∀ {i z'}, (t.made d n x).get i = some z' -> (i = t.next /\ z' = x) \/ (i ≠ t.next /\ i = d /\ z' = { y with names := ins n t.next y.names }) \/ (i ≠ t.next /\ i ≠ d /\ t.get i = some z') := by
  intro i z' hz
  rw [hg] at hz
  by_cases e1 : i = t.next
  · rw [if_pos e1] at hz; cases hz; exact .inl ⟨e1, rfl⟩
  · rw [if_neg e1] at hz
    by_cases e2 : i = d
    · rw [if_pos e2] at hz; cases hz; exact .inr (.inl ⟨e1, e2, rfl⟩)
    · rw [if_neg e2] at hz; exact .inr (.inr ⟨e1, e2, hz⟩)
 obtain ⟨xr, hxr, hxrd, hxru⟩ := h.root
 have hne1 : t.next ≠ 1 := fun e => by have := (h.lt 1 xr hxr).2; omega
 refine ⟨?_, ?_, ?_, ?_, ?_, ?_, ?_, ?_⟩
 · show (List.map _ (_ ++ _)).Nodup
   rw [List.map_append, seti_keys, List.nodup_append]
   refine ⟨h.nodup, by simp, ?_⟩
   rintro a ha b hb rfl
   obtain ⟨p, hp, rfl⟩ := List.mem_map.1 ha
   have := (h.lt _ _ (geti_of_mem h.nodup hp)).2
   simp at hb; omega
 · obtain ⟨z', hz', e1, e2⟩ := hnew hxr
   exact ⟨z', hz', e1.trans hxrd, e2.trans hxru⟩
 · intro i z' hz
   show 0 < i /\ i < t.next + 1
   rcases hback hz with ⟨e, _⟩ | ⟨_, e, _⟩ | ⟨_, _, hz⟩
   · have := (h.lt 1 xr hxr).2; omega
   · omega
   · have := h.lt i z' hz; omega
 · intro i z' m j hz hl
   rcases hback hz with ⟨_, e⟩ | ⟨_, _, e⟩ | ⟨_, _, hz⟩
   · subst e; rw [hx] at hl; cases hl
   · subst e
     simp only at hl
     rw [lk_ins hn] at hl
     split at hl
     · injection hl with hl; subst hl
       exact ⟨hne1, x, by rw [hg, if_pos rfl]⟩
     · obtain ⟨h1, z, hz⟩ := h.live _ _ _ _ hy hl
       obtain ⟨z2, hz2, _⟩ := hnew hz
       exact ⟨h1, z2, hz2⟩
   · obtain ⟨h1, z, hz⟩ := h.live _ _ _ _ hz hl
     obtain ⟨z2, hz2, _⟩ := hnew hz
     exact ⟨h1, z2, hz2⟩
 · intro i z' hz hf
   rcases hback hz with ⟨_, e⟩ | ⟨_, _, e⟩ | ⟨_, _, hz⟩
   · subst e; exact hx
   · subst e; simp only at hf; rw [hd] at hf; cases hf
   · exact h.file _ _ hz hf
 · intro i z' hz
   rcases hback hz with ⟨_, e⟩ | ⟨_, _, e⟩ | ⟨_, _, hz⟩
   · subst e; rw [hx]; exact List.Pairwise.nil
   · subst e; exact ins_sorted _ (h.sorted _ _ hy) hn
   · exact h.sorted _ _ hz
 · intro i z' hz hzd
   have hup : ∀ {k z}, t.get k = some z -> z.dir = true -> ∃ y', (t.made d n x).get k = some y' /\ y'.dir = true := fun {k z} hz hzd => by
    obtain ⟨z2, hz2, e, _⟩ := hnew hz
    exact ⟨z2, hz2, e.trans hzd⟩
   rcases hback hz with ⟨_, e⟩ | ⟨_, _, e⟩ | ⟨_, _, hz⟩
   · subst e; rw [hxu hzd]; exact hup hy hd
   · subst e
     obtain ⟨z2, hz2, hd2⟩ := h.up _ _ hy hd
     exact hup hz2 hd2
   · obtain ⟨z2, hz2, hd2⟩ := h.up _ _ hz hzd
     exact hup hz2 hd2
 · obtain ⟨dp, h1, hdp⟩ := h.rank
   have hdd := h.depth_dp h1 hdp hy hd
   refine ⟨fun i => if i = t.next then dp d + 1 else dp i, by simp only; rw [if_neg (Ne.symm hne1)]; exact h1, ?_⟩
   intro i z' hz hzd hi1
   rcases hback hz with ⟨e0, e⟩ | ⟨e0, e1, e⟩ | ⟨e0, _, hz⟩
   · subst e
     simp only [if_pos e0]
     rw [hxu hzd, if_neg (by omega)]
     omega
   · subst e
     obtain ⟨z2, hz2, _⟩ := h.up _ _ hy hd
     have := (h.lt _ _ hz2).2
     simp only [if_neg e0]
     rw [if_neg (by omega)]
     subst e1
     exact hdp i y hy hd hi1
   · obtain ⟨z2, hz2, _⟩ := h.up _ _ hz hzd
     have := (h.lt _ _ hz2).2
     simp only [if_neg e0]
     rw [if_neg (by omega)]
     exact hdp i z' hz hzd hi1
end
end Go.Proofs.YtffffjngodinnaaGreatDoor.Abs
end
section
namespace Go.Proofs.YtffffjngodinnaaGreatDoor.Abs
def T.linked (t : T) (d : Nat) (n : Name) (j : Nat) : T := { ents := seti t.ents d (fun y => { y with names := ins n j y.names }), next := t.next }
section
variable {t : T} {d i j : Nat} {n : Name} {y z : Ent}
theorem T.linked_get (hy : t.get d = some y) : (t.linked d n j).get i = if i = d then some { y with names := ins n j y.names } else t.get i := by
 unfold T.linked T.get
 rw [geti_seti]
 by_cases hid : i = d
 · subst hid
   rw [if_pos rfl, if_pos rfl, show geti t.ents i = some y from hy]; rfl
 · rw [if_neg hid, if_neg hid]
theorem T.WF.linked_links (h : t.WF) (hy : t.get d = some y) : (t.linked d n j).links i = t.links i + if i = j then 1 else 0 := by
 have hs := sum_seti (g := fun y => y.names.countP fun q => q.2 == i) (f := fun y => { y with names := ins n j y.names }) (c := if j = i then 1 else 0) h.nodup hy (ins_count n j i y.names)
 unfold T.links T.linked
 rw [hs]
 by_cases e : i = j
 · rw [if_pos e, if_pos e.symm]
 · rw [if_neg e, if_neg (fun e' => e e'.symm)]
theorem T.WF.linked_many (h : t.WF) (hy : t.get d = some y) : (t.linked d n j).many = t.many + 1 := by
 have hs := sum_seti (g := fun y => y.names.length) (f := fun y => { y with names := ins n j y.names }) (c := 1) h.nodup hy (ins_length n j y.names)
 unfold T.many T.linked
 rw [hs]
theorem T.WF.linked_wf (h : t.WF) (hy : t.get d = some y) (hd : y.dir = true) (hn : lk y.names n = none) (hj : t.get j = some z) (hz : z.dir = false) : (t.linked d n j).WF := by
 have hg := fun i => T.linked_get (t := t) (i := i) (n := n) (j := j) hy
 have hnew : ∀ {i z}, t.get i = some z -> ∃ z', (t.linked d n j).get i = some z' /\ z'.dir = z.dir /\ z'.up = z.up := by
  intro i z hz
  rw [hg]
  by_cases e : i = d
  · subst e
    rw [hy] at hz; cases hz
    exact ⟨_, if_pos rfl, rfl, rfl⟩
  · exact ⟨z, by rw [if_neg e]; exact hz, rfl, rfl⟩
 have hback : ∀ {i z'}, (t.linked d n j).get i = some z' -> (i = d /\ z' = { y with names := ins n j y.names }) \/ (i ≠ d /\ t.get i = some z') := by
  intro i z' hz
  rw [hg] at hz
  by_cases e2 : i = d
  · rw [if_pos e2] at hz; cases hz; exact .inl ⟨e2, rfl⟩
  · rw [if_neg e2] at hz; exact .inr ⟨e2, hz⟩
 have hold : ∀ {i z'}, (t.linked d n j).get i = some z' -> ∃ z, t.get i = some z /\ z'.dir = z.dir /\ z'.up = z.up := by
  intro i z' hz
  rcases hback hz with ⟨rfl, rfl⟩ | ⟨_, hz⟩
  · exact ⟨y, hy, rfl, rfl⟩
  · exact ⟨z', hz, rfl, rfl⟩
 obtain ⟨xr, hxr, hxrd, hxru⟩ := h.root
 have hj1 : j ≠ 1 := by
  rintro rfl
  rw [hxr] at hj
  cases hj
  rw [hxrd] at hz
  cases hz
 refine ⟨?_, ?_, ?_, ?_, ?_, ?_, ?_, ?_⟩
 · rw [show (t.linked d n j).ents.map (·.1) = t.ents.map (·.1) from seti_keys t.ents d (fun y => { y with names := ins n j y.names })]
   exact h.nodup
 · obtain ⟨z', hz', e1, e2⟩ := hnew hxr
   exact ⟨z', hz', e1.trans hxrd, e2.trans hxru⟩
 · intro i z' hz
   obtain ⟨z, hz, _⟩ := hold hz
   exact h.lt i z hz
 · intro i z' m k hz hl
   have hk : k ≠ 1 /\ ∃ w, t.get k = some w := by
    rcases hback hz with ⟨rfl, rfl⟩ | ⟨_, hz⟩
    · rw [lk_ins hn] at hl
      split at hl
      · cases hl; exact ⟨hj1, _, hj⟩
      · exact h.live _ _ _ _ hy hl
    · exact h.live _ _ _ _ hz hl
   obtain ⟨h1, w, hw⟩ := hk
   obtain ⟨w', hw', _⟩ := hnew hw
   exact ⟨h1, w', hw'⟩
 · intro i z' hz hf
   rcases hback hz with ⟨rfl, rfl⟩ | ⟨_, hz⟩
   · rw [show ({ y with names := ins n j y.names } : Ent).dir = y.dir from rfl, hd] at hf; cases hf
   · exact h.file i z' hz hf
 · intro i z' hz
   rcases hback hz with ⟨rfl, rfl⟩ | ⟨_, hz⟩
   · exact ins_sorted j (h.sorted _ _ hy) hn
   · exact h.sorted i z' hz
 · intro i z' hz hf
   obtain ⟨z, hz, e1, e2⟩ := hold hz
   obtain ⟨u, hu, hud⟩ := h.up i z hz (e1 ▸ hf)
   obtain ⟨u', hu', e3, _⟩ := hnew hu
   exact ⟨u', by rw [e2]; exact hu', e3.trans hud⟩
 · obtain ⟨dp, h1, h2⟩ := h.rank
   refine ⟨dp, h1, fun i z' hz hf hi => ?_⟩
   obtain ⟨z, hz, e1, e2⟩ := hold hz
   rw [e2]
   exact h2 i z hz (e1 ▸ hf) hi
end
end Go.Proofs.YtffffjngodinnaaGreatDoor.Abs
end
section
namespace Go.Proofs.YtffffjngodinnaaGreatDoor.Abs
def T.hold (t : T) (i : Nat) : T := t.set i fun x => { x with held := x.held + 1 }
section
variable {t : T} {i j : Nat} {x y : Ent} {f : Ent -> Ent}
theorem T.get_set : (t.set i f).get j = if j = i then (t.get j).map f else t.get j := geti_seti
theorem T.get_set_same (h : t.get i = some x) : (t.set i f).get i = some (f x) := by rw [T.get_set, if_pos rfl, h]; rfl
theorem T.get_set_other (h : j ≠ i) : (t.set i f).get j = t.get j := by rw [T.get_set, if_neg h]
theorem T.WF.set_links (h : t.WF) (hx : t.get i = some x) (hn : (f x).names = x.names) : (t.set i f).links j = t.links j := by
 have := sum_seti (g := fun y => y.names.countP fun q => q.2 == j) (f := f) (c := 0) h.nodup hx (by rw [hn]; rfl)
 exact this
theorem T.WF.set_many (h : t.WF) (hx : t.get i = some x) (hn : (f x).names = x.names) : (t.set i f).many = t.many := by
 have := sum_seti (g := fun y => y.names.length) (f := f) (c := 0) h.nodup hx (by rw [hn]; rfl)
 exact this
theorem T.set_back {z : Ent} (hx : t.get i = some x) (h : (t.set i f).get j = some z) : (j = i /\ z = f x) \/ (j ≠ i /\ t.get j = some z) := by
 by_cases e : j = i
 · subst e; rw [T.get_set_same hx] at h; cases h; exact .inl ⟨rfl, rfl⟩
 · rw [T.get_set_other e] at h; exact .inr ⟨e, h⟩
theorem T.WF.set_wf (h : t.WF) (hx : t.get i = some x) (hd : (f x).dir = x.dir) (hn : (f x).names = x.names) (hu : (f x).up = x.up) : (t.set i f).WF := by
 have hnew : ∀ {k z}, t.get k = some z -> ∃ z', (t.set i f).get k = some z' /\ z'.dir = z.dir /\ z'.up = z.up /\ z'.names = z.names := by
  intro k z hz
  by_cases e : k = i
  · subst e; rw [hx] at hz; cases hz; exact ⟨f x, T.get_set_same hx, hd, hu, hn⟩
  · exact ⟨z, by rw [T.get_set_other e]; exact hz, rfl, rfl, rfl⟩
 have hold : ∀ {k z'}, (t.set i f).get k = some z' -> ∃ z, t.get k = some z /\ z'.dir = z.dir /\ z'.up = z.up /\ z'.names = z.names := by
  intro k z' hz
  rcases T.set_back hx hz with ⟨rfl, rfl⟩ | ⟨_, hz⟩
  · exact ⟨x, hx, hd, hu, hn⟩
  · exact ⟨z', hz, rfl, rfl, rfl⟩
 refine ⟨?_, ?_, ?_, ?_, ?_, ?_, ?_, ?_⟩
 · show (List.map _ (seti _ _ _)).Nodup
   rw [seti_keys]; exact h.nodup
 · obtain ⟨z, hz, h1, h2⟩ := h.root
   obtain ⟨z', hz', e1, e2, _⟩ := hnew hz
   exact ⟨z', hz', e1.trans h1, e2.trans h2⟩
 · intro k z' hz
   obtain ⟨z, hz, _⟩ := hold hz
   exact h.lt _ _ hz
 · intro k z' m j hz hl
   obtain ⟨z, hz, _, _, e⟩ := hold hz
   rw [e] at hl
   obtain ⟨h1, y, hy⟩ := h.live _ _ _ _ hz hl
   obtain ⟨y', hy', _⟩ := hnew hy
   exact ⟨h1, y', hy'⟩
 · intro k z' hz hf
   obtain ⟨z, hz, e1, _, e⟩ := hold hz
   rw [e]; exact h.file _ _ hz (e1.symm.trans hf)
 · intro k z' hz
   obtain ⟨z, hz, _, _, e⟩ := hold hz
   rw [e]; exact h.sorted _ _ hz
 · intro k z' hz hzd
   obtain ⟨z, hz, e1, e2, _⟩ := hold hz
   obtain ⟨y, hy, hyd⟩ := h.up _ _ hz (e1.symm.trans hzd)
   obtain ⟨y', hy', e3, _⟩ := hnew hy
   exact ⟨y', by rw [e2]; exact hy', e3.trans hyd⟩
 · obtain ⟨dp, h1, hdp⟩ := h.rank
   refine ⟨dp, h1, fun k z' hz hzd hk => ?_⟩
   obtain ⟨z, hz, e1, e2, _⟩ := hold hz
   rw [e2]; exact hdp _ _ hz (e1.symm.trans hzd) hk
end
end Go.Proofs.YtffffjngodinnaaGreatDoor.Abs
end
section
namespace Go.Proofs.YtffffjngodinnaaGreatDoor
open Go.RowKit
section
variable {P : Program}
end
end Go.Proofs.YtffffjngodinnaaGreatDoor
end
section
namespace Go.Proofs.YtffffjngodinnaaGreatDoor
open Go.RowKit
def OwnBy {β : Type} (B : Nat) (own : Nat -> Prop) (I : β -> World -> Prop) : Prop :=
 ∀ s W W' row, I s W -> W.grownBy W' row -> (∀ r, row = some r -> (B <= r /\ ∃ o : Obj, W.heap[r]? = some o /\ o.isCells = false) \/ own r) -> I s W'
theorem OwnBy.putObj {β : Type} {B : Nat} {own : Nat -> Prop} {I : β -> World -> Prop} (h : OwnBy B own I) {s : β} {W : World} {l : Nat} {o : Obj} (o' : Obj) (hs : I s W) (hB : B <= l) (hl : W.heap[l]? = some o) (ho : o.isCells = false) : I s (W.putObj l o') :=
 h s W _ (some l) hs (grownBy_putObj' W l o') (fun r e => by cases e; exact .inl ⟨hB, o, hl, ho⟩)
theorem OwnBy.alloc {β : Type} {B : Nat} {own : Nat -> Prop} {I : β -> World -> Prop} (h : OwnBy B own I) {s : β} {W : World} (o : Obj) (hs : I s W) : I s (W.alloc o) :=
 h s W _ none hs (World.grownBy_alloc W o none) (fun r e => by cases e)
def SeqTurns {α : Type} (F : Fence) (n : Nat) (P : Program) (g : Nat) (lb : Array Value) (encs : α -> Array Value) (Kp : World -> World -> Prop) (own : Nat -> Prop) (T : List α -> α -> Prop) (S : List α -> Prop) (w : World) : Prop :=
 ∀ (l : Nat) (J : List α -> World -> Prop) (W : World), Below w.heap.size w W ->
  (∀ s X Y row, J s X -> X.grownBy Y row -> (∀ r, row = some r -> own r) -> J s Y) ->
  (∀ pre x W1, T pre x -> J pre W1 -> YieldAt F (n - 1) P l (encs x) W1 fun e W' => e = .returned (.bool true) /\ J (pre ++ [x]) W' /\ Kp W1 W') ->
  J [] W ->
  CallsIn F n P g (#[.func (.yield l) #[] #[]] ++ lb) W fun e W' => (∃ v, e = .returned v) /\ ∃ xs, S xs /\ J xs W'
def eachPost {α : Type} (B : Nat) (Kp : World -> World -> Prop) (I : List α -> World -> Prop) (xs : List α) (W : World) : Exit -> Act -> World -> Prop
 | .normal, _, W' => KeepsFrom B W W' /\ Kp W W' /\ I xs W'
 | _, _, _ => False
variable {F : Fence} {n : Nat} {P : Program}
theorem wpIn_rangeFunc_each {α : Type} {g : Operand} {ps : Array Tmp} {assign body : Code} {Q : Exit -> Act -> World -> Prop} {a : Act} {w : World}
 (hro : F.round = none) (h1 : 1 <= n) {gf : Nat} {lb : Array Value} (hg : a.eval g = .func (.func gf) #[] lb) (hFg : F.fn gf) (eg : ∀ args w, (callFunc gf args).run P w = .ok (.enter gf args) w)
 {encs : α -> Array Value} {Kp : World -> World -> Prop} {own : Nat -> Prop} {T : List α -> α -> Prop} {S : List α -> Prop} {w0 : World} (hseq : SeqTurns F (n - 1) P gf lb encs Kp own T S w0)
 (hKt : ∀ {A B C : World}, Kp A B -> Kp B C -> Kp A C) (hKb : ∀ (W : World) (l : Nat) (o o' : Obj), w.heap.size <= l -> W.heap[l]? = some o -> o.isCells = false -> o.isWalk = false -> Kp W (W.putObj l o')) (hb0 : Below w0.heap.size w0 w) (hps : ∀ x, (encs x).size = ps.size)
 (hown : ∀ r, own r -> r < w.heap.size)
 (I : List α -> World -> Prop) (hI : OwnBy w.heap.size own I) (h0 : I [] w) (a₁ : α -> Act)
 (hassign : ∀ (l : Nat) (x : α) (W : World) (K : Act -> World -> Prop), K (a₁ x) W ->
  assign.wpIn (F.inRound l) (n - 1 - 1) P (Exit.then K (fun _ _ _ => False)) { tmps := (ps.zip (encs x)).foldl (fun t (p, v) => t.setIfInBounds p v) a.tmps, defers := [] } W)
 (hbody : ∀ (l : Nat) (pre : List α) (x : α) (W : World), w.heap.size <= l -> T pre x -> I pre W -> body.wpIn (F.inRound l) (n - 1 - 1) P (eachPost w.heap.size Kp I (pre ++ [x]) W) (a₁ x) W)
 (hdone : ∀ (D : Nat) (xs : List α) (W : World), w.heap.size <= D -> S xs -> I xs W -> W.heap[D]? = some (.deferred (some [])) -> Q .normal { a with defers := { target := .collected D, args := #[] } :: a.defers } W) :
 (Code.rangeFunc g ps assign body).wpIn F n P Q a w := by
 refine wpIn_rangeFunc fun fn hfn => ?_
 rw [hro]
 obtain ⟨rec, hrec⟩ : ∃ rec : LoopState -> Option Code -> Loop, rec = fun st pe => { state := st, pending := pe, fn, tmps := a.tmps, params := ps, assign, body, defers := w.heap.size } := ⟨_, rfl⟩
 obtain ⟨W1, hW1⟩ : ∃ W1, (w.alloc (.deferred (some []))).alloc (.loop (rec .ready none)) = W1 := ⟨_, rfl⟩
 have hL : W1.heap[w.heap.size + 1]? = some (.loop (rec .ready none)) := by
  have h := World.alloc_heap_new (w.alloc (.deferred (some []))) (.loop (rec .ready none))
  rw [World.size_alloc, hW1] at h
  exact h
 have hD : W1.heap[w.heap.size]? = some (.deferred (some [])) := by
  rw [<- hW1]
  exact (Below.heap_alloc _ _ _ (by simp)).trans (World.alloc_heap_new w _)
 have hb1 : Below w0.heap.size w0 W1 := by
  rw [<- hW1]
  exact hb0.trans ((((Below.refl _ w).alloc (Nat.le_refl _) _).alloc (by simp) _).mono hb0.size)
 have hI1 : I [] W1 := by rw [<- hW1]; exact hI.alloc _ (hI.alloc _ h0)
 refine ⟨w.heap.size + 1, [{ target := .collected w.heap.size, args := #[] }], W1, { target := .fn (.func gf) lb, args := #[.func (.yield (w.heap.size + 1)) #[] #[]] }, W1, gf,
  #[.func (.yield (w.heap.size + 1)) #[] #[]] ++ lb, W1, ?_, ?_, ?_, ?_, fun _ => h1, ?_⟩
 · rw [<- hW1, hrec]; exact run_enterLoop_outer _ _ _ _ _
 · simp only [resolve, hg]
   simp [go_sem]
 · intro f' hf'
   simp [Target.leads] at hf'
   subst hf'
   exact hFg
 · simp [invoke, go_sem, eg]
 · have far : ∀ {X Y : World} {row : Option Nat} {k : Nat} {o : Obj}, w.heap.size <= k -> X.heap[k]? = some o -> X.grownBy Y row -> (∀ r, row = some r -> own r) -> Y.heap[k]? = some o := by
    intro X Y row k o hk hX hgr hr
    refine (hgr.block k (Array.getElem?_eq_some_iff.1 hX).1 fun e => ?_).trans hX
    have := hown k (hr k e.symm)
    omega
   refine (hseq (w.heap.size + 1)
    (fun pre W => I pre W /\ W.heap[w.heap.size + 1]? = some (.loop (rec .ready none)) /\ W.heap[w.heap.size]? = some (.deferred (some [])))
    W1 hb1
    (fun s X Y row hs hgr hr => ⟨hI s X Y row hs.1 hgr (fun r e => .inr (hr r e)), far (by omega) hs.2.1 hgr hr, far (Nat.le_refl _) hs.2.2 hgr hr⟩)
    ?_ ⟨hI1, hL, hD⟩).mono ?_
   · rintro pre x W hT ⟨hi, hl, hk⟩
     have hlt : w.heap.size + 1 < W.heap.size := (Array.getElem?_eq_some_iff.1 hl).1
     have hy := run_yield (P := P) (args := encs x) hl (by rw [hrec]; exact hps x)
     rw [hrec] at hy
     refine ⟨fn, _, assign, body, hy, roundIn_of_wpIn hfn (hassign _ x W _ ?_)⟩
     refine ⟨_, run_beginRound hl (by rw [hrec]), ?_⟩
     have hl2 : (W.putObj (w.heap.size + 1) (.loop { rec .ready none with state := .busy })).heap[w.heap.size + 1]? = some (.loop { rec .ready none with state := .busy }) := World.putObj_heap_same hlt
     have hk2 : (W.putObj (w.heap.size + 1) (.loop { rec .ready none with state := .busy })).heap[w.heap.size]? = some (.deferred (some [])) := (World.putObj_heap_other (by omega)).trans hk
     have hw2 : Kp W (W.putObj (w.heap.size + 1) (.loop { rec .ready none with state := .busy })) := hKb _ _ _ _ (by omega) hl rfl rfl
     refine wpIn_mono (hbody _ pre x _ (by omega) hT (hI.putObj _ hi (by omega) hl rfl)) ?_
     rintro e a3 W3 hp
     cases e with
     | normal =>
       obtain ⟨hk3, hkp3, hi3⟩ := hp
       have hl3 := hk3.same _ _ (by omega) hl2 rfl
       have hr := run_endRound (P := P) none hl3
       rw [hrec] at hr hl3
       refine ⟨_, _, hr, rfl, ⟨hI.putObj _ hi3 (by omega) hl3 rfl, ?_, ?_⟩, hKt (hKt hw2 hkp3) (hKb _ _ _ _ (by omega) hl3 rfl rfl)⟩
       · rw [hrec]; exact World.putObj_heap_same (Array.getElem?_eq_some_iff.1 hl3).1
       · exact (World.putObj_heap_other (by omega)).trans (hk3.same _ _ (Nat.le_refl _) hk2 rfl)
     | ret => exact hp.elim
     | exit id => exact hp.elim
     | goto t => exact hp.elim
     | panic ch => exact hp.elim
     | outgrown => exact hp.elim
   · rintro e W2 ⟨⟨v, rfl⟩, xs, hS, hi, hl, hk⟩
     have hr := run_endLoop (P := P) hl (by rw [hrec]; simp)
     rw [hrec] at hr
     exact ⟨none, _, hr, hdone _ xs _ (Nat.le_refl _) hS (hI.putObj _ hi (by omega) hl rfl) ((World.putObj_heap_other (by omega)).trans hk)⟩
end Go.Proofs.YtffffjngodinnaaGreatDoor
end
section
namespace Go.Proofs.YtffffjngodinnaaGreatDoor
set_option maxRecDepth 100000
open Go.RowKit Go.Maps
theorem Tryz.infoInt : (Tryz.prog.info? 3).map (fun i => (i.zero, i.size, i.bytes)) = some (some (.int .i64 0), 1, 8) := by kernel_rfl
def intsC (l : List Nat) : List Value := l.map fun n : Nat => .int .i64 (n : Int)
def isNilV : Value -> Bool
 | .nilIface => true
 | _ => false
def fdsOf (D : Nat -> Value) (n : Nat) : List Nat := (List.range n).filter fun i => !isNilV (D i)
theorem fdsOf_succ (D : Nat -> Value) (n : Nat) : fdsOf D (n + 1) = fdsOf D n ++ if isNilV (D n) then [] else [n] := by
 unfold fdsOf
 rw [List.range_succ, List.filter_append]
 cases h : isNilV (D n) <;> simp [h]
theorem fdsOf_le (D : Nat -> Value) (n : Nat) : (fdsOf D n).length <= n := by
 have := List.length_filter_le (fun i => !isNilV (D i)) (List.range n)
 simpa [fdsOf] using this
theorem row_one (w : World) (t : TypeId) (v : Value) : Reads (w.alloc (.cells #[v] t)) (w.heap.size + 1) 1 (some ⟨w.heap.size, 0, none⟩) 1 [v] := by
 refine ⟨rfl, fun _ => ⟨_, rfl, Nat.lt_succ_self _, fun j u hu => ?_⟩⟩
 have hj : j = 0 := by have := (List.getElem?_eq_some_iff.1 hu).1; simp at this; exact this
 subst hj
 have h0 := (Blk.new w t #[v]).cell 0
 simpa [Addr.add] using (h0.trans hu)
theorem Tryz.infoThing : (Tryz.prog.info? 146).map (fun i => (i.zero, i.size, i.bytes)) = some (some .nilIface, 1, 16) := by kernel_rfl
theorem idx16 (cs : List Value) (j : Nat) (v : Value) (hj : j < 16) (e : cs[j]? = some v) (W : World) : (Instr.index 148 (.agg cs.toArray) (.int .i64 (j : Int))).run Tryz.prog W = .ok v W := by
 obtain ⟨iT, hiT, hT0, hT1, hT2⟩ := info_parts Tryz.infoThing
 have hu : (underlying 148).run Tryz.prog W = .ok (.array 16 146) W := run_underlying Tryz.underlying148 W
 have h0 : (0 : Int) <= (j : Int) /\ (j : Int) < 16 := by omega
 simp [Instr.index, asIntOf, hu, part, sizeOf, typeInfo, hiT, hT1, h0, hj, e]
set_option maxHeartbeats 2000000 in
theorem kFds (w : World) (b k : Nat) (D : Nat -> Value) (h : TableOf w b k D) (hD : ∀ i, i < 16 -> D i = .nilIface \/ ∃ t x, D i = .iface t x) :
 Calls Tryz.prog 130 #[.pointer (some ⟨b, 0, none⟩)] w fun e w' => ∃ v, e = .returned v /\ w'.ownsRow w.heap.size 3 1 v (fdsOf D 16).length (intsC (fdsOf D 16)) /\ Below w.heap.size w w' := by
 have hra : w.rangeAt b 1 ((List.range 16).map D) := by
  intro j v hv
  have hj : j < 16 := by have := (List.getElem?_eq_some_iff.1 hv).1; simpa using this
  rw [Nat.add_comm, h.fd j hj]
  simpa [hj] using hv
 obtain ⟨cs, hcs⟩ : ∃ cs, (List.range 16).map D = cs := ⟨_, rfl⟩
 rw [hcs] at hra
 have hlen : cs.length = 16 := by rw [<- hcs]; simp
 have hat : ∀ j, j < 16 -> cs[j]? = some (D j) := by intro j hj; rw [<- hcs]; simp [hj]
 have HLEN := Lib.hid hlen
 have HAT := Lib.hid hat
 have HD := Lib.hid hD
 clear hcs hlen hat hD
 obtain ⟨iI, hiI, hI0, hI1, hI2⟩ := info_parts Tryz.infoInt
 have HI := Lib.hid hiI
 have H0 := Lib.hid hI0
 have H1 := Lib.hid hI1
 have H2 := Lib.hid hI2
 clear hiI hI0 hI1 hI2
 go_enter Tryz.func130, Tryz.ntmps130
 go_wp2_with (first | (refine wpList_load_mid rfl _ _ rfl b 1 rfl cs _ hra Tryz.underlying148 rfl (by rw [HLEN.out]; kernel_rfl) ?_) | fail)
 go_loopw [3, 10] (fun o i W => ∃ (j : Nat), j <= 16 /\ i = .int .i64 (j : Int) /\ W.ownsRow w.heap.size 3 1 o (fdsOf D j).length (intsC (fdsOf D j)) /\ Below w.heap.size w W) (fun _ i _ => 16 - (intOf i).toNat)
 case atStart => exact ⟨0, Nat.zero_le _, rfl, World.ownsRow_nil _ _ _ _, Below.refl _ _⟩
 case round =>
  obtain ⟨j, hj, rfl, hown, hbel⟩ := hrel
  have HB := Lib.hid hbel
  have HO := Lib.hid hown
  clear hbel hown
  obtain ⟨A, cp, rfl, _⟩ := own_slice HO.out
  by_cases hlt : j < 16
  · have e0 := HAT.out j hlt
    have hfs := fdsOf_succ D j
    have hfl := fdsOf_le D j
    rcases HD.out j hlt with hn | ⟨t, x, hn⟩
    · rw [hn] at e0
      have hix := idx16 cs j _ hlt e0
      rw [hn] at hfs
      simp only [isNilV, if_true, List.append_nil] at hfs
      have HFS := Lib.hid hfs
      clear hfs hfl hn
      go_wp2_with fail
      go_roundw
      case rel => exact ⟨j + 1, by omega, by go_num, by rw [HFS.out]; exact HO.out, HB.out⟩
      case measure => simp [intOf]; omega
    · rw [hn] at e0
      have hix := idx16 cs j _ hlt e0
      rw [hn] at hfs
      simp only [isNilV, Bool.false_eq_true, if_false] at hfs
      have HFS := Lib.hid hfs
      have HFL := Lib.hid hfl
      clear hfs hfl hn
      go_wp2_with (at_builtin; refine wpList_append_any _ rfl _ _ 28 rfl w.heap.size 3 iI (.int .i64 0) 1 8 Tryz.underlying28 HI.out H0.out H1.out H2.out rfl (by decide) (.slice A (fdsOf D j).length cp) (fdsOf D j).length (intsC (fdsOf D j)) rfl ((HO.out).alloc _) (wr.heap.size + 1) (some ⟨wr.heap.size, 0, none⟩) 1 1 [.int .i64 (j : Int)] rfl (row_one wr 3 _) (by simp [Value.oneCell']) (by have := HFL.out; simp only [maxLen]; omega) (by have := HFL.out; omega) (by have := HB.out.size; simp; omega) ?_; intro v1 w1 hown1 hg1 hat1)
      go_roundw
      case rel =>
       refine ⟨j + 1, by omega, by go_num, ?_, HB.out.alloc HB.out.size _ |>.grown hg1 (by have := HB.out.size; simp; omega) (fun r hr => (HO.out.lt r hr).1)⟩
       rw [HFS.out, List.length_append]
       simpa [intsC] using hown1
      case measure => simp [intOf]; omega
  · have he : j = 16 := by omega
    subst he
    go_wp2_with fail
    go_returns
    exact ⟨_, rfl, HO.out, HB.out⟩
def Plain (D : Nat -> Value) : Prop := ∀ i, i < 16 -> D i = .nilIface \/ (∃ s, D i = sourceV s) \/ ∃ s, D i = sinkV s
theorem Plain.iface {D : Nat -> Value} (h : Plain D) : ∀ i, i < 16 -> D i = .nilIface \/ ∃ t x, D i = .iface t x := by
 intro i hi
 rcases h i hi with h | ⟨s, h⟩ | ⟨s, h⟩
 · exact .inl h
 · exact .inr ⟨_, _, h⟩
 · exact .inr ⟨_, _, h⟩
theorem TableOf.congr {w : World} {b k : Nat} {D D' : Nat -> Value} (h : TableOf w b k D) (hD : ∀ i, i < 16 -> D i = D' i) : TableOf w b k D' := by
 unfold TableOf at h ⊢
 have e : tableCells k D = tableCells k D' := by
  unfold tableCells
  congr 2
  exact List.map_congr_left fun i hi => hD i (List.mem_range.1 hi)
 rwa [e] at h
set_option maxHeartbeats 2000000 in
theorem kFree (w : World) (b k : Nat) (D : Nat -> Value) (h : TableOf w b k D) (hD : Plain D) :
 Calls Tryz.prog 100 #[.pointer (some ⟨b, 0, none⟩)] w fun e w' => e = .returned (.tuple #[]) /\ TableOf w' b k (fun _ => .nilIface) /\ Turns [b] w w' := by
 have hfd := kFds w b k D h hD.iface
 obtain ⟨fl, hfl⟩ : ∃ fl, fdsOf D 16 = fl := ⟨_, rfl⟩
 rw [hfl] at hfd
 have hmem : ∀ i, i ∈ fl -> i < 16 /\ isNilV (D i) = false := by
  intro i hi
  rw [<- hfl] at hi
  have := List.mem_filter.1 hi
  exact ⟨List.mem_range.1 this.1, by simpa using this.2⟩
 have hall : ∀ i, i < 16 -> i ∉ fl -> D i = .nilIface := by
  intro i hi hn
  rcases hD i hi with e | ⟨s, e⟩ | ⟨s, e⟩
  · exact e
  all_goals
   exfalso
   apply hn
   rw [<- hfl]
   exact List.mem_filter.2 ⟨List.mem_range.2 hi, by rw [e]; rfl⟩
 have hnd : fl.Nodup := by rw [<- hfl]; exact List.Pairwise.filter _ List.nodup_range
 have hlen : fl.length <= 16 := by rw [<- hfl]; exact fdsOf_le D 16
 have hlt := Blk.lt h
 have HM := Lib.hid hmem
 have HA := Lib.hid hall
 have HN := Lib.hid hnd
 have HL := Lib.hid hlen
 have HT := Lib.hid h
 have HD := Lib.hid hD
 clear hfl hmem hall hnd hlen h hD
 go_enter Tryz.func100, Tryz.ntmps100
 go_wp2_with (go_at_call 130; refine hfd.mono ?_; rintro e w1 ⟨v, rfl, hown, hbel⟩; obtain ⟨A, cp, rfl, hcp⟩ := own_slice hown)
 have HO := Lib.hid hown
 have HB := Lib.hid hbel
 clear hown hbel
 go_loopw [7] (fun i W => ∃ (j : Nat), j <= fl.length /\ i = .int .i64 (j : Int) /\ TableOf W b k (fun i => if i ∈ fl.take j then .nilIface else D i) /\ Turns [b] w1 W) (fun i _ => fl.length - (intOf i).toNat)
 case atStart => exact ⟨0, Nat.zero_le _, rfl, TableOf.congr (D := D) (Blk.on HT.out HB.out) (fun i _ => by simp), Turns.refl _ _⟩
 case round =>
  obtain ⟨j, hj, rfl, hT, hTu⟩ := hrel
  have hbA : ∀ ad, A = some ad -> ad.block ∉ [b] := by
   intro ad hA hm
   rw [List.mem_singleton] at hm
   rcases HO.out.2 with ⟨e, _⟩ | ⟨g, cap, cur, e, hg, _⟩
   · simp only [Value.slice.injEq] at e; rw [hA] at e; exact absurd e.1 (by simp)
   · simp only [Value.slice.injEq] at e; rw [hA] at e; have := e.1; cases this; simp at hm; omega
  have hR := hcp.2.2.turns hTu (Nat.le_refl _) hbA
  have hj16 : j <= 16 := Nat.le_trans hj HL.out
  by_cases hlt2 : j < fl.length
  · obtain ⟨ad, u, rfl, _, hu, hcell⟩ := hR.at_ hlt2
    obtain ⟨i0, hi0⟩ : ∃ i0, fl[j]? = some i0 := ⟨_, List.getElem?_eq_getElem hlt2⟩
    have hui : u = .int .i64 (i0 : Int) := by
     rw [intsC, List.getElem?_map, hi0] at hu
     simpa using hu.symm
    subst hui
    have hmi := HM.out i0 (List.mem_of_getElem? hi0)
    have hnt : i0 ∉ fl.take j := by
     intro hm
     obtain ⟨q, hq⟩ := List.getElem?_of_mem hm
     rw [List.getElem?_take] at hq
     split at hq
     · have := (List.getElem?_inj (i := q) (j := j) (by omega) HN.out).1 (by rw [hq, hi0])
       omega
     · cases hq
    have hset : Calls Tryz.prog 60 #[.pointer (some ⟨b, 0, none⟩), .int .i64 (i0 : Int), .nilIface] wr fun e w' => e = .returned (.tuple #[]) /\ w' = wr.setCell ⟨b, i0 + 1, none⟩ .nilIface := by
     rcases HD.out i0 hmi.1 with e | ⟨s, e⟩ | ⟨s, e⟩
     · rw [e] at hmi; exact absurd hmi.2 (by simp [isNilV])
     · exact setNil wr b k _ hT i0 hmi.1 _ _ (by simp only [if_neg hnt]; rw [e]; rfl) _ (leftSource _ k s)
     · exact setNil wr b k _ hT i0 hmi.1 _ _ (by simp only [if_neg hnt]; rw [e]; rfl) _ (leftSink _ k s)
    have hT2 : TableOf (wr.setCell ⟨b, i0 + 1, none⟩ .nilIface) b k (fun i => if i ∈ fl.take (j + 1) then .nilIface else D i) := by
     refine (hT.set i0 hmi.1 .nilIface).congr fun i hi => ?_
     rw [List.take_add_one, hi0]
     by_cases e : i = i0
     · simp [e]
     · simp [e]
    have HT2 := Lib.hid hT2
    have HTU := Lib.hid hTu
    have HSET := Lib.hid hset
    clear hT2 hTu hset hT hnt hmi hu hi0 hbA hR
    go_wp2_with (go_at_call 60; refine HSET.out.mono ?_; rintro e w2 ⟨rfl, rfl⟩)
    go_roundw
    case rel => exact ⟨j + 1, by omega, by go_num, HT2.out, HTU.out.setCell _ _ (fun _ => List.mem_singleton.2 rfl)⟩
    case measure => simp [intOf]; omega
  · have he : j = fl.length := by omega
    subst he
    have HT2 := Lib.hid hT
    have HTU := Lib.hid hTu
    clear hT hTu hR
    go_wp2_with fail
    go_returns
    refine ⟨rfl, HT2.out.congr fun i hi => ?_, ((Turns.of_below HB.out).more (by simp)).trans HTU.out⟩
    rw [List.take_length]
    by_cases e : i ∈ fl
    · simp [e]
    · simp [e, HA.out i hi e]
end Go.Proofs.YtffffjngodinnaaGreatDoor
end
section
namespace Go.Proofs.YtffffjngodinnaaGreatDoor
set_option maxRecDepth 100000
open Go.RowKit Go.Maps
set_option maxHeartbeats 1000000 in
theorem kSaid (w : World) (k : Nat) (K : KS) (h : KernOf w k K) (n : Nat) (hn : n < 4611686018427387904) (p : Nat) (hx : K.tf (numK n) = some (sinkV p)) (base : Nat) (v : Value) (bs : List UInt8) (hp : SinkAt w p v) (hv : OffRow w base 5 v bs.length (bytesC bs)) (hl : bs.length <= 140737488355328) :
 Calls Tryz.prog 33 #[.pointer (some ⟨k, 0, none⟩), .int .i64 (n : Int)] w fun e w' => ∃ u, e = .returned u /\ w'.ownsRow w.heap.size 5 1 u bs.length (bytesC bs) /\ Below w.heap.size w w' := by
 have hcl := cloneB w v bs (Bytes.of_off hv) hl
 have c0 : w.cell? ⟨p, 0, none⟩ = some v := hp.cell 0
 have c5 : w.cell? ⟨k, 5, none⟩ = some (.map (some K.tb)) := h.blk.cell 5
 obtain ⟨A, cp, hvf, _⟩ := hv.form
 subst hvf
 go_enter Tryz.func33, Tryz.ntmps33
 go_wp2_with (first
  | (go_at_call 62; refine hcl.mono ?_; rintro e w1 ⟨u, rfl, hown, hbel⟩)
  | (at_lookup; refine wpList_look1_of _ rfl _ _ 135 rfl 3 146 intKeys Tryz.underlying135 .nilIface (by kernel_rfl) K.tb K.tn K.tf rfl h.things _ (numK n) rfl (keyOf_int_mk Tryz.underlying3 (WalkArith.wf_i64 (by omega))) ?_; rw [hx]; unfold sinkV))
 go_returns
 exact ⟨_, rfl, hown, hbel⟩
end Go.Proofs.YtffffjngodinnaaGreatDoor
end
