/-
  Parts of the proof: Bytes as values; a walk over bytes.Clone at any slice; A tree in memory; walks over New, Load of no nodes.
-/
import Derived.Test.YtffffjngodinnaaGreatDoorChecked
import Derived.Test.YtffffjngodinnaaGreatDoorV03
import Derived.WalkKit
import Derived.WalkSpells
import Derived.WalkLawsBesides
import Derived.Lib.Hide
import Derived.Lib.SliceRun
import Derived.Handy
import Derived.OwnWalk
import Derived.Test.YtffffjngodinnaaGreatDoorV01
import Derived.LoopN
import Derived.Lib.OwnKind

section
namespace Go.Proofs.YtffffjngodinnaaGreatDoor
open Go.RowKit

def bytesC (bs : List UInt8) : List Value := bs.map fun b => .int .u8 b.toNat
theorem bytesC_length (bs : List UInt8) : (bytesC bs).length = bs.length := by simp [bytesC]
theorem bytesC_take (bs : List UInt8) (n : Nat) : bytesC (bs.take n) = (bytesC bs).take n := by simp [bytesC]
theorem bytesC_drop (bs : List UInt8) (n : Nat) : bytesC (bs.drop n) = (bytesC bs).drop n := by simp [bytesC]
theorem bytesC_append (a b : List UInt8) : bytesC (a ++ b) = bytesC a ++ bytesC b := by simp [bytesC]
theorem bytesC_oneCell (l : List UInt8) : ∀ u ∈ bytesC l, u.oneCell' = true := by
  intro u hu
  unfold bytesC at hu
  obtain ⟨b, _, rfl⟩ := List.mem_map.1 hu
  rfl
theorem Tryz.infoByte : (Tryz.prog.info? 5).map (fun i => (i.zero, i.size, i.bytes)) = some (some (.int .u8 0), 1, 1) := by kernel_rfl

/-- a slice of bytes that can be read -/
def Bytes (w : World) (B : Nat) (v : Value) (bs : List UInt8) : Prop := ∃ A cap, v = .slice A bs.length cap ∧ bs.length ≤ cap ∧ cap ≤ maxLen ∧ (A = none → cap = 0) ∧ Reads w B 1 A bs.length (bytesC bs)
theorem Bytes.more {w : World} {B B' : Nat} {v : Value} {bs : List UInt8} (h : Bytes w B v bs) (hB : B ≤ B') : Bytes w B' v bs := by
  obtain ⟨A, cap, h1, h2, h3, h4, h5⟩ := h; exact ⟨A, cap, h1, h2, h3, h4, h5.more hB⟩
theorem Bytes.keep {w w' : World} {B : Nat} {v : Value} {bs : List UInt8} (h : Bytes w B v bs) (hk : ∀ p : Addr, p.block < B → w'.cell? p = w.cell? p) : Bytes w' B v bs := by
  obtain ⟨A, cap, h1, h2, h3, h4, h5⟩ := h; exact ⟨A, cap, h1, h2, h3, h4, h5.keep hk⟩
theorem Bytes.below {w w' : World} {B : Nat} {v : Value} {bs : List UInt8} (h : Bytes w B v bs) (hb : Below B w w') : Bytes w' B v bs := h.keep fun _ hp => hb.cell hp
theorem Bytes.nil (w : World) (B : Nat) : Bytes w B (.slice none 0 0) [] := ⟨none, 0, rfl, Nat.le_refl _, by unfold maxLen; omega, fun _ => rfl, Reads.none_⟩
theorem Bytes.of_off {w : World} {base n : Nat} {e : TypeId} {v : Value} {bs : List UInt8} (h : OffRow w base e v n (bytesC bs)) : Bytes w w.heap.size v bs := by
  have hn := h.1
  rw [bytesC_length] at hn
  obtain ⟨A, cap, hv, hc, hr⟩ := h.form
  refine ⟨A, cap, by rw [hv, hn], by omega, ?_, ?_, by rw [hn]; exact hr⟩
  · rcases h.2 with ⟨rfl, _⟩ | ⟨g, off, cap', cur, rfl, _, _, _, h3, _⟩
    · simp only [Value.slice.injEq] at hv
      unfold maxLen; omega
    · simp only [Value.slice.injEq] at hv
      omega
  · rintro rfl
    rcases h.2 with ⟨rfl, _⟩ | ⟨g, off, cap', cur, rfl, _⟩
    · simp only [Value.slice.injEq] at hv
      omega
    · simp at hv

theorem cloneB_any (ad : Addr) (cap : Nat) (bs : List UInt8) (w : World) (hr : Reads w w.heap.size 1 (some ad) bs.length (bytesC bs)) (hl : bs.length ≤ 140737488355328) :
    Calls Tryz.prog 62 #[.slice (some ad) bs.length cap] w fun e w' => ∃ v, e = .returned v ∧ w'.ownsRow w.heap.size 5 1 v bs.length (bytesC bs) ∧ Below w.heap.size w w' := by
  have heq := fun (W : World) => Lib.run_eql_slice_nil (P := Tryz.prog) W 23 5 (some ad) bs.length cap 0 0 Tryz.underlying23
  obtain ⟨iB, hiB, hB0, hB1, hB2⟩ := info_parts Tryz.infoByte
  have HI := Lib.hid hiB
  have H0 := Lib.hid hB0
  have H1 := Lib.hid hB1
  have H2 := Lib.hid hB2
  clear hiB hB0 hB1 hB2
  have hR := Lib.hid hr
  clear hr
  go_enter Tryz.func62, Tryz.ntmps62
  go_wp2_with (at_builtin; refine wpList_append_any _ rfl _ _ 23 rfl w.heap.size 5 iB (.int .u8 0) 1 1 Tryz.underlying23 HI.out H0.out H1.out H2.out rfl (by decide) (.slice (some ⟨w.heap.size, 0, none⟩) 0 0) 0 [] rfl (World.ownsRow_made w #[] 0 (Nat.le_refl _) (by decide) rfl) w.heap.size (some ad) bs.length cap (bytesC bs) rfl (hR.out.alloc (Nat.le_refl _) _) (bytesC_oneCell bs) (by simp only [maxLen]; omega) (by omega) (by simp) ?_; intro v2 w2 hown2 hg2 hat2)
  go_returns
  exact ⟨_, rfl, by simpa using hown2, ((Below.refl _ w).alloc (Nat.le_refl _) _).grown hg2 (by simp) (fun k hk => by simp [Value.ownBlock] at hk; omega)⟩
theorem cloneB_nil (w : World) : Calls Tryz.prog 62 #[.slice none 0 0] w fun e w' => e = .returned (.slice none 0 0) ∧ w' = w := by
  have heq := fun (W : World) => Lib.run_eql_slice_nil (P := Tryz.prog) W 23 5 none 0 0 0 0 Tryz.underlying23
  go_enter Tryz.func62, Tryz.ntmps62
  go_wp2
  go_returns
  exact ⟨rfl, rfl⟩
/-- bytes.Clone: a row of its own, or nil -/
theorem cloneB (w : World) (v : Value) (bs : List UInt8) (h : Bytes w w.heap.size v bs) (hl : bs.length ≤ 140737488355328) :
    Calls Tryz.prog 62 #[v] w fun e w' => ∃ u, e = .returned u ∧ w'.ownsRow w.heap.size 5 1 u bs.length (bytesC bs) ∧ Below w.heap.size w w' := by
  obtain ⟨A, cap, rfl, h2, h3, h4, h5⟩ := h
  cases A with
  | none =>
    have hc := h4 rfl
    have h0 : bs.length = 0 := by omega
    have hb : bs = [] := List.eq_nil_of_length_eq_zero h0
    subst hb hc
    refine (cloneB_nil w).mono ?_
    rintro e w' ⟨rfl, rfl⟩
    exact ⟨_, rfl, ⟨rfl, .inl ⟨rfl, rfl⟩⟩, Below.refl _ _⟩
  | some ad => exact cloneB_any ad cap bs w h5 hl

end Go.Proofs.YtffffjngodinnaaGreatDoor
end

section
namespace Go.Proofs.YtffffjngodinnaaGreatDoor
open Go.RowKit Go.Maps

/-- a file or a directory, as it stands in memory -/
structure Item where
  ino : Nat
  mode : Int
  tick : Int
  dir : Bool
  /-- the data: the slice's value, and what it reads as -/
  dv : Value
  data : List UInt8
  /-- a directory's names: the map's block, a bound on its entries, and the items' blocks -/
  nb : Nat
  nn : Nat
  nf : List UInt8 → Option Nat
  /-- the directory above -/
  up : Nat
  links : Int
  held : Int
def ptrV (b : Nat) : Value := .pointer (some ⟨b, 0, none⟩)
def itemCells (x : Item) : Array Value :=
  #[.int .i64 (x.ino : Int), .int .i64 x.mode, .int .i64 x.tick, .bool x.dir, x.dv, .map (if x.dir then some x.nb else none), .pointer (if x.dir then some ⟨x.up, 0, none⟩ else none), .int .i64 x.links, .int .i64 x.held]
def namesF (nf : List UInt8 → Option Nat) : Lit → Option Value
  | .string s => (nf s).map ptrV
  | _ => none
/-- a tree, as it stands in memory -/
structure TS where
  root : Nat
  fb : Nat
  fn : Nat
  files : Nat → Option Nat
  next : Nat
  many : Int
  items : Nat → Option Item
open Classical in
noncomputable def filesF (f : Nat → Option Nat) : Lit → Option Value
  | .int .i64 n => if 0 ≤ n then (f n.toNat).map ptrV else none
  | _ => none
theorem MapOf.blk_ne' {w : World} {P : Program} {q t : TypeId} {b n g : Nat} {f : Lit → Option Value} {cs : Array Value} (h : MapOf w P q b n f) (hg : Blk w g t cs) : b ≠ g := by
  obtain ⟨D, ⟨es, clock, h0, _⟩, _⟩ := h
  rintro rfl
  rw [show w.heap[b]? = _ from hg] at h0
  cases h0
structure TreeOf (w : World) (t : Nat) (T : TS) : Prop where
  blk : Blk w t 169 #[ptrV T.root, .map (some T.fb), .int .i64 (T.next : Int), .int .i64 T.many]
  files : MapOf w Tryz.prog 3 T.fb T.fn (filesF T.files)
  item : ∀ b x, T.items b = some x → Blk w b 179 (itemCells x) ∧ OffRow w 0 5 x.dv x.data.length (bytesC x.data) ∧
    (x.dir = true → MapOf w Tryz.prog 9 x.nb x.nn (namesF x.nf) ∧ x.nb ≠ T.fb)
  /-- no two directories share their names, no two items their data -/
  apart : ∀ b b' x x', T.items b = some x → T.items b' = some x' → b ≠ b' → (x.dir = true → x'.dir = true → x.nb ≠ x'.nb) ∧ (x.dv.ownBlock ≠ none → x.dv.ownBlock ≠ x'.dv.ownBlock)

/-- the root of an empty tree; the empty tree whose blocks begin at h -/
def rootItem (h : Nat) : Item := { ino := 1, mode := 493, tick := 0, dir := true, dv := .slice none 0 0, data := [], nb := h, nn := 0, nf := fun _ => none, up := h + 1, links := 0, held := 0 }
def emptyT (h : Nat) : TS := { root := h + 1, fb := h + 1 + 1, fn := 0, files := fun _ => none, next := 2, many := 0, items := fun b => if b = h + 1 then some (rootItem h) else none }
theorem namesF_none : namesF (fun _ => none) = fun _ => none := by funext l; cases l <;> rfl
theorem filesF_none : filesF (fun _ => none) = fun _ => none := by
  funext l
  unfold filesF
  split
  · split <;> rfl
  · rfl

set_option maxRecDepth 100000 in
set_option maxHeartbeats 1000000 in
theorem treeNew (w : World) : Calls Tryz.prog 90 #[] w fun e w' => e = .returned (ptrV (w.heap.size + 1 + 1 + 1)) ∧ TreeOf w' (w.heap.size + 1 + 1 + 1) (emptyT w.heap.size) ∧ Below w.heap.size w w' := by
  have hmm := @run_makeMap Tryz.prog
  go_enter Tryz.func90, Tryz.ntmps90
  go_wp2
  go_returns
  obtain ⟨h, hh⟩ : ∃ h, w.heap.size = h := ⟨_, rfl⟩
  rw [hh]
  obtain ⟨w1, h1⟩ : ∃ w1, w.alloc (.map #[] 0) = w1 := ⟨_, rfl⟩
  have s1 : w1.heap.size = h + 1 := by rw [← h1]; simp [hh]
  have m1 : MapOf w1 Tryz.prog 9 h 0 (fun _ => none) := by rw [← h1, ← hh]; exact MapOf.made w Tryz.prog 9
  have b1 : Below h w w1 := by rw [← h1, ← hh]; exact (Below.refl _ w).alloc (Nat.le_refl _) _
  rw [h1]
  obtain ⟨o2, ho2⟩ : ∃ o : Array Value, #[.int .i64 1, .int .i64 493, .int .i64 0, .bool true, .slice none 0 0, .map (some h), .pointer (some ⟨h + 1, 0, none⟩), .int .i64 0, .int .i64 0] = o := ⟨_, rfl⟩
  have hi2 : itemCells (rootItem h) = o2 := by rw [← ho2]; rfl
  rw [ho2]
  obtain ⟨w2, h2⟩ : ∃ w2, w1.alloc (.cells o2 179) = w2 := ⟨_, rfl⟩
  have s2 : w2.heap.size = h + 1 + 1 := by rw [← h2]; simp [s1]
  have k2 : Blk w2 (h + 1) 179 o2 := by rw [← h2, ← s1]; exact Blk.new w1 _ _
  have m2 : MapOf w2 Tryz.prog 9 h 0 (fun _ => none) := by rw [← h2]; exact m1.same (Below.heap_alloc _ _ _ (by omega))
  have b2 : Below h w w2 := by rw [← h2]; exact b1.alloc (by omega) _
  rw [h2]
  obtain ⟨w3, h3⟩ : ∃ w3, w2.alloc (.map #[] 0) = w3 := ⟨_, rfl⟩
  have s3 : w3.heap.size = h + 1 + 1 + 1 := by rw [← h3]; simp [s2]
  have k3 : Blk w3 (h + 1) 179 o2 := by rw [← h3]; exact k2.alloc _
  have m3 : MapOf w3 Tryz.prog 9 h 0 (fun _ => none) := by rw [← h3]; exact m2.same (Below.heap_alloc _ _ _ (by omega))
  have f3 : MapOf w3 Tryz.prog 3 (h + 1 + 1) 0 (fun _ => none) := by rw [← h3, ← s2]; exact MapOf.made w2 Tryz.prog 3
  have b3 : Below h w w3 := by rw [← h3]; exact b2.alloc (by omega) _
  rw [h3]
  refine ⟨rfl, ⟨?_, ?_, ?_, ?_⟩, b3.alloc (by omega) _⟩
  · have := Blk.new w3 169 #[.pointer (some ⟨h + 1, 0, none⟩), .map (some (h + 1 + 1)), .int .i64 2, .int .i64 0]
    rw [s3] at this
    exact this
  · rw [show (emptyT h).files = fun _ => none from rfl, filesF_none]
    exact f3.same (Below.heap_alloc _ _ _ (by show h + 1 + 1 < _; omega))
  · intro b x hx
    have hb : b = h + 1 ∧ x = rootItem h := by
      simp only [emptyT] at hx
      split at hx
      · exact ⟨by assumption, by simpa using hx.symm⟩
      · cases hx
    obtain ⟨rfl, rfl⟩ := hb
    refine ⟨by rw [hi2]; exact k3.alloc _, OffRow.nil _ _ _, fun _ => ⟨?_, by simp [rootItem, emptyT]; omega⟩⟩
    rw [show (rootItem h).nf = fun _ => none from rfl, namesF_none]
    exact m3.same (Below.heap_alloc _ _ _ (by show h < _; omega))
  · intro b b' x x' hx hx' hne
    simp only [emptyT] at hx hx'
    split at hx
    · split at hx'
      · omega
      · cases hx'
    · cases hx

theorem TreeOf.below {w w' : World} {t : Nat} {T : TS} (h : TreeOf w t T) (hb : Below w.heap.size w w') : TreeOf w' t T := by
  have hk : ∀ g, g < w.heap.size → w'.heap[g]? = w.heap[g]? := fun g hg => hb.block g hg
  refine ⟨(hk t h.blk.lt).trans h.blk, h.files.same (hk _ h.files.lt), fun b x hx => ?_, h.apart⟩
  obtain ⟨h1, h2, h3⟩ := h.item b x hx
  exact ⟨(hk b h1.lt).trans h1, h2.same fun g hg => hk g (h2.lt hg).2, fun hd => ⟨(h3 hd).1.same (hk _ (h3 hd).1.lt), (h3 hd).2⟩⟩

/-- a block of none of a tree's types -/
def NoTree (w : World) (g : Nat) : Prop := g < w.heap.size → ∃ e cs, Blk w g e cs ∧ e ≠ 169 ∧ e ≠ 179 ∧ e ≠ 5
theorem TreeOf.turns {w w' : World} {t : Nat} {T : TS} {S : List Nat} (h : TreeOf w t T) (ht : Turns S w w') (hS : ∀ g ∈ S, NoTree w g) : TreeOf w' t T := by
  have hk : ∀ g cs e, Blk w g e cs → (e = 169 ∨ e = 179 ∨ e = 5) → w'.heap[g]? = w.heap[g]? := by
    intro g cs e hg he
    refine ht.block g hg.lt fun hm => ?_
    obtain ⟨e', cs', hb, h1, h2, h3⟩ := hS g hm hg.lt
    have hee : e = e' := by
      have h4 := (show w.heap[g]? = _ from hg).symm.trans hb
      injection h4 with h4
      injection h4
    subst hee
    rcases he with he | he | he
    · exact h1 he
    · exact h2 he
    · exact h3 he
  have hm : ∀ q b n f, MapOf w Tryz.prog q b n f → w'.heap[b]? = w.heap[b]? := by
    intro q b n f hf
    refine ht.block b hf.lt fun hm => ?_
    obtain ⟨e', cs', hb, _⟩ := hS b hm hf.lt
    exact absurd rfl (MapOf.blk_ne' hf hb)
  refine ⟨(hk t _ _ h.blk (.inl rfl)).trans h.blk, h.files.same (hm _ _ _ _ h.files), fun b x hx => ?_, h.apart⟩
  obtain ⟨h1, h2, h3⟩ := h.item b x hx
  refine ⟨(hk b _ _ h1 (.inr (.inl rfl))).trans h1, h2.same fun g hg => ?_, fun hd => ⟨(h3 hd).1.same (hm _ _ _ _ (h3 hd).1), (h3 hd).2⟩⟩
  rcases h2.2 with ⟨e, _⟩ | ⟨g', off, cap, cur, e, _, hb, _⟩
  · rw [e] at hg; simp [Value.ownBlock] at hg
  · obtain rfl : g' = g := by rw [e] at hg; simpa [Value.ownBlock] using hg
    exact hk g' cur _ hb (.inr (.inr rfl))
set_option maxRecDepth 100000 in
set_option maxHeartbeats 1000000 in
theorem treeLoadNil (w : World) : Calls Tryz.prog 55 #[.slice none 0 0] w fun e w' => e = .returned (.tuple #[ptrV (w.heap.size + 1 + 1 + 1), .int .i64 0]) ∧ TreeOf w' (w.heap.size + 1 + 1 + 1) (emptyT w.heap.size) ∧ Below w.heap.size w w' := by
  have hmm := @run_makeMap Tryz.prog
  go_enter Tryz.func55, Tryz.ntmps55
  go_wp2_with (go_at_call 90; refine (treeNew _).mono ?_; rintro e w1 ⟨rfl, hT, hb⟩; unfold ptrV)
  all_goals
    refine wp_loop_rounds 1 ?_
    rw [rounds_succ]
    go_wp2
    go_returns
    exact ⟨rfl, hT.below ((Below.refl _ w1).alloc (Nat.le_refl _) _), hb.alloc hb.size _⟩

end Go.Proofs.YtffffjngodinnaaGreatDoor
end
