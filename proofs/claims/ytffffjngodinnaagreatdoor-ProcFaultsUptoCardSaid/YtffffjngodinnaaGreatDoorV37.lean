/-
  Parts of the proof: A walk over tree.Make; A walk over tree.Make: a directory.
-/
import Derived.Test.YtffffjngodinnaaGreatDoorV36
import Derived.Test.YtffffjngodinnaaGreatDoorV26
import Derived.Laws.BitsLemmas

section
namespace Go.Proofs.YtffffjngodinnaaGreatDoor
open Go.RowKit Go.Maps

/-- the maps of a tree have had so many stores at most -/
def TS.within (S : TS) (c : Nat) : Prop := (∀ b y, S.items b = some y → y.nn ≤ c) ∧ S.fn ≤ c
/-- a tree has become the tree T', and nothing else has turned -/
def TWent (w w' : World) (t : Nat) (S : TS) (c : Nat) (T' : Abs.T) : Prop :=
  ∃ S' β', TreeIs w' t S' T' β' ∧ S'.within c ∧ TurnsP (S.foot t) w w' ∧ ∀ b, S'.foot t b → S.foot t b ∨ w.heap.size ≤ b
/-- what Make answers -/
def makeV : Except Nat Nat → Value
  | .ok i => .tuple #[.int .i64 (i : Int), .int .i64 0]
  | .error e => .tuple #[.int .i64 0, .int .i64 (e : Int)]

theorem may_ok {T : Abs.T} {cwd path : List UInt8} {dir : Bool} {d : Nat} {n : Abs.Name} (h : T.may cwd path dir = .ok (d, n)) : ∃ x, T.get d = some x ∧ x.dir = true ∧ Abs.named n = true ∧ Abs.lk x.names n = none ∧ T.depth d < 10 ∧ T.many < 200 := by
  unfold Abs.T.may at h
  split at h
  · cases h
  · cases h
  · rename_i d' n' hp
    obtain ⟨hd, hn⟩ := place_ok hp
    obtain ⟨x, hx, hxd⟩ := Abs.isDir_of hd
    rw [hx] at h
    simp only at h
    split at h
    · cases h
    · rename_i h1
      split at h
      · cases h
      · split at h
        · cases h
        · split at h
          · cases h
          · simp only [Except.ok.injEq, Prod.mk.injEq] at h
            obtain ⟨rfl, rfl⟩ := h
            exact ⟨x, hx, hxd, hn, by simpa using h1, by omega, by omega⟩
theorem may_ne0 {T : Abs.T} {cwd path : List UInt8} {dir : Bool} {e : Nat} (h : T.may cwd path dir = .error e) : e ≠ 0 := by
  unfold Abs.T.may at h
  split at h
  · rename_i e' he; injection h with h; subst h; exact Abs.T.place_ne0 he
  · cases h; decide
  · repeat' split at h
    all_goals (cases h <;> decide)

set_option maxRecDepth 100000 in
set_option maxHeartbeats 4000000 in
/-- a file or directory that may not be made -/
theorem make_no (w : World) (t : Nat) (S : TS) (T : Abs.T) (β : Nat → Nat) (h : TreeIs w t S T β) (cwd path : ByteArray) (hc : cwd.size < 1073741824) (hp : path.size < 1073741824) (dir : Bool) (mode now : Int) (e : Nat) (hm : T.may cwd.data.toList path.data.toList dir = .error e) :
    Calls Tryz.prog 94 #[.pointer (some ⟨t, 0, none⟩), .string cwd, .string path, .bool dir, .int .i64 mode, .int .i64 now] w fun r w' => r = .returned (makeV (.error e)) ∧ Below w.heap.size w w' := by
  have hf := may_any w t S T β h cwd path hc hp dir
  rw [hm] at hf
  have he := may_ne0 hm
  have he1 : ((e : Int) != 0) = true := by simpa using he
  clear hm he
  unfold MayIs at hf
  unfold makeV
  go_enter Tryz.func94, Tryz.ntmps94
  go_wp2_with (go_at_call 123; refine hf.mono ?_; rintro e w' ⟨⟨dv, nv, rfl⟩, hb⟩)
  go_ret2
  exact ⟨rfl, hb⟩

theorem i64_and511 (n : Int) : bits .and .i64 n 511 = n % 512 := by
  have h511 : (BitVec.ofInt 64 511).toNat = 2 ^ 9 - 1 := by decide
  have key : (BitVec.ofInt 64 n &&& BitVec.ofInt 64 511).toNat = (n % ((2 ^ 64 : Nat) : Int)).toNat % 2 ^ 9 := by
    rw [BitVec.toNat_and, BitVec.toNat_ofInt, h511, Nat.and_two_pow_sub_one_eq_mod]
  show IntKind.i64.wrap ((BitVec.ofInt 64 n &&& BitVec.ofInt 64 511).toNat : Nat) = n % 512
  rw [key, IntKind.wrap_i64]
  omega
/-- the item of a new file; of a new directory -/
def newFile (ino : Nat) (mode tick : Int) : Item := { ino := ino, mode := mode, tick := tick, dir := false, dv := .slice none 0 0, data := [], nb := 0, nn := 0, nf := fun _ => none, up := 0, links := 0, held := 0 }
def newDir (ino : Nat) (mode tick : Int) (nb up : Nat) : Item := { ino := ino, mode := mode, tick := tick, dir := true, dv := .slice none 0 0, data := [], nb := nb, nn := 0, nf := fun _ => none, up := up, links := 0, held := 0 }
theorem filesF_upd (f : Nat → Option Nat) (n : Nat) (v : Option Nat) : filesF (updF f n v) = upd (filesF f) (numK n) (v.map ptrV) := by
  funext l
  by_cases hl : l = numK n
  · subst hl
    rw [upd_same]
    unfold filesF
    simp [updF]
  · rw [upd_other _ _ hl]
    unfold filesF
    split
    · rename_i m
      split
      · rename_i hm
        have : m.toNat ≠ n := fun e => hl (by simp only [numK, Lit.int.injEq, true_and]; omega)
        simp [updF, this]
      · rfl
    · rfl

set_option maxRecDepth 100000 in
set_option maxHeartbeats 4000000 in
/-- a file that may be made -/
theorem make_file (w : World) (t : Nat) (S : TS) (T : Abs.T) (β : Nat → Nat) (h : TreeIs w t S T β) (c : Nat) (hwi : S.within c) (hcb : c < 1152921504606846976) (hnx : T.next < 1152921504606846976) (cwd path : ByteArray) (hc : cwd.size < 1073741824) (hp : path.size < 1073741824) (mode now : Int) (d : Nat) (n : Abs.Name) (hm : T.may cwd.data.toList path.data.toList false = .ok (d, n)) :
    Calls Tryz.prog 94 #[.pointer (some ⟨t, 0, none⟩), .string cwd, .string path, .bool false, .int .i64 mode, .int .i64 now] w fun r w' => r = .returned (makeV (.ok T.next)) ∧ TWent w w' t S (c + 1) (T.made d n { dir := false, mode := Abs.nine mode, tick := now }) := by
  have hf := may_any w t S T β h cwd path hc hp false
  rw [hm] at hf
  obtain ⟨x, hx, hxd, hn, hlk, hdep, hmany⟩ := may_ok hm
  unfold MayIs at hf
  simp only at hf
  obtain ⟨yd, hyd, bd, hin, hmo, hti, hdi, hda, hdr, hli, hhe⟩ := h.at_ hx
  rw [hxd] at hdi
  have hsn : S.next = T.next := h.rep.next
  have hT1 : ∀ w1, Below w.heap.size w w1 → w1.cell? ⟨t, 2, none⟩ = some (.int .i64 (T.next : Int)) ∧ w1.frozen? ⟨t, 2, none⟩ = false ∧ t < w1.heap.size ∧ w1.cell? ⟨t, 1, none⟩ = some (.map (some S.fb)) := by
    intro w1 hb
    have h1 := (h.below hb).mem.blk
    exact ⟨by rw [h1.cell 2, ← hsn]; rfl, h1.frozen 2, h1.lt, h1.cell 1⟩
  have HT := Lib.hid hT1
  clear hT1
  unfold makeV
  go_enter Tryz.func94, Tryz.ntmps94
  go_wp2_with (go_at_call 123; refine hf.mono ?_; rintro e w1 ⟨rfl, hb⟩; obtain ⟨c2, f2, lt1, c1⟩ := HT.out w1 hb)
  rw [i64_and511]
  obtain ⟨b, hbe⟩ : ∃ b, w1.heap.size = b := ⟨_, rfl⟩
  have hI1 := h.below hb
  have hTa := hI1.mem.setTree (grown_setCell w1 ⟨t, 2, none⟩ (.int .i64 ((T.next : Int) + 1))) (S.next + 1) S.many (by have := hI1.mem.blk.set_ 2 (.int .i64 ((T.next : Int) + 1)); rw [hsn]; exact this)
  have hsza : (w1.setCell ⟨t, 2, none⟩ (.int .i64 ((T.next : Int) + 1))).heap.size = b := by simp [hbe]
  have hTb := fun o => hTa.below ((Below.refl _ _).alloc (Nat.le_refl _) o)
  have hnew := Blk.new (w1.setCell ⟨t, 2, none⟩ (.int .i64 ((T.next : Int) + 1))) 179 (itemCells (newFile T.next (Abs.nine mode) now))
  rw [hsza] at hnew
  have hTc := (hTb _).addItem (y := newFile T.next (Abs.nine mode) now) hnew (OffRow.nil _ _ _) (fun e => by cases e) (fun e => by cases e) (fun g e => by simp [newFile, Value.ownBlock] at e)
  have P1 : TurnsP (S.foot t) w ((w1.setCell ⟨t, 2, none⟩ (.int .i64 ((T.next : Int) + 1))).alloc (.cells (itemCells (newFile T.next (Abs.nine mode) now)) 179)) := ((TurnsP.of_below hb).setCell _ _ (fun _ => .inl rfl)).alloc _
  have hWe : (w1.setCell ⟨t, 2, none⟩ (.int .i64 ((T.next : Int) + 1))).alloc (.cells #[.int .i64 (T.next : Int), .int .i64 (mode % 512), .int .i64 now, .bool false, .slice none 0 0, .map none, .pointer none, .int .i64 0, .int .i64 0] 179) = (w1.setCell ⟨t, 2, none⟩ (.int .i64 ((T.next : Int) + 1))).alloc (.cells (itemCells (newFile T.next (Abs.nine mode) now)) 179) := rfl
  rw [hWe, hbe]
  obtain ⟨W, hW⟩ : ∃ W, ((w1.setCell ⟨t, 2, none⟩ (.int .i64 ((T.next : Int) + 1))).alloc (.cells (itemCells (newFile T.next (Abs.nine mode) now)) 179)).drew = W := ⟨_, rfl⟩
  have hTd : TreeOf W t (TS.put { S with next := S.next + 1, many := S.many } b (newFile T.next (Abs.nine mode) now)) := by rw [← hW]; exact hTc.off (F := fun _ => False) ((TurnsP.refl _ _).drew) (fun _ _ => id)
  have P2 : TurnsP (S.foot t) w W := by rw [← hW]; exact P1.drew
  have hbW : b < W.heap.size := by rw [← hW]; show b < (World.alloc _ _).heap.size; rw [World.size_alloc, hsza]; omega
  have bi := (hTd.item b _ (TS.put_same _ _ _)).1
  have q0 : W.cell? ⟨b, 0, none⟩ = some (.int .i64 (T.next : Int)) := bi.cell 0
  have q1 : W.cell? ⟨t, 1, none⟩ = some (.map (some S.fb)) := hTd.blk.cell 1
  have ltW := hTd.blk.lt
  refine still_tail 9 W hW (by kernel_rfl) (by kernel_rfl) ?_
  simp only [List.take_succ_cons, List.take_zero, List.drop_succ_cons, List.drop_zero]
  repeat still_step
  refine wpStill_nil ?_
  have hfW : MapOf W Tryz.prog 3 S.fb S.fn (filesF S.files) := hTd.files
  have hfn := hwi.2
  have hdb : β d ≠ b := fun e => by have := bd.lt; have := hb.size; omega
  obtain ⟨S3, hS3⟩ : ∃ S3 : TS, { TS.put { S with next := S.next + 1, many := S.many } b (newFile T.next (Abs.nine mode) now) with fn := S.fn + 1, files := updF S.files T.next (some b) } = S3 := ⟨_, rfl⟩
  have hd3 : S3.items (β d) = some yd := by rw [← hS3]; exact (TS.put_other _ _ hdb).trans hyd
  have hb3 : S3.items b = some (newFile T.next (Abs.nine mode) now) := by rw [← hS3]; exact TS.put_same _ _ _
  have hm3 : S3.many = (T.many : Int) := by rw [← hS3]; exact h.rep.many
  have hfoot3 : ∀ g, S3.foot t g → S.foot t g ∨ w.heap.size ≤ g := by
    rintro g (rfl | rfl | ⟨i, y, hy, hg⟩)
    · exact .inl (.inl rfl)
    · rw [← hS3]; exact .inl (.inr (.inl rfl))
    · rw [← hS3] at hy
      by_cases hi : i = b
      · subst hi
        rw [show TS.items _ i = _ from TS.put_same _ _ _] at hy
        cases hy
        rcases hg with rfl | ⟨hd, _⟩ | hv
        · exact .inr (by have := hb.size; omega)
        · cases hd
        · simp [newFile, Value.ownBlock] at hv
      · rw [show TS.items _ i = _ from TS.put_other _ _ hi] at hy
        exact .inl (.inr (.inr ⟨i, y, hy, hg⟩))
  have hT3 : ∀ w3, MapOf w3 Tryz.prog 3 S.fb (S.fn + 1) (upd (filesF S.files) (numK T.next) (some (ptrV b))) → W.grownBy w3 (some S.fb) → TreeOf w3 t S3 := by
    intro w3 hm hg
    have := hTd.setFiles hg (S.fn + 1) (updF S.files T.next (some b)) (by rw [filesF_upd]; exact hm)
    rw [hS3] at this
    exact this
  have hput := fun w3 h3 => put_raw w3 t S3 h3 (β d) b yd (newFile T.next (Abs.nine mode) now) hd3 hdi hb3 hdb ⟨n.toArray⟩ (named_size (by exact hn)) (by have := hwi.1 _ _ hyd; omega) (by unfold Calm newFile; simp) (by unfold Calm; rw [hm3]; omega)
  have H3 := Lib.hid hT3
  have HP := Lib.hid hput
  clear hT3 hput hTd hTc hTa hTb hnew hI1 hm3
  go_wp2_with (first
    | (go_at_call 124; refine (HP.out w3 hT3).mono ?_; rintro e w4 ⟨rfl, hT4, hP4⟩; have bi4 := (hT4.item b _ (TS.put_same _ _ _)).1; have q04 : w4.cell? ⟨b, 0, none⟩ = some (.int .i64 (T.next : Int)) := bi4.cell 0)
    | (at_mapUpdate; refine wpList_store_of _ rfl _ _ _ 167 rfl 3 166 intKeys Tryz.underlying167 S.fb S.fn (filesF S.files) rfl hfW (by unfold maxLen; omega) _ _ (numK T.next) rfl rfl (keyOf_int_mk Tryz.underlying3 (WalkArith.wf_i64 (by omega))) trivial ?_; intro w3 hm3 hg3; have hT3 := H3.out w3 hm3 hg3))
  go_ret2
  have hE : ∀ c, (S3.putE (β d) yd n b (newFile T.next (Abs.nine mode) now)).items c = if c = b then some { newFile T.next (Abs.nine mode) now with links := (newFile T.next (Abs.nine mode) now).links + 1, up := if (newFile T.next (Abs.nine mode) now).dir then β d else (newFile T.next (Abs.nine mode) now).up } else if c = β d then some { yd with nn := yd.nn + 1, nf := updN yd.nf n (some b) } else S.items c := by
    intro c
    by_cases hc : c = b
    · subst hc; rw [if_pos rfl]; exact TS.put_same _ _ _
    · rw [if_neg hc]
      refine (TS.put_other _ _ hc).trans ?_
      by_cases hcd : c = β d
      · subst hcd; rw [if_pos rfl]; exact TS.put_same _ _ _
      · rw [if_neg hcd]
        refine (TS.put_other _ _ hcd).trans ?_
        rw [← hS3]
        exact TS.put_other _ _ hc
  refine ⟨rfl, S3.putE (β d) yd n b (newFile T.next (Abs.nine mode) now), updB β T.next b, ⟨hT4, ?_, ?_⟩, ?_, ?_, ?_⟩
  · refine rep_made h.rep h.wf (fun i z hz e => ?_) hx hxd hlk rfl rfl rfl (fun e => by cases e) (m := yd.nn + 1) hyd (yx := newFile T.next (Abs.nine mode) now) rfl rfl rfl rfl rfl rfl rfl (fun _ => rfl) ?_ ?_ ?_ hE (fun i => ?_)
    · obtain ⟨yz, _, bz, _⟩ := h.at_ hz
      have := bz.lt; have := hb.size; omega
    · rw [← hS3]; rfl
    · rw [← hS3]; rfl
    · rw [← hS3]; rfl
    · rw [← hS3]; rfl
  · exact h.wf.made_wf hx hxd hlk rfl (fun e => by cases e) hdep
  · refine ⟨fun c y hy => ?_, ?_⟩
    · rw [hE] at hy
      split at hy
      · cases hy; exact Nat.zero_le _
      · split at hy
        · cases hy; exact Nat.succ_le_succ (hwi.1 _ _ hyd)
        · have := hwi.1 _ _ hy; omega
    · show S3.fn ≤ _
      rw [← hS3]
      exact Nat.succ_le_succ hwi.2
  · refine (P2.grown hg3 (fun k e _ => by cases e; exact .inr (.inl rfl))).then hP4 hfoot3
  · rintro g (rfl | e | ⟨i, y, hy, hg⟩)
    · exact .inl (.inl rfl)
    · refine .inl (.inr (.inl (e.trans ?_)))
      show S3.fb = _
      rw [← hS3]; rfl
    · rw [hE] at hy
      split at hy
      · rename_i hib
        cases hy
        rcases hg with rfl | ⟨hd, _⟩ | hv
        · exact .inr (by have := hb.size; omega)
        · cases hd
        · simp [newFile, Value.ownBlock] at hv
      · split at hy
        · rename_i _ hid
          cases hy
          exact .inl (.inr (.inr ⟨β d, yd, hyd, by rw [← hid]; exact hg⟩))
        · exact .inl (.inr (.inr ⟨i, y, hy, hg⟩))

end Go.Proofs.YtffffjngodinnaaGreatDoor
end

section
namespace Go.Proofs.YtffffjngodinnaaGreatDoor
open Go.RowKit Go.Maps

/-- the cells of a directory that has no place yet -/
def newCells (ino : Nat) (mode tick : Int) (nb : Nat) : Array Value := #[.int .i64 (ino : Int), .int .i64 mode, .int .i64 tick, .bool true, .slice none 0 0, .map (some nb), .pointer none, .int .i64 0, .int .i64 0]
/-- the tree with a directory more -/
def TS.putD (S : TS) (bd : Nat) (yd : Item) (n : List UInt8) (bx : Nat) (y : Item) : TS :=
  { (S.put bd { yd with nn := yd.nn + 1, nf := updN yd.nf n (some bx) }).put bx y with many := S.many + 1 }

set_option maxRecDepth 100000 in
set_option maxHeartbeats 2000000 in
theorem put_dir (w : World) (t : Nat) (S : TS) (h : TreeOf w t S) (bd bx nb ino : Nat) (mode tick : Int) (yd : Item) (hd : S.items bd = some yd) (hdd : yd.dir = true) (hbx : Blk w bx 179 (newCells ino mode tick nb)) (hnb : MapOf w Tryz.prog 9 nb 0 (fun _ => none)) (hbf : ¬ S.foot t bx) (hnf : ¬ S.foot t nb) (hbn : bx ≠ nb)
    (ns : ByteArray) (hs : ns.size ≤ 32) (hnn : yd.nn < 2305843009213693952) (hm : Calm S.many) :
    Calls Tryz.prog 124 #[.pointer (some ⟨t, 0, none⟩), .pointer (some ⟨bd, 0, none⟩), .string ns, .pointer (some ⟨bx, 0, none⟩)] w fun e w' => e = .returned (.tuple #[]) ∧ TreeOf w' t (S.putD bd yd ns.data.toList bx { newDir ino mode tick nb bd with links := 1 }) ∧ TurnsP (fun g => S.foot t g ∨ g = bx) w w' := by
  obtain ⟨d1, d2, d3⟩ := h.item bd yd hd
  obtain ⟨m1, m2⟩ := d3 hdd
  have hne : bd ≠ bx := fun e => hbf (.inr (.inr ⟨bd, yd, hd, .inl e.symm⟩))
  have fnb : S.foot t yd.nb := .inr (.inr ⟨bd, yd, hd, .inr (.inl ⟨hdd, rfl⟩)⟩)
  have hxy : bx ≠ yd.nb := fun e => hbf (e ▸ fnb)
  have hny : nb ≠ yd.nb := fun e => hnf (e ▸ fnb)
  have k5 : w.cell? ⟨bd, 5, none⟩ = some (.map (some yd.nb)) := by rw [d1.cell 5]; simp [itemCells, hdd]
  have wm := hm.wrap_up
  have htx : t ≠ bx := fun e => hbf (.inl e.symm)
  have hF : ∀ w1, MapOf w1 Tryz.prog 9 yd.nb (yd.nn + 1) (upd (namesF yd.nf) (.string ns.data.toList) (some (ptrV bx))) → w.grownBy w1 (some yd.nb) → TreeOf w1 t (S.put bd { yd with nn := yd.nn + 1, nf := updN yd.nf ns.data.toList (some bx) }) ∧ Blk w1 bx 179 (newCells ino mode tick nb) ∧ MapOf w1 Tryz.prog 9 nb 0 (fun _ => none) := by
    intro w1 hm1 hg1
    refine ⟨h.setNames hd hdd hg1 (yd.nn + 1) _ ?_, (hg1.block bx hbx.lt (by simpa using hxy)).trans hbx, hnb.same (hg1.block nb hnb.lt (by simpa using hny))⟩
    rw [namesF_upd]
    exact hm1
  have HF := Lib.hid hF
  clear hF
  go_enter Tryz.func124, Tryz.ntmps124
  go_wp2_with (at_mapUpdate; refine wpList_store_of _ rfl _ _ _ 177 rfl 9 166 stringKeys Tryz.underlying177 yd.nb yd.nn (namesF yd.nf) rfl m1 (by unfold maxLen; omega) _ _ (.string ns.data.toList) rfl rfl (keyOf_str ns (by unfold maxLen; omega)) (strLit _) ?_; intro w1 hm1 hg1; obtain ⟨hT1, b1, hn1⟩ := HF.out w1 hm1 hg1; have q3 : w1.cell? ⟨bx, 3, none⟩ = some (.bool true) := b1.cell 3; have q7 : w1.cell? ⟨bx, 7, none⟩ = some (.int .i64 0) := b1.cell 7; have f7 := b1.frozen 7; have q6 : w1.cell? ⟨bx, 6, none⟩ = some (.pointer none) := b1.cell 6; have f6 := b1.frozen 6; have r3 : w1.cell? ⟨t, 3, none⟩ = some (.int .i64 S.many) := hT1.blk.cell 3; have g3 := hT1.blk.frozen 3; have lx := b1.lt; have lt1 := hT1.blk.lt)
  go_returns
  have hfoot : ∀ g, (S.put bd { yd with nn := yd.nn + 1, nf := updN yd.nf ns.data.toList (some bx) }).foot t g → S.foot t g := by
    rintro g (rfl | e | ⟨i, y, hy, hg⟩)
    · exact .inl rfl
    · exact .inr (.inl e)
    · by_cases hi : i = bd
      · subst hi
        rw [TS.put_same] at hy
        cases hy
        exact .inr (.inr ⟨i, yd, hd, hg⟩)
      · rw [TS.put_other _ _ hi] at hy
        exact .inr (.inr ⟨i, y, hy, hg⟩)
  have hP0 : TurnsP (fun g => S.foot t g ∨ g = bx) w w1 := (TurnsP.refl _ w).grown hg1 (fun k e _ => by cases e; exact .inl fnb)
  have hP := ((hP0.setCell ⟨bx, 7, none⟩ (.int .i64 1) (fun _ => .inr rfl)).setCell ⟨t, 3, none⟩ (.int .i64 (S.many + 1)) (fun _ => .inl (.inl rfl))).setCell ⟨bx, 6, none⟩ (.pointer (some ⟨bd, 0, none⟩)) (fun _ => .inr rfl)
  have hQ1 : TurnsP (fun g => g = bx) w1 (w1.setCell ⟨bx, 7, none⟩ (.int .i64 1)) := (TurnsP.refl _ w1).setCell _ _ (fun _ => rfl)
  have hT2 := hT1.off hQ1 (fun g hg e => hbf (e ▸ hfoot g hg))
  have hT3 := hT2.setTree (grown_setCell _ ⟨t, 3, none⟩ (.int .i64 (S.many + 1))) S.next (S.many + 1) (hT2.blk.set_ 3 _)
  have hT4 := hT3.off (F := fun g => g = bx) ((TurnsP.refl _ _).setCell ⟨bx, 6, none⟩ (.pointer (some ⟨bd, 0, none⟩)) (fun _ => rfl)) (fun g hg e => hbf (e ▸ hfoot g hg))
  have hb2 := b1.set_ 7 (.int .i64 1)
  have hb3 := (hb2.far (p := ⟨t, 3, none⟩) (Ne.symm htx) (.int .i64 (S.many + 1))).set_ 6 (.pointer (some ⟨bd, 0, none⟩))
  have hn3 : MapOf (((w1.setCell ⟨bx, 7, none⟩ (.int .i64 1)).setCell ⟨t, 3, none⟩ (.int .i64 (S.many + 1))).setCell ⟨bx, 6, none⟩ (.pointer (some ⟨bd, 0, none⟩))) Tryz.prog 9 nb 0 (fun _ => none) := by
    refine hn1.same ?_
    rw [Below.heap_setCell _ _ _ nb (by exact hbn.symm), Below.heap_setCell _ _ _ nb (by exact fun e => hnf (.inl e)), Below.heap_setCell _ _ _ nb (by exact hbn.symm)]
  refine ⟨rfl, ?_, hP⟩
  have := hT4.addItem (b := bx) (y := { newDir ino mode tick nb bd with links := 1 }) hb3 (OffRow.nil _ _ _) (fun _ => by rw [show ({ newDir ino mode tick nb bd with links := 1 } : Item).nf = fun _ => none from rfl, namesF_none]; exact hn3) (fun _ hft => hnf (hfoot _ hft)) (fun g e => by simp [newDir, Value.ownBlock] at e)
  exact this

set_option maxRecDepth 100000 in
set_option maxHeartbeats 4000000 in
/-- a directory that may be made -/
theorem make_dir (w : World) (t : Nat) (S : TS) (T : Abs.T) (β : Nat → Nat) (h : TreeIs w t S T β) (c : Nat) (hwi : S.within c) (hcb : c < 1152921504606846976) (hnx : T.next < 1152921504606846976) (cwd path : ByteArray) (hc : cwd.size < 1073741824) (hp : path.size < 1073741824) (mode now : Int) (d : Nat) (n : Abs.Name) (hm : T.may cwd.data.toList path.data.toList true = .ok (d, n)) :
    Calls Tryz.prog 94 #[.pointer (some ⟨t, 0, none⟩), .string cwd, .string path, .bool true, .int .i64 mode, .int .i64 now] w fun r w' => r = .returned (makeV (.ok T.next)) ∧ TWent w w' t S (c + 1) (T.made d n { dir := true, mode := Abs.nine mode, tick := now, up := d }) := by
  have hf := may_any w t S T β h cwd path hc hp true
  rw [hm] at hf
  obtain ⟨x, hx, hxd, hn, hlk, hdep, hmany⟩ := may_ok hm
  unfold MayIs at hf
  simp only at hf
  obtain ⟨yd, hyd, bd, hin, hmo, hti, hdi, hda, hdr, hli, hhe⟩ := h.at_ hx
  rw [hxd] at hdi
  have hsn : S.next = T.next := h.rep.next
  have hT1 : ∀ w1, Below w.heap.size w w1 → w1.cell? ⟨t, 2, none⟩ = some (.int .i64 (T.next : Int)) ∧ w1.frozen? ⟨t, 2, none⟩ = false ∧ t < w1.heap.size ∧ w1.cell? ⟨t, 1, none⟩ = some (.map (some S.fb)) := by
    intro w1 hb
    have h1 := (h.below hb).mem.blk
    exact ⟨by rw [h1.cell 2, ← hsn]; rfl, h1.frozen 2, h1.lt, h1.cell 1⟩
  have HT := Lib.hid hT1
  clear hT1
  unfold makeV
  have hmm := @run_makeMap Tryz.prog
  go_enter Tryz.func94, Tryz.ntmps94
  go_wp2_with (go_at_call 123; refine hf.mono ?_; rintro e w1 ⟨rfl, hb⟩; obtain ⟨c2, f2, lt1, c1⟩ := HT.out w1 hb)
  clear hmm
  rw [i64_and511]
  obtain ⟨b, hbe⟩ : ∃ b, w1.heap.size = b := ⟨_, rfl⟩
  have hI1 := h.below hb
  have hTa := hI1.mem.setTree (grown_setCell w1 ⟨t, 2, none⟩ (.int .i64 ((T.next : Int) + 1))) (S.next + 1) S.many (by have := hI1.mem.blk.set_ 2 (.int .i64 ((T.next : Int) + 1)); rw [hsn]; exact this)
  obtain ⟨WA, hWA⟩ : ∃ WA, w1.setCell ⟨t, 2, none⟩ (.int .i64 ((T.next : Int) + 1)) = WA := ⟨_, rfl⟩
  have hsza : WA.heap.size = b := by rw [← hWA]; simp [hbe]
  rw [hWA] at hTa ⊢
  have PA : TurnsP (S.foot t) w WA := by rw [← hWA]; exact (TurnsP.of_below hb).setCell _ _ (fun _ => .inl rfl)
  rw [hbe]
  have hWe : WA.alloc (.cells #[.int .i64 (T.next : Int), .int .i64 (mode % 512), .int .i64 now, .bool true, .slice none 0 0, .map (some (b + 1)), .pointer none, .int .i64 0, .int .i64 0] 179) = WA.alloc (.cells (newCells T.next (Abs.nine mode) now (b + 1)) 179) := rfl
  rw [hWe]
  obtain ⟨WB, hWB⟩ : ∃ WB, WA.alloc (.cells (newCells T.next (Abs.nine mode) now (b + 1)) 179) = WB := ⟨_, rfl⟩
  have hszb : WB.heap.size = b + 1 := by rw [← hWB]; simp [hsza]
  have kB : Blk WB b 179 (newCells T.next (Abs.nine mode) now (b + 1)) := by rw [← hWB, ← hsza]; exact Blk.new WA _ _
  have PB : TurnsP (S.foot t) w WB := by rw [← hWB]; exact PA.alloc _
  have hTb : TreeOf WB t { S with next := S.next + 1, many := S.many } := by rw [← hWB]; exact hTa.below ((Below.refl _ _).alloc (Nat.le_refl _) _)
  rw [hWB]
  obtain ⟨W, hW⟩ : ∃ W, WB.alloc (.map #[] 0) = W := ⟨_, rfl⟩
  have hszw : W.heap.size = b + 1 + 1 := by rw [← hW]; simp [hszb]
  have kW : Blk W b 179 (newCells T.next (Abs.nine mode) now (b + 1)) := by rw [← hW]; exact kB.alloc _
  have mW : MapOf W Tryz.prog 9 (b + 1) 0 (fun _ => none) := by rw [← hW, ← hszb]; exact MapOf.made WB Tryz.prog 9
  have P2 : TurnsP (S.foot t) w W := by rw [← hW]; exact PB.alloc _
  have hTc : TreeOf W t { S with next := S.next + 1, many := S.many } := by rw [← hW]; exact hTb.below ((Below.refl _ _).alloc (Nat.le_refl _) _)
  rw [hW]
  have hfl : ∀ g, S.foot t g → g < w.heap.size := fun g hg => h.mem.foot_lt hg
  have hws := hb.size
  have q0 : W.cell? ⟨b, 0, none⟩ = some (.int .i64 (T.next : Int)) := kW.cell 0
  have hdb : β d ≠ b := fun e => by have := bd.lt; omega
  obtain ⟨S3, hS3⟩ : ∃ S3 : TS, { S with next := S.next + 1, many := S.many } = S3 := ⟨_, rfl⟩
  rw [hS3] at hTc
  have hd3 : S3.items (β d) = some yd := by rw [← hS3]; exact hyd
  have hm3 : S3.many = (T.many : Int) := by rw [← hS3]; exact h.rep.many
  have hfoot3 : ∀ g, S3.foot t g → S.foot t g := by
    intro g hg
    rw [← hS3] at hg
    exact hg
  have hput := put_dir W t S3 hTc (β d) b (b + 1) T.next (Abs.nine mode) now yd hd3 hdi kW mW (fun hg => by have := hfl _ (hfoot3 _ hg); omega) (fun hg => by have := hfl _ (hfoot3 _ hg); omega) (by omega) ⟨n.toArray⟩ (named_size (by exact hn)) (by have := hwi.1 _ _ hyd; omega) (by unfold Calm; rw [hm3]; omega)
  clear hTc hTa hTb kW kB mW hI1 hm3
  go_wp2_with (go_at_call 124; refine hput.mono ?_; rintro e w4 ⟨rfl, hT4, hP4⟩; have bi4 := (hT4.item b _ (TS.put_same _ _ _)).1; have q04 : w4.cell? ⟨b, 0, none⟩ = some (.int .i64 (T.next : Int)) := bi4.cell 0)
  go_ret2
  have hE : ∀ c, (S3.putD (β d) yd n b { newDir T.next (Abs.nine mode) now (b + 1) (β d) with links := 1 }).items c = if c = b then some { newDir T.next (Abs.nine mode) now (b + 1) 0 with links := (newDir T.next (Abs.nine mode) now (b + 1) 0).links + 1, up := if (newDir T.next (Abs.nine mode) now (b + 1) 0).dir then β d else (newDir T.next (Abs.nine mode) now (b + 1) 0).up } else if c = β d then some { yd with nn := yd.nn + 1, nf := updN yd.nf n (some b) } else S.items c := by
    intro c
    by_cases hc : c = b
    · subst hc; rw [if_pos rfl]; exact TS.put_same _ _ _
    · rw [if_neg hc]
      refine (TS.put_other _ _ hc).trans ?_
      by_cases hcd : c = β d
      · subst hcd; rw [if_pos rfl]; exact TS.put_same _ _ _
      · rw [if_neg hcd]
        refine (TS.put_other _ _ hcd).trans ?_
        rw [← hS3]
  refine ⟨rfl, S3.putD (β d) yd n b { newDir T.next (Abs.nine mode) now (b + 1) (β d) with links := 1 }, updB β T.next b, ⟨hT4, ?_, ?_⟩, ?_, ?_, ?_⟩
  · refine rep_made h.rep h.wf (fun i z hz e => ?_) hx hxd hlk rfl rfl rfl (fun _ => rfl) (m := yd.nn + 1) hyd (yx := newDir T.next (Abs.nine mode) now (b + 1) 0) rfl rfl rfl rfl rfl rfl rfl (fun _ => rfl) ?_ ?_ ?_ hE (fun i => ?_)
    · obtain ⟨yz, _, bz, _⟩ := h.at_ hz
      have := bz.lt; omega
    · rw [← hS3]; rfl
    · rw [← hS3]; rfl
    · rw [← hS3]; rfl
    · rw [← hS3]; rfl
  · exact h.wf.made_wf hx hxd hlk rfl (fun _ => rfl) hdep
  · refine ⟨fun c y hy => ?_, ?_⟩
    · rw [hE] at hy
      split at hy
      · cases hy; exact Nat.zero_le _
      · split at hy
        · cases hy; exact Nat.succ_le_succ (hwi.1 _ _ hyd)
        · have := hwi.1 _ _ hy; omega
    · show S3.fn ≤ _
      rw [← hS3]
      exact Nat.le_succ_of_le hwi.2
  · refine P2.then hP4 ?_
    rintro g (hg | rfl)
    · exact .inl (hfoot3 g hg)
    · exact .inr (by omega)
  · rintro g (rfl | e | ⟨i, y, hy, hg⟩)
    · exact .inl (.inl rfl)
    · refine .inl (.inr (.inl (e.trans ?_)))
      show S3.fb = _
      rw [← hS3]
    · rw [hE] at hy
      split at hy
      · rename_i hib
        cases hy
        rcases hg with rfl | ⟨hd, rfl⟩ | hv
        · exact .inr (by omega)
        · exact .inr (by show w.heap.size ≤ b + 1; omega)
        · simp [newDir, Value.ownBlock] at hv
      · split at hy
        · rename_i _ hid
          cases hy
          exact .inl (.inr (.inr ⟨β d, yd, hyd, by rw [← hid]; exact hg⟩))
        · exact .inl (.inr (.inr ⟨i, y, hy, hg⟩))

end Go.Proofs.YtffffjngodinnaaGreatDoor
end
