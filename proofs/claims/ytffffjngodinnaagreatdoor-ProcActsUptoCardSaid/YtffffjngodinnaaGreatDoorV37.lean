/-
  Parts of the proof.
-/
import Derived.Test.YtffffjngodinnaaGreatDoorV16
import Derived.Test.YtffffjngodinnaaGreatDoorV22
import Derived.Test.YtffffjngodinnaaGreatDoorV31
namespace Go.Proofs.YtffffjngodinnaaGreatDoor
section
set_option maxRecDepth 100000
open Go.RowKit Go.Maps Go.Shelf
attribute [local go_sem] Oper.semAt_some
def encW (β : Nat -> Nat) (a : List UInt8 × Nat) : Array Value := #[.string ⟨a.1.toArray⟩, .pointer (some ⟨β a.2, 0, none⟩)]
def markD (D : Nat) : Deferred := { target := .collected D, args := #[] }
def Marks (B : Nat) (Ds : List Nat) (w : World) : Prop := Ds.Nodup /\ ∀ D ∈ Ds, B <= D /\ w.heap[D]? = some (.deferred (some []))
theorem Marks.stay {tb tr : TypeId} {B B' : Nat} {Ds : List Nat} {w w' : World} (h : Marks B Ds w) (hs : Stay tb tr B' w w') : Marks B Ds w' := ⟨h.1, fun D hD => ⟨(h.2 D hD).1, hs.same _ _ (h.2 D hD).2 trivial⟩⟩
theorem Marks.more {B D : Nat} {Ds : List Nat} {w w' : World} (h : Marks B Ds w) (hw : ∀ E ∈ Ds, w'.heap[E]? = w.heap[E]?) (hB : B <= D) (hD : ∀ E ∈ Ds, E < D) (hk : w'.heap[D]? = some (.deferred (some []))) : Marks B (D :: Ds) w' := by
 refine ⟨List.nodup_cons.2 ⟨fun hm => ?_, h.1⟩, fun E hE => ?_⟩
 · exact Nat.lt_irrefl _ (hD D hm)
 · rcases List.mem_cons.1 hE with rfl | hE
   · exact ⟨hB, hk⟩
   · exact ⟨(h.2 E hE).1, (hw E hE).trans (h.2 E hE).2⟩
theorem leaves_marks {F : Fence} {n : Nat} {P : Program} {fn : Func} {tmps : Array Value} {R : Ending -> World -> Prop} (K : World -> Prop) (B : Nat) (hK : ∀ w D, B <= D -> w.heap[D]? = some (.deferred (some [])) -> K w -> K (w.putObj D (.deferred none)))
 (hR : ∀ w, K w -> LeavesInM F n P fn tmps R [] .returning w) : ∀ (Ds : List Nat) (w : World), Marks B Ds w -> K w -> LeavesInM F n P fn tmps R (Ds.map markD) .returning w
 | [], w, _, h => hR w h
 | D :: Ds, w, hM, h => by
   have hD := hM.2 D (by simp)
   refine ⟨by simp, .inl ⟨D, _, rfl, run_takeDeferred hD.2, leaves_marks K B hK hR Ds _ ⟨(List.nodup_cons.1 hM.1).2, fun E hE => ⟨(hM.2 E (List.mem_cons_of_mem _ hE)).1, ?_⟩⟩ (hK w D hD.1 hD.2 h)⟩⟩
   have hne : E ≠ D := fun e => (List.nodup_cons.1 hM.1).1 (e ▸ hE)
   exact (World.putObj_heap_other hne).trans (hM.2 E (List.mem_cons_of_mem _ hE)).2
theorem Stay.far {tb tr : TypeId} {B : Nat} {w X Y : World} (h : Stay tb tr B w X) {row : Option Nat} (hg : X.grownBy Y row) (hr : ∀ r, row = some r -> w.heap.size <= r) : Stay tb tr B w Y := by
 refine ⟨Nat.le_trans h.size hg.size, fun k o hk ho => ?_⟩
 have h1 := h.same k o hk ho
 refine (hg.block k (Array.getElem?_eq_some_iff.1 h1).1 fun e => ?_).trans h1
 have h2 := hr k e.symm
 have h3 := (Array.getElem?_eq_some_iff.1 hk).1
 omega
def upTo (T : Abs.T) (k : Nat) (p : List UInt8) (x : Abs.Ent) (r : Nat) : List (List UInt8 × Nat) := (x.names.take r).flatMap (fun q => (p ++ 47 :: q.1, q.2) :: T.walkN k q.2 (p ++ 47 :: q.1))
theorem upTo_succ {T : Abs.T} {k : Nat} {p : List UInt8} {x : Abs.Ent} {r : Nat} {q : Abs.Name × Nat} (h : x.names[r]? = some q) : upTo T k p x (r + 1) = upTo T k p x r ++ [(p ++ 47 :: q.1, q.2)] ++ T.walkN k q.2 (p ++ 47 :: q.1) := by
 unfold upTo
 rw [List.take_add_one, h, List.flatMap_append]
 simp
theorem upTo_all {T : Abs.T} {k i : Nat} {p : List UInt8} {x : Abs.Ent} (h : T.get i = some x) {r : Nat} (hr : x.names.length <= r) : upTo T k p x r = T.walkN (k + 1) i p := by
 have e : T.walkN (k + 1) i p = x.names.flatMap (fun q => (p ++ 47 :: q.1, q.2) :: T.walkN k q.2 (p ++ 47 :: q.1)) := by simp only [Abs.T.walkN, h]
 rw [e]
 unfold upTo
 rw [List.take_of_length_le hr]
theorem upTo_prefix {T : Abs.T} {k i : Nat} {p : List UInt8} {x : Abs.Ent} (h : T.get i = some x) (r : Nat) : upTo T k p x r <+: T.walkN (k + 1) i p := by
 rw [<- upTo_all h (Nat.le_refl _)]
 unfold upTo
 rw [List.take_length]
 refine ⟨(x.names.drop r).flatMap (fun q => (p ++ 47 :: q.1, q.2) :: T.walkN k q.2 (p ++ 47 :: q.1)), ?_⟩
 rw [<- List.flatMap_append, List.take_append_drop]
set_option maxHeartbeats 8000000 in
theorem walk_deep (t : Nat) (S : TS) (T : Abs.T) (β : Nat -> Nat) (hnn : ∀ b y, S.items b = some y -> y.nn <= 1048576) (Bd : Nat) (hf : T.Fine Bd) (dp : Nat -> Nat) (hdp : ∀ i x, T.get i = some x -> x.dir = true -> i ≠ 1 -> dp i = dp x.up + 1 /\ dp i <= 10) (hd1 : dp 1 = 0) :
 ∀ (k i : Nat) (x : Abs.Ent) (p : List UInt8) (w : World) (B0 B1 : Nat), TreeIs w t S T β -> T.get i = some x -> (x.dir = true -> 12 <= k + dp i) -> 1 <= k -> p.length + 33 * k <= 1000000 -> Blk w B0 166 #[.pointer (some ⟨β i, 0, none⟩)] -> Blk w B1 9 #[.string ⟨p.toArray⟩] -> ∀ n,
 SeqDeep 163 172 Fence.wide n Tryz.prog 101 #[.pointer (some ⟨B0, 0, none⟩), .pointer (some ⟨B1, 0, none⟩)] (encW β) (T.walkN k i p) w := by
 intro k
 induction k with
 | zero => intro i x p w B0 B1 _ _ _ h; omega
 | succ k ih =>
   intro i x p w B0 B1 hT hx hk _ hp k0 k1 n l J W hW hJ hY hJ0
   have hS : Fence.wide.fn 102 := trivial
   have hWf : Fence.wide.fn 65 := trivial
   have hdd : ∀ k : Nat, (Fence.wide.depth.isSome = true -> 1 <= k) := fun k h => by cases h
   refine callsIn_of_wp_marks Tryz.func101 rfl trivial ?_ rfl
   simp only [Tryz.ntmps101, List.size_toArray, List.length_cons, List.length_nil, Nat.reduceSub, Nat.reduceAdd, Array.replicate_succ, Array.replicate_zero, List.push_toArray, List.append_toArray, List.nil_append, List.cons_append]
   obtain ⟨Z, hZ⟩ : ∃ Z, W.alloc (.cells #[.func (.yield l) #[] #[]] 205) = Z := ⟨_, rfl⟩
   have hbZ : Below W.heap.size W Z := by rw [<- hZ]; exact below_one _ _
   have kz : Blk Z W.heap.size 205 #[.func (.yield l) #[] #[]] := by rw [<- hZ]; exact Blk.new W _ _
   have hbwZ : Below w.heap.size w Z := hW.trans (hbZ.mono hW.size)
   have z0 : Z.cell? ⟨B0, 0, none⟩ = some (.pointer (some ⟨β i, 0, none⟩)) := (Blk.on k0 hbwZ).cell 0
   have hso := sorted_wide Z t S T β (hT.below hbwZ) hnn i x hx (n - 1)
   have hnlb := names_len hT hnn hx
   obtain ⟨nl, hnl⟩ : ∃ nl, x.names.length = nl := ⟨_, rfl⟩
   rw [hnl] at hso hnlb
   gi_wp2_with ((try refine ⟨hdd _, ?_⟩); gi_at_call 102; refine hso.mono ?_; rintro e Z1 ⟨v, rfl, hrow, hb1⟩; obtain ⟨RA, rc, rfl, _, _, hrd⟩ := own_slice hrow)
   have hb1w : Below w.heap.size w Z1 := hbwZ.trans (hb1.mono hbwZ.size)
   have hT1 := hT.below hb1w
   have k01 := Blk.on k0 hb1w
   have k11 := Blk.on k1 hb1w
   have kz1 := Blk.on kz hb1
   have hJ1 : J [] Z1 := hJ [] W Z1 none hJ0 (only_of_below (hbZ.trans (hb1.mono hbZ.size)) none) (fun r e => by cases e)
   have hWZ1 : W.heap.size <= Z1.heap.size := Nat.le_trans hbZ.size hb1.size
   clear hso z0 hb1 hbZ hbwZ hb1w kz k0 k1 hT hW hJ0 hZ
   refine wpIn_loop (fun a wr => ∃ u5 u6 u7 u8 u13 u14 u15 u16 u17 u18 u19 u20 u21 u22 u23 u24 u25 u26 u27 u28 u29 u30 u31 u32 u33 u34 u35 u36 u37 u38 u39 u40 u41 u42 u43 : Value, ∃ (r : Nat) (Ds : List Nat), a = ⟨#[.func (.yield l) #[] #[], .pointer (some ⟨B0, 0, none⟩), .pointer (some ⟨B1, 0, none⟩), .pointer (some ⟨W.heap.size, 0, none⟩), undef, u5, u6, u7, u8, .pointer (some ⟨β i, 0, none⟩), .slice RA nl rc, .int .i64 (nl : Int), .int .i64 (r : Int), u13, u14, u15, u16, u17, u18, u19, u20, u21, u22, u23, u24, u25, u26, u27, u28, u29, u30, u31, u32, u33, u34, u35, u36, u37, u38, u39, u40, u41, u42, u43], Ds.map markD⟩ /\ r <= nl /\ J (upTo T k p x r) wr /\ Stay 163 172 Z1.heap.size Z1 wr /\ Marks Z1.heap.size Ds wr) (fun a _ => nl - (intOf (a.tmps.getD 12 undef)).toNat) ⟨_, _, _, _, _, _, _, _, _, _, _, _, _, _, _, _, _, _, _, _, _, _, _, _, _, _, _, _, _, _, _, _, _, _, _, 0, [], rfl, Nat.zero_le _, hJ1, Stay.refl _, List.nodup_nil, fun D h => by cases h⟩ ?_
   rintro _ wr ⟨u5, u6, u7, u8, u13, u14, u15, u16, u17, u18, u19, u20, u21, u22, u23, u24, u25, u26, u27, u28, u29, u30, u31, u32, u33, u34, u35, u36, u37, u38, u39, u40, u41, u42, u43, r, Ds, rfl, hr, hJr, hst, hM⟩
   have tTree : 169 ≠ 163 /\ 169 ≠ 172 := by decide
   have tItem : 179 ≠ 163 /\ 179 ≠ 172 := by decide
   have tByte : 5 ≠ 163 /\ 5 ≠ 172 := by decide
   have hTr := hT1.stay hst tTree tItem tByte
   have b0 := hst.blk k01 (by decide) (by decide)
   have b1 := hst.blk k11 (by decide) (by decide)
   have bz := hst.blk kz1 (by decide) (by decide)
   have hrowr := hst.ownsRow (by decide) (by decide) hrow
   dsimp only
   by_cases hlt : r < nl
   · obtain ⟨_, _, e, _, _, hrdr⟩ := own_slice hrowr
     cases e
     obtain ⟨ad, u, rfl, hadl, hu, hcell⟩ := hrdr.at_ hlt
     obtain ⟨q, hq⟩ : ∃ q, x.names[r]? = some q := ⟨_, List.getElem?_eq_getElem (by omega)⟩
     have hue : u = .string ⟨q.1.toArray⟩ := by
      unfold namesRow at hu
      rw [List.getElem?_map, hq] at hu
      exact (Option.some.inj hu).symm
     subst hue
     have hxl := Abs.lk_of_mem (j := q.2) (hTr.wf.sorted _ _ hx) (List.mem_of_getElem? hq)
     have hxd : x.dir = true := by
      cases hd : x.dir with
      | true => rfl
      | false => have := hTr.wf.file _ _ hx hd; rw [this] at hq; cases hq
     obtain ⟨y, hy, by0, _, _, _, hyd, _, hdir, _, _⟩ := hTr.at_ hx
     obtain ⟨hnf, _⟩ := hdir hxd
     have hydt := hyd.trans hxd
     have c5 : wr.cell? ⟨β i, 5, none⟩ = some (.map (some y.nb)) := by rw [by0.cell 5]; simp [itemCells, hydt]
     have hnm := hf.named _ _ _ _ hx hxl
     have hn32 : q.1.length <= 32 := named_size (x := ⟨q.1.toArray⟩) (by exact hnm)
     have hlk := MapOf.look1 ((hTr.mem.item _ _ hy).2.2 hydt).1 (string_keyed Tryz.underlying9) Tryz.underlying177 (show (zeroValue 166).run Tryz.prog wr = .ok (.pointer none) wr from by kernel_rfl) (key := .string ⟨q.1.toArray⟩) (kl := .string q.1) (keyOf_str ⟨q.1.toArray⟩ (by show q.1.toArray.size <= _; rw [List.size_toArray]; unfold maxLen; omega))
     rw [show namesF y.nf (.string q.1) = some (.pointer (some ⟨β q.2, 0, none⟩)) from by show (y.nf _).map ptrV = _; rw [hnf, hxl]; rfl, Option.getD_some] at hlk
     have g1 : wr.cell? ⟨B0, 0, none⟩ = some (.pointer (some ⟨β i, 0, none⟩)) := b0.cell 0
     have g2 : wr.cell? ⟨B1, 0, none⟩ = some (.string ⟨p.toArray⟩) := b1.cell 0
     have g3 : wr.cell? ⟨W.heap.size, 0, none⟩ = some (.func (.yield l) #[] #[]) := bz.cell 0
     have hr0 : (0 : Int) <= (r : Int) := by omega
     have hr1 : (r : Int) < (nl : Int) := by omega
     have hil := by0.lt
     obtain ⟨s0, hs0⟩ : ∃ s0 : ByteArray, s0 = ⟨(p ++ 47 :: q.1).toArray⟩ := ⟨_, rfl⟩
     have hstr : (⟨p.toArray⟩ : ByteArray) ++ ⟨#[47]⟩ ++ ⟨q.1.toArray⟩ = s0 := by
      rw [hs0]
      apply ByteArray.ext
      simp
     have hpre1 : upTo T k p x r ++ [(p ++ 47 :: q.1, q.2)] <+: T.walkN (k + 1) i p := by
      refine List.IsPrefix.trans ?_ (upTo_prefix hx (r + 1))
      rw [upTo_succ hq]
      exact List.prefix_append _ _
     obtain ⟨fn0, tm0, as0, bd0, hy0, hR0⟩ := hY (upTo T k p x r) (p ++ 47 :: q.1, q.2) wr (n - 1) hpre1 hJr
     simp only [encW] at hy0
     rw [<- hs0, <- hstr] at hy0
     have HST := Lib.hid hstr
     have HQ := Lib.hid hq
     clear hstr
     gi_wp2_with (first
      | ((try refine ⟨hdd _, ?_⟩); refine hR0.mono ?_; clear hR0; rintro e W2 ⟨rfl, hJ2, hst2⟩
         have g22 : W2.cell? ⟨B1, 0, none⟩ = some (.string ⟨p.toArray⟩) := (hst2.blk b1 (by decide) (by decide)).cell 0)
      | ((try refine ⟨hdd _, ?_⟩); gi_at_call 65; refine (callsIn_wide.2 (walk_any W2 (β q.2) _)).mono ?_; rintro e W3 ⟨rfl, hW3⟩))
     have hs12 : Stay 163 172 Z1.heap.size Z1 W2 := hst.trans (hst2.more hWZ1)
     have hbx : Below W2.heap.size W2 W3 := by rw [hW3]; exact below_box (below_one W2 _) (Nat.le_refl _) _
     have hs13 : Stay 163 172 Z1.heap.size Z1 W3 := hs12.trans (Stay.of_below hbx (Nat.le_refl _))
     have hM3 : Marks Z1.heap.size Ds W3 := (hM.stay hst2).stay (Stay.of_below hbx (Nat.le_refl _) (B := 0) (tb := 0) (tr := 0))
     have hDs : ∀ E ∈ Ds, E < W3.heap.size := fun E hE => (Array.getElem?_eq_some_iff.1 (hM3.2 E hE).2).1
     have hJ3 : J (upTo T k p x r ++ [(p ++ 47 :: q.1, q.2)]) W3 := hJ _ W2 W3 none hJ2 (only_of_below hbx none) (fun r e => by cases e)
     have hT3 := hT1.stay hs13 tTree tItem tByte
     have hWZ3 : Z1.heap.size <= W3.heap.size := hs13.size
     obtain ⟨hq1, x2, hx2⟩ := hTr.wf.live _ _ _ _ hx hxl
     have hb0' : Blk W3 W2.heap.size 166 #[.pointer (some ⟨β q.2, 0, none⟩)] := by rw [hW3]; exact (Blk.new W2 _ _).alloc _
     have hb1' : Blk W3 (W2.heap.size + 1) 9 #[.string ⟨(p ++ 47 :: q.1).toArray⟩] := by
      rw [hW3, HST.out, hs0]
      have := Blk.new (W2.alloc (.cells #[.pointer (some ⟨β q.2, 0, none⟩)] 166)) 9 #[.string ⟨(p ++ 47 :: q.1).toArray⟩]
      rwa [World.size_alloc] at this
     have hki := hk hxd
     have hdi : dp i <= 10 := by
      by_cases e1 : i = 1
      · rw [e1, hd1]; omega
      · exact (hdp i x hx hxd e1).2
     have hseq := ih q.2 x2 (p ++ 47 :: q.1) W3 W2.heap.size (W2.heap.size + 1) hT3 hx2 (fun hd2 => by
      have h2 := (hdp _ _ hx2 hd2 hq1).1
      rw [hf.kids _ _ _ _ _ hx hxl hx2 hd2] at h2
      omega) (by omega) (by rw [List.length_append, List.length_cons]; omega) hb0' hb1' (n - 1)
     have HJ := Lib.hid hJ
     have HY := Lib.hid hY
     clear hJ hY ih hlk hq hcell hrdr hrowr
     rw [<- hW3]
     refine wpIn_rangeFunc_deep (tb := 163) (tr := 172) rfl rfl (gf := 101) (lb := #[.pointer (some ⟨W2.heap.size, 0, none⟩), .pointer (some ⟨W2.heap.size + 1, 0, none⟩)]) rfl trivial (enters_of Tryz.func101 (by kernel_rfl) rfl)
      hseq (Below.refl _ _) (fun _ => rfl)
      (fun pre Wc => J (upTo T k p x r ++ [(p ++ 47 :: q.1, q.2)] ++ pre) Wc /\ Stay 163 172 Z1.heap.size Z1 Wc /\ Marks Z1.heap.size Ds Wc) ?own ⟨by rw [List.append_nil]; exact hJ3, hs13, hM3⟩
      (fun z => ⟨#[.func (.yield l) #[] #[], .pointer (some ⟨B0, 0, none⟩), .pointer (some ⟨B1, 0, none⟩), .pointer (some ⟨W.heap.size, 0, none⟩), undef, .string ⟨q.1.toArray⟩, .pointer (some ⟨β q.2, 0, none⟩), .string ⟨z.1.toArray⟩, .pointer (some ⟨β z.2, 0, none⟩), .pointer (some ⟨β i, 0, none⟩), .slice (some ad) nl rc, .int .i64 (nl : Int), .int .i64 (r : Int), .bool true, .pointer (some (ad.add r)), .string ⟨q.1.toArray⟩, .pointer (some ⟨β i, 0, none⟩), .pointer (some ⟨β i, 0, none⟩), .pointer (some ⟨β i, 5, none⟩), .map (some y.nb), .string ⟨q.1.toArray⟩, .pointer (some ⟨β q.2, 0, none⟩), .func (.yield l) #[] #[], .string ⟨p.toArray⟩, .string (⟨p.toArray⟩ ++ ⟨#[47]⟩), .string ⟨q.1.toArray⟩, .string (⟨p.toArray⟩ ++ ⟨#[47]⟩ ++ ⟨q.1.toArray⟩), .pointer (some ⟨β q.2, 0, none⟩), .bool true, .bool false, .pointer (some ⟨β q.2, 0, none⟩), .string ⟨p.toArray⟩, .string (⟨p.toArray⟩ ++ ⟨#[47]⟩), .string ⟨q.1.toArray⟩, .string (⟨p.toArray⟩ ++ ⟨#[47]⟩ ++ ⟨q.1.toArray⟩), .func (.func 101) #[] #[.pointer (some ⟨W2.heap.size, 0, none⟩), .pointer (some ⟨W2.heap.size + 1, 0, none⟩)], .string ⟨z.1.toArray⟩, .pointer (some ⟨β z.2, 0, none⟩), u38, u39, u40, u41, u42, u43], []⟩) ?assign ?body ?done
     case own =>
      rintro s X Y row ⟨h1, h2, h3⟩ hg hr
      refine ⟨HJ.out _ X Y row h1 hg fun r e => ⟨Nat.le_trans (Nat.le_trans hWZ1 hWZ3) (hr r e).1, (hr r e).2⟩, h2.far hg fun r e => Nat.le_trans hWZ3 (hr r e).1, h3.1, fun E hE => ⟨(h3.2 E hE).1, ?_⟩⟩
      refine (hg.block E (Array.getElem?_eq_some_iff.1 (h3.2 E hE).2).1 fun e => ?_).trans (h3.2 E hE).2
      have := hDs E hE
      have := (hr E e.symm).1
      omega
     case assign =>
      intro l2 z Wc K hK
      simp only [encW]
      gi_wp2
      exact hK
     case body =>
      rintro l2 pre z Wc hl2 hpre ⟨hJc, hsc, hMc⟩
      have g3c : Wc.cell? ⟨W.heap.size, 0, none⟩ = some (.func (.yield l) #[] #[]) := (hsc.blk kz1 (by decide) (by decide)).cell 0
      have hpre2 : upTo T k p x r ++ [(p ++ 47 :: q.1, q.2)] ++ pre ++ [z] <+: T.walkN (k + 1) i p := by
       refine List.IsPrefix.trans ?_ (upTo_prefix hx (r + 1))
       rw [upTo_succ HQ.out, List.append_assoc]
       exact (List.prefix_append_right_inj _).2 hpre
      obtain ⟨fn2, tm2, as2, bd2, hy2, hR2⟩ := HY.out _ z Wc (n - 1 - 1 - 1) hpre2 hJc
      simp only [encW] at hy2
      gi_wp2_with ((try refine ⟨hdd _, ?_⟩); refine RoundIn.mono (show RoundIn (Fence.wide.inRound l2) _ _ _ _ _ _ _ _ _ from hR2) ?_; clear hR2; rintro e W5 ⟨rfl, hJ5, hst5⟩)
      exact ⟨hst5.more (Nat.le_trans hWZ1 hWZ3), by rw [<- List.append_assoc]; exact hJ5, hsc.trans (hst5.more hWZ1), hMc.stay hst5⟩
     case done =>
      rintro D W4 hD ⟨hJ4, hs4, hM4⟩ hK
      gi_wp2
      refine ⟨⟨_, _, _, _, _, _, _, _, _, _, _, _, _, _, _, _, _, _, _, _, _, _, _, _, _, _, _, _, _, _, _, _, _, _, _, r + 1, D :: Ds, rfl, by omega, ?_, hs4, hM4.more (fun _ _ => rfl) (Nat.le_trans hWZ3 hD) (fun E hE => Nat.lt_of_lt_of_le (hDs E hE) hD) hK⟩, ?_⟩
      · rw [upTo_succ HQ.out]; exact hJ4
      · simp [intOf]; omega
   · obtain rfl : r = nl := by omega
     have hall : upTo T k p x r = T.walkN (k + 1) i p := upTo_all hx (by omega)
     rw [hall] at hJr
     have HJ := Lib.hid hJ
     clear hJ hY ih
     gi_wp2
     refine leaves_marks (fun w => J (T.walkN (k + 1) i p) w) Z1.heap.size (fun w D hB hD hw => HJ.out _ w _ (some D) hw (grownBy_putObj' w D _) (fun q e => by cases e; exact ⟨Nat.le_trans hWZ1 hB, _, hD, rfl⟩)) (fun w hw => ?_) Ds wr hM hJr
     exact ⟨_, results_none rfl _ _ _, ⟨_, rfl⟩, hw⟩
end
end Go.Proofs.YtffffjngodinnaaGreatDoor
