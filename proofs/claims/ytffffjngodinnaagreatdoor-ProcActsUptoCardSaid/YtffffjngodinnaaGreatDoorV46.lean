/-
  Parts of the proof.
-/
import Derived.Test.YtffffjngodinnaaGreatDoorV35
import Derived.Test.YtffffjngodinnaaGreatDoorV15
import Derived.Test.YtffffjngodinnaaGreatDoorV34
namespace Go.Proofs.YtffffjngodinnaaGreatDoor
section
set_option maxRecDepth 100000
open Go.RowKit Go.Maps Go.Shelf
theorem Tryz.infoThingP : (Tryz.prog.info? 120).map (fun i => (i.zero, i.size, i.bytes)) = some (some (.pointer none), 1, 8) := by kernel_rfl
theorem Tryz.infoTabP : (Tryz.prog.info? 58).map (fun i => (i.zero, i.size, i.bytes)) = some (some (.pointer none), 1, 8) := by kernel_rfl
def thingC (kind : Int) (v : Value) : Array Value := #[.int .i64 kind, v, .int .i64 0, .int .i64 0, .int .i64 0, .bool false]
def tabC (k : Nat) (a b c : Int) : Array Value := #[.pointer (some ⟨k, 0, none⟩), .int .i64 a, .int .i64 b, .int .i64 c, .int .i64 0, .int .i64 0, .int .i64 0, .int .i64 0, .int .i64 0, .int .i64 0, .int .i64 0, .int .i64 0, .int .i64 0, .int .i64 0, .int .i64 0, .int .i64 0, .int .i64 0]
structure RKern (w : World) (M k tp : Nat) (qs xs : List Nat) (fl : List (Int × Int)) (used : Nat) (now : Int) : Prop where
 mem : ∃ lv tv fv, Blk w k 71 #[.pointer (some ⟨tp, 0, none⟩), lv, tv, fv, .int .i64 (used : Int), .int .i64 now] /\ w.ownsRow M 120 1 lv xs.length (ptrsC xs) /\ w.ownsRow M 58 1 tv qs.length (ptrsC qs) /\ w.ownsRow M 44 2 fv fl.length (faultV fl)
 low : M <= k
def RThing (w : World) (M x : Nat) (kind : Int) (l : List UInt8) : Prop := ∃ v, Blk w x 123 (thingC kind v) /\ OffRow w M 5 v l.length (bytesC l)
def Keeps (w w' : World) : Prop := ∀ g ty cs, Blk w g ty cs -> ty ≠ 71 -> ty ≠ 120 -> ty ≠ 58 -> Blk w' g ty cs
theorem Keeps.of_below {w w' : World} (h : Below w.heap.size w w') : Keeps w w' := fun _ _ _ hb _ _ _ => Blk.on hb h
theorem Keeps.trans {w w' w'' : World} (h : Keeps w w') (h' : Keeps w' w'') : Keeps w w'' := fun g ty cs hb h1 h2 h3 => h' g ty cs (h g ty cs hb h1 h2 h3) h1 h2 h3
theorem RThing.keeps {w w' : World} {M x : Nat} {kind : Int} {l : List UInt8} (h : RThing w M x kind l) (hk : Keeps w w') : RThing w' M x kind l := by
 obtain ⟨v, h1, h2⟩ := h
 refine ⟨v, hk _ _ _ h1 (by decide) (by decide) (by decide), h2.same fun g hg => ?_⟩
 rcases h2.2 with ⟨rfl, _⟩ | ⟨g', off, cap, cur, rfl, _, hb, _⟩
 · simp [Value.ownBlock] at hg
 · obtain rfl : g' = g := by simpa [Value.ownBlock] using hg
   exact (hk g' _ cur hb (by decide) (by decide) (by decide)).trans (show w.heap[g']? = _ from hb).symm
theorem RKern.below {w w' : World} {M k tp : Nat} {qs xs : List Nat} {fl : List (Int × Int)} {used : Nat} {now : Int} (h : RKern w M k tp qs xs fl used now) (hb : Below w.heap.size w w') : RKern w' M k tp qs xs fl used now := by
 obtain ⟨lv, tv, fv, h1, h2, h3, h4⟩ := h.mem
 exact ⟨⟨lv, tv, fv, Blk.on h1 hb, own_on h2 hb, own_on h3 hb, own_on h4 hb⟩, h.low⟩
set_option maxHeartbeats 1000000 in
theorem refKernNew (w : World) (tp : Nat) (FA : Option Addr) (fc fn : Nat) (fl : List (Int × Int)) (hfn : fl.length = fn) (hfr : Reads w w.heap.size 2 FA fn (faultV fl)) (hl : fn <= 1048576) (now : Int) :
 Calls Tryz.prog 16 #[.pointer (some ⟨tp, 0, none⟩), .slice FA fn fc, .int .i64 now] w fun e w' => ∃ k, e = .returned (.pointer (some ⟨k, 0, none⟩)) /\ RKern w' w.heap.size k tp [] [] fl 0 now /\ Below w.heap.size w w' := by
 obtain ⟨iB, hiB, hB0, hB1, hB2⟩ := info_parts Tryz.infoFault
 have HI := Lib.hid hiB
 have H0 := Lib.hid hB0
 have H1 := Lib.hid hB1
 have H2 := Lib.hid hB2
 have HR := Lib.hid hfr
 have HN := Lib.hid hfn
 clear hiB hB0 hB1 hB2 hfr hfn
 go_enter Tryz.func16, Tryz.ntmps16
 go_wp2_with (at_builtin; refine wpList_append_any _ rfl _ _ 27 rfl w.heap.size 44 iB (.agg #[.int .i64 0, .int .i64 0]) 2 16 Tryz.underlying27 HI.out H0.out H1.out H2.out rfl (by decide) (.slice none 0 0) 0 [] rfl ⟨rfl, .inl ⟨rfl, rfl⟩⟩ w.heap.size FA fn fc (faultV fl) rfl HR.out (faultV_oneCell fl) (by simp only [maxLen]; omega) (by omega) (by simp) ?_; intro v2 w2 hown2 hg2 hat2; obtain ⟨A2, c2, rfl, hc1, hc2, hrd⟩ := own_slice hown2)
 go_returns
 have hb2 : Below w.heap.size w w2 := (Below.refl _ w).grown hg2 (by simp) (fun k hk => by simp [Value.ownBlock] at hk)
 refine ⟨_, rfl, ⟨⟨_, _, _, Blk.new w2 _ _, World.ownsRow_nil _ _ _ _, World.ownsRow_nil _ _ _ _, ?_⟩, hb2.size⟩, hb2.alloc hb2.size _⟩
 rw [HN.out]
 simpa using hown2.alloc (.cells #[.pointer (some ⟨tp, 0, none⟩), .slice none 0 0, .slice none 0 0, .slice A2 (0 + fn) c2, .int .i64 0, .int .i64 now] 71)
set_option maxHeartbeats 1000000 in
theorem refTable (w : World) (M k tp : Nat) (xs : List Nat) (fl : List (Int × Int)) (used : Nat) (now : Int) (h : RKern w M k tp [] xs fl used now) (hM : M <= w.heap.size) :
 Calls Tryz.prog 17 #[.pointer (some ⟨k, 0, none⟩)] w fun e w' => ∃ q, e = .returned (.pointer (some ⟨q, 0, none⟩)) /\ RKern w' M k tp [q] xs fl used now /\ Blk w' q 118 (tabC k 0 0 0) /\ M <= q /\ Below M w w' := by
 obtain ⟨lv, tv, fv, hb, h1, h2, h3⟩ := h.mem
 have hlow := h.low
 have hlt := hb.lt
 have e2 : w.cell? ⟨k, 2, none⟩ = some tv := hb.cell 2
 have f2 : w.frozen? ⟨k, 2, none⟩ = false := hb.frozen 2
 obtain ⟨iB, hiB, hB0, hB1, hB2⟩ := info_parts Tryz.infoTabP
 have HI := Lib.hid hiB
 have H0 := Lib.hid hB0
 have H1 := Lib.hid hB1
 have H2 := Lib.hid hB2
 obtain ⟨A, c, rfl, _⟩ := own_slice h2
 obtain ⟨T, hT⟩ : ∃ T : Obj, .cells (tabC k 0 0 0) 118 = T := ⟨_, rfl⟩
 have hT' : Obj.cells #[.pointer (some ⟨k, 0, none⟩), .int .i64 0, .int .i64 0, .int .i64 0, .int .i64 0, .int .i64 0, .int .i64 0, .int .i64 0, .int .i64 0, .int .i64 0, .int .i64 0, .int .i64 0, .int .i64 0, .int .i64 0, .int .i64 0, .int .i64 0, .int .i64 0] 118 = T := hT
 have HB := Lib.hid (And.intro hb (And.intro h1 (And.intro h2 h3)))
 have HT := Lib.hid hT
 clear hiB hB0 hB1 hB2 hb h1 h2 h3 h hT
 go_enter Tryz.func17, Tryz.ntmps17
 go_upto_region 2 with fail
 obtain ⟨V, hV⟩ : ∃ V, w.alloc T = V := ⟨_, rfl⟩
 obtain ⟨q, hq⟩ : ∃ q, w.heap.size = q := ⟨_, rfl⟩
 rw [hV, hq]
 have bV : Below w.heap.size w V := by rw [<- hV]; exact below_one w T
 have bq : Blk V q 118 (tabC k 0 0 0) := by rw [<- hV, <- hq, <- HT.out]; exact Blk.new w _ _
 have e2 : V.cell? ⟨k, 2, none⟩ = some (.slice A 0 c) := (Blk.on HB.out.1 bV).cell 2
 have f2 : V.frozen? ⟨k, 2, none⟩ = false := (Blk.on HB.out.1 bV).frozen 2
 have hlt := (Blk.on HB.out.1 bV).lt
 have hown := Lib.hid (own_on HB.out.2.2.1 bV)
 have hne : (Value.slice A 0 c).ownBlock ≠ some k := own_ne HB.out.2.2.1 HB.out.1 (by decide)
 have hMV : M <= V.heap.size := Nat.le_trans hM bV.size
 have HBV := Lib.hid bV
 have BQ := Lib.hid bq
 clear hV bV bq
 go_wp2_with (at_builtin; refine wpList_append_any _ rfl _ _ 69 rfl M 58 iB (.pointer none) 1 8 Tryz.underlying69 HI.out H0.out H1.out H2.out rfl (by decide) (.slice A 0 c) 0 (ptrsC []) rfl (hown.out.alloc _) (V.heap.size + 1) (some ⟨V.heap.size, 0, none⟩) 1 1 [.pointer (some ⟨q, 0, none⟩)] rfl (row_one V 58 _) (by intro u hu; rw [List.mem_singleton.1 hu]; rfl) (by simp only [maxLen]; omega) (by omega) (by simp; omega) ?_; intro v2 w2 hown2 hg2 hat2; obtain ⟨A2, c2, rfl, _, _, _⟩ := own_slice hown2; have b2 := ((Blk.on HB.out.1 HBV.out).alloc (.cells #[.pointer (some ⟨q, 0, none⟩)] 58)).grown hg2 (fun e => hne e.symm); have q2 := b2.cell 2; have g2 := b2.frozen 2; have l2 := b2.lt)
 go_returns
 have t0 : Turns ((Value.slice A 0 c).ownBlock.toList) V w2 := ((Turns.refl _ V).alloc _).grown hg2 (fun g hg _ => by rw [hg]; simp)
 have kp : ∀ {g : Nat} {ty : TypeId} {cs : Array Value}, Blk V g ty cs -> ty ≠ 58 -> Blk w2 g ty cs := fun hb hne2 => (t0.block _ hb.lt (fun hm => by
  have := own_ne (w := V) hown.out hb (fun e => hne2 e.symm)
  simp only [Option.mem_toList] at hm
  exact this hm)).trans hb
 have hq2 := kp BQ.out (by decide)
 have hkq : k ≠ q := by rw [<- hq]; exact Nat.ne_of_lt HB.out.1.lt
 refine ⟨q, rfl, ⟨⟨_, _, _, b2.set_ 2 _, ?_, ?_, ?_⟩, hlow⟩, hq2.far (fun e => hkq e.symm) _, by rw [<- hq]; exact hM, ?_⟩
 · refine ownsRow_setCell_other (ownsRow_same (own_on HB.out.2.1 HBV.out) fun g hg => ?_) (own_ne (own_on HB.out.2.1 HBV.out) (Blk.on HB.out.1 HBV.out) (by decide)) _
   refine t0.block g ((own_on HB.out.2.1 HBV.out).lt g hg).2 fun hm => ?_
   simp only [Option.mem_toList] at hm
   exact own_apart (own_on HB.out.2.1 HBV.out) hown.out (by decide) g hm hg
 · exact ownsRow_setCell_other hown2 (own_blk_ne hown2 b2 (by decide)) _
 · refine ownsRow_setCell_other (ownsRow_same (own_on HB.out.2.2.2 HBV.out) fun g hg => ?_) (own_ne (own_on HB.out.2.2.2 HBV.out) (Blk.on HB.out.1 HBV.out) (by decide)) _
   refine t0.block g ((own_on HB.out.2.2.2 HBV.out).lt g hg).2 fun hm => ?_
   simp only [Option.mem_toList] at hm
   exact own_apart (own_on HB.out.2.2.2 HBV.out) hown.out (by decide) g hm hg
 · refine (HBV.out.mono hM).trans ((t0.below hMV fun g hg => ?_).setCell (p := ⟨k, 2, none⟩) hlow _)
   simp only [Option.mem_toList] at hg
   exact (hown.out.lt g hg).1
set_option maxHeartbeats 1000000 in
theorem refThing (w : World) (M k tp : Nat) (qs xs : List Nat) (fl : List (Int × Int)) (used : Nat) (now : Int) (h : RKern w M k tp qs xs fl used now) (hx : xs.length <= 1048576) (i x : Nat) (hi : xs[i]? = some x) :
 Calls Tryz.prog 49 #[.pointer (some ⟨k, 0, none⟩), .int .i64 ((i : Int) + 1)] w fun e w' => e = .returned (.pointer (some ⟨x, 0, none⟩)) /\ w' = w := by
 obtain ⟨lv, tv, fv, hb, h1, _, _⟩ := h.mem
 obtain ⟨A, c, rfl, _, _, hr⟩ := own_slice h1
 obtain ⟨n, hn⟩ : ∃ n, xs.length = n := ⟨_, rfl⟩
 have hil := (List.getElem?_eq_some_iff.1 hi).1
 rw [hn] at hb hr hx hil
 have e1 : w.cell? ⟨k, 1, none⟩ = some (.slice A n c) := hb.cell 1
 have hlt := hb.lt
 obtain ⟨gb, off, hA, hgb, hc⟩ := reads_flat hr (by intro e; have := hr.1; rw [e] at this; simp at this; omega)
 have c0 : w.cell? ⟨gb, off + i, none⟩ = some (.pointer (some ⟨x, 0, none⟩)) := hc _ _ (by simp [ptrsC, hi])
 subst hA
 have hi1 : ((i : Int) + 1 < 1) = False := by simp; omega
 have hi2 : ((n : Int) < (i : Int) + 1) = False := by simp; omega
 have hi3 : (0 : Int) <= (i : Int) := by omega
 have hi4 : (i : Int) < (n : Int) := by omega
 clear h h1 hb hr hc hi hn
 go_enter Tryz.func49, Tryz.ntmps49
 go_wp2_with fail
 go_returns
 exact ⟨rfl, rfl⟩
set_option maxHeartbeats 1000000 in
theorem refThing0 (w : World) (k : Nat) : Calls Tryz.prog 49 #[.pointer (some ⟨k, 0, none⟩), .int .i64 0] w fun e w' => e = .returned (.pointer none) /\ w' = w := by
 go_enter Tryz.func49, Tryz.ntmps49
 go_wp2_with fail
 go_returns
 exact ⟨rfl, rfl⟩
set_option maxHeartbeats 1000000 in
theorem refAdds (w : World) (M k tp : Nat) (qs xs : List Nat) (fl : List (Int × Int)) (used : Nat) (now : Int) (h : RKern w M k tp qs xs fl used now) (hM : M <= w.heap.size) (hx : xs.length <= 1048576) (x : Nat) :
 Calls Tryz.prog 51 #[.pointer (some ⟨k, 0, none⟩), .pointer (some ⟨x, 0, none⟩)] w fun e w' => e = .returned (.int .i64 ((xs.length : Int) + 1)) /\ RKern w' M k tp qs (xs ++ [x]) fl used now /\ Keeps w w' /\ Below M w w' := by
 obtain ⟨lv, tv, fv, hb, h1, h2, h3⟩ := h.mem
 have hlow := h.low
 have hlt := hb.lt
 have e1 : w.cell? ⟨k, 1, none⟩ = some lv := hb.cell 1
 have f1 : w.frozen? ⟨k, 1, none⟩ = false := hb.frozen 1
 obtain ⟨iB, hiB, hB0, hB1, hB2⟩ := info_parts Tryz.infoThingP
 have HI := Lib.hid hiB
 have H0 := Lib.hid hB0
 have H1 := Lib.hid hB1
 have H2 := Lib.hid hB2
 obtain ⟨A, c, rfl, _⟩ := own_slice h1
 obtain ⟨n, hn⟩ : ∃ n, xs.length = n := ⟨_, rfl⟩
 rw [hn] at e1 hb h1 hx ⊢
 have HB := Lib.hid (And.intro hb (And.intro h1 (And.intro h2 h3)))
 have HN := Lib.hid hn
 have hne : (Value.slice A n c).ownBlock ≠ some k := own_ne h1 hb (by decide)
 clear hiB hB0 hB1 hB2 hb h1 h2 h3 h hn
 go_enter Tryz.func51, Tryz.ntmps51
 go_wp2_with (at_builtin; refine wpList_append_any _ rfl _ _ 68 rfl M 120 iB (.pointer none) 1 8 Tryz.underlying68 HI.out H0.out H1.out H2.out rfl (by decide) (.slice A n c) n (ptrsC xs) rfl (HB.out.2.1.alloc _) (w.heap.size + 1) (some ⟨w.heap.size, 0, none⟩) 1 1 [.pointer (some ⟨x, 0, none⟩)] rfl (row_one w 120 _) (by intro u hu; rw [List.mem_singleton.1 hu]; rfl) (by simp only [maxLen]; omega) (by omega) (by simp; omega) ?_; intro v2 w2 hown2 hg2 hat2; obtain ⟨A2, c2, rfl, _, _, _⟩ := own_slice hown2; have b2 := (HB.out.1.alloc (.cells #[.pointer (some ⟨x, 0, none⟩)] 120)).grown hg2 (fun e => hne e.symm); have q2 := b2.cell 1; have g2 := b2.frozen 1; have l2 := b2.lt)
 go_returns
 have t0 : Turns ((Value.slice A n c).ownBlock.toList) w w2 := ((Turns.refl _ w).alloc _).grown hg2 (fun g hg _ => by rw [hg]; simp)
 have kp : ∀ {g : Nat} {ty : TypeId} {cs : Array Value}, Blk w g ty cs -> ty ≠ 120 -> Blk w2 g ty cs := fun hb hne2 => (t0.block _ hb.lt (fun hm => by
  have := own_ne (w := w) HB.out.2.1 hb (fun e => hne2 e.symm)
  simp only [Option.mem_toList] at hm
  exact this hm)).trans hb
 refine ⟨rfl, ⟨⟨_, _, _, b2.set_ 1 _, ?_, ?_, ?_⟩, hlow⟩, ?_, ?_⟩
 · rw [List.length_append, List.length_singleton, HN.out, show ptrsC (xs ++ [x]) = ptrsC xs ++ [.pointer (some ⟨x, 0, none⟩)] by simp [ptrsC]]
   exact ownsRow_setCell_other hown2 (own_blk_ne hown2 b2 (by decide)) _
 · refine ownsRow_setCell_other (ownsRow_same HB.out.2.2.1 fun g hg => ?_) (own_ne HB.out.2.2.1 HB.out.1 (by decide)) _
   refine t0.block g (HB.out.2.2.1.lt g hg).2 fun hm => ?_
   simp only [Option.mem_toList] at hm
   exact own_apart HB.out.2.2.1 HB.out.2.1 (by decide) g hm hg
 · refine ownsRow_setCell_other (ownsRow_same HB.out.2.2.2 fun g hg => ?_) (own_ne HB.out.2.2.2 HB.out.1 (by decide)) _
   refine t0.block g (HB.out.2.2.2.lt g hg).2 fun hm => ?_
   simp only [Option.mem_toList] at hm
   exact own_apart HB.out.2.2.2 HB.out.2.1 (by decide) g hm hg
 · intro g ty cs hg h1 h2 h3
   exact (kp hg h2).far (p := ⟨k, 1, none⟩) (Blk.ne_ hg HB.out.1 h1) _
 · refine (t0.below hM fun g hg => ?_).setCell (p := ⟨k, 1, none⟩) hlow _
   simp only [Option.mem_toList] at hg
   exact (HB.out.2.1.lt g hg).1
set_option maxHeartbeats 1000000 in
theorem refSource (w : World) (M k tp : Nat) (qs xs : List Nat) (fl : List (Int × Int)) (used : Nat) (now : Int) (h : RKern w M k tp qs xs fl used now) (hM : M <= w.heap.size) (hx : xs.length <= 1048576) (A : Option Addr) (c n : Nat) (l : List UInt8) (hl : l.length = n) (hr : Reads w w.heap.size 1 A n (bytesC l)) (hn : n <= 1048576) :
 Calls Tryz.prog 19 #[.pointer (some ⟨k, 0, none⟩), .slice A n c] w fun e w' => ∃ x, e = .returned (.int .i64 ((xs.length : Int) + 1)) /\ RKern w' M k tp qs (xs ++ [x]) fl used now /\ RThing w' M x 1 l /\ w.heap.size <= x /\ Keeps w w' /\ Below M w w' := by
 obtain ⟨iB, hiB, hB0, hB1, hB2⟩ := info_parts Tryz.infoByte
 have HI := Lib.hid hiB
 have H0 := Lib.hid hB0
 have H1 := Lib.hid hB1
 have H2 := Lib.hid hB2
 have HR := Lib.hid hr
 have HL := Lib.hid hl
 have HK := Lib.hid h
 clear hiB hB0 hB1 hB2 hr hl h
 go_enter Tryz.func19, Tryz.ntmps19
 go_wp2_with (first
  | (at_builtin; refine wpList_append_any _ rfl _ _ 23 rfl w.heap.size 5 iB (.int .u8 0) 1 1 Tryz.underlying23 HI.out H0.out H1.out H2.out rfl (by decide) (.slice none 0 0) 0 [] rfl (World.ownsRow_nil _ _ _ _) w.heap.size A n c (bytesC l) rfl HR.out (bytesC_oneCell l) (by simp only [maxLen]; omega) (by omega) (by simp) ?_; intro v2 w2 hown2 hg2 hat2
     simp only [Nat.zero_add, List.nil_append] at hown2
     obtain ⟨A2, c2, rfl, _⟩ := own_slice hown2
     have hb2 : Below w.heap.size w w2 := (Below.refl _ w).grown hg2 (by simp) (fun k hk => by simp [Value.ownBlock] at hk)
     have hb3 := hb2.alloc hb2.size (.cells #[.int .i64 1, .slice A2 n c2, .int .i64 0, .int .i64 0, .int .i64 0, .bool false] 123)
     have hM3 : M <= (w2.alloc (.cells #[.int .i64 1, .slice A2 n c2, .int .i64 0, .int .i64 0, .int .i64 0, .bool false] 123)).heap.size := Nat.le_trans hM hb3.size)
  | (go_at_call 51; refine (refAdds _ M k tp qs xs fl used now (HK.out.below hb3) hM3 hx w2.heap.size).mono ?_; rintro e4 w4 ⟨rfl, hK4, hkp4, hb4⟩))
 go_returns
 have ht : RThing (w2.alloc (.cells (thingC 1 (.slice A2 n c2)) 123)) M w2.heap.size 1 l := by
  refine ⟨_, Blk.new w2 _ _, OffRow.of_own ?_⟩
  rw [HL.out]
  have := Joins.ownsRow_le (hown2.alloc (.cells (thingC 1 (.slice A2 n c2)) 123)) hM
  simpa using this
 exact ⟨w2.heap.size, rfl, hK4, ht.keeps hkp4, hb2.size, (Keeps.of_below hb3).trans hkp4, (hb3.mono hM).trans hb4⟩
set_option maxHeartbeats 1000000 in
theorem refSink (w : World) (M k tp : Nat) (qs xs : List Nat) (fl : List (Int × Int)) (used : Nat) (now : Int) (h : RKern w M k tp qs xs fl used now) (hM : M <= w.heap.size) (hx : xs.length <= 1048576) :
 Calls Tryz.prog 20 #[.pointer (some ⟨k, 0, none⟩)] w fun e w' => ∃ x, e = .returned (.int .i64 ((xs.length : Int) + 1)) /\ RKern w' M k tp qs (xs ++ [x]) fl used now /\ RThing w' M x 2 [] /\ w.heap.size <= x /\ Keeps w w' /\ Below M w w' := by
 have hb3 : Below w.heap.size w (w.alloc (.cells (thingC 2 (.slice none 0 0)) 123)) := below_one w _
 have hM3 : M <= (w.alloc (.cells (thingC 2 (.slice none 0 0)) 123)).heap.size := Nat.le_trans hM hb3.size
 have HA := Lib.hid (refAdds _ M k tp qs xs fl used now (h.below hb3) hM3 hx w.heap.size)
 have HB3 := Lib.hid hb3
 clear h hb3 hM3
 go_enter Tryz.func20, Tryz.ntmps20
 go_wp2_with (go_at_call 51; refine HA.out.mono ?_; rintro e4 w4 ⟨rfl, hK4, hkp4, hb4⟩)
 go_returns
 have ht : RThing (w.alloc (.cells (thingC 2 (.slice none 0 0)) 123)) M w.heap.size 2 [] := ⟨_, Blk.new w _ _, OffRow.nil _ _ _⟩
 exact ⟨w.heap.size, rfl, hK4, ht.keeps hkp4, Nat.le_refl _, (Keeps.of_below HB3.out).trans hkp4, (HB3.out.mono hM).trans hb4⟩
set_option maxHeartbeats 2000000 in
theorem refHad (w : World) (M k tp q : Nat) (xs : List Nat) (fl : List (Int × Int)) (used : Nat) (now : Int) (h : RKern w M k tp [q] xs fl used now) (cs : Array Value) (hq : Blk w q 118 cs) (hz : ∀ j, j < 16 -> ∃ z : Int, cs[1 + j]? = some (.int .i64 z)) (n : Int) :
 Calls Tryz.prog 86 #[.pointer (some ⟨k, 0, none⟩), .int .i64 n] w fun e w' => (∃ b, e = .returned (.bool b)) /\ w' = w := by
 obtain ⟨lv, tv, fv, hb, _, h2, _⟩ := h.mem
 obtain ⟨A, c, rfl, _, _, hr⟩ := own_slice h2
 have e2 : w.cell? ⟨k, 2, none⟩ = some (.slice A 1 c) := hb.cell 2
 have hlt := hb.lt
 have lq := hq.lt
 obtain ⟨gb, off, hA, hgb, hc⟩ := reads_flat hr (by intro e; have := hr.1; rw [e] at this; simp at this)
 have c0 : w.cell? ⟨gb, off, none⟩ = some (.pointer (some ⟨q, 0, none⟩)) := hc 0 _ rfl
 subst hA
 have HQ := Lib.hid hq
 have HZ := Lib.hid hz
 clear h h2 hb hr hc hq hz
 go_enter Tryz.func86, Tryz.ntmps86
 go_wp2_with fail
 go_loopw [5] (fun iv wr => ∃ (i : Nat), i <= 1 /\ iv = .int .i64 (i : Int) /\ wr = w) (fun iv _ => 1 - (intOf iv).toNat)
 case atStart => exact ⟨0, Nat.zero_le _, rfl, rfl⟩
 case round =>
  obtain ⟨i, hi, rfl, rfl⟩ := hrel
  by_cases hlt1 : i < 1
  · obtain rfl : i = 0 := by omega
    go_wp2_with fail
    go_loopw [6] (fun jv W => ∃ (j : Nat), j <= 16 /\ jv = .int .i64 (j : Int) /\ W = wr) (fun jv _ => 16 - (intOf jv).toNat)
    case atStart => exact ⟨0, Nat.zero_le _, rfl, rfl⟩
    case round =>
     obtain ⟨j, hj, rfl, rfl⟩ := hrel
     by_cases hlt2 : j < 16
     · obtain ⟨z, hz⟩ := HZ.out j hlt2
       have cj : wr.cell? ⟨q, 1 + j, none⟩ = some (.int .i64 z) := (HQ.out.cell _).trans hz
       have hj0 : (0 : Int) <= (j : Int) := by omega
       have hj1 : (j : Int) < 16 := by omega
       clear hz
       by_cases he : z = n
       · have hbe : (z == n) = true := by simpa using he
         go_wp2_with fail
         go_returns
         exact ⟨⟨_, rfl⟩, rfl⟩
       · have hbe : (z == n) = false := by simpa using he
         go_wp2_with fail
         exact ⟨⟨j + 1, by omega, rfl, by trivial⟩, by simp only [intOf]; omega⟩
     · obtain rfl : j = 16 := by omega
       go_wp2_with fail
       exact ⟨⟨1, by omega, rfl, by trivial⟩, by simp only [intOf]; omega⟩
  · obtain rfl : i = 1 := by omega
    go_wp2_with fail
    go_returns
    exact ⟨⟨_, rfl⟩, rfl⟩
set_option maxHeartbeats 1000000 in
theorem refLeft0 (w : World) (M k tp q : Nat) (xs : List Nat) (fl : List (Int × Int)) (used : Nat) (now : Int) (h : RKern w M k tp [q] xs fl used now) (cs : Array Value) (hq : Blk w q 118 cs) (hz : ∀ j, j < 16 -> ∃ z : Int, cs[1 + j]? = some (.int .i64 z)) :
 Calls Tryz.prog 50 #[.pointer (some ⟨k, 0, none⟩), .int .i64 0] w fun e w' => e = .returned (.tuple #[]) /\ w' = w := by
 have H1 := Lib.hid (refHad w M k tp q xs fl used now h cs hq hz 0)
 clear h hq hz
 go_enter Tryz.func50, Tryz.ntmps50
 go_wp2_with (first
  | (go_at_call 49; refine (refThing0 w k).mono ?_; rintro e1 w1 ⟨rfl, h1⟩; obtain rfl : w = w1 := h1.symm)
  | (go_at_call 86; refine H1.out.mono ?_; rintro e2 w2 ⟨⟨b, rfl⟩, h2⟩; obtain rfl : w = w2 := h2.symm))
 go_returns
 exact ⟨rfl, rfl⟩
theorem refIs (fd : Nat) (hfd : fd < 16) (w : World) : Calls Tryz.prog 48 #[.int .i64 (fd : Int)] w fun e w' => e = .returned (.bool true) /\ w' = w := by
 have hf0 : (0 : Int) <= (fd : Int) := by omega
 have hf1 : (fd : Int) < 16 := by omega
 go_enter Tryz.func48, Tryz.ntmps48
 go_wp2_with fail
 go_returns
 exact ⟨rfl, rfl⟩
theorem RKern.far {w : World} {M k tp : Nat} {qs xs : List Nat} {fl : List (Int × Int)} {used : Nat} {now : Int} (h : RKern w M k tp qs xs fl used now) {q : Nat} {ty : TypeId} {cs : Array Value} (hq : Blk w q ty cs) (h1 : ty ≠ 71) (h2 : ty ≠ 120) (h3 : ty ≠ 58) (h4 : ty ≠ 44) (j : Nat) (u : Value) : RKern (w.setCell ⟨q, j, none⟩ u) M k tp qs xs fl used now := by
 obtain ⟨lv, tv, fv, a, b, c, d⟩ := h.mem
 exact ⟨⟨lv, tv, fv, a.far (p := ⟨q, j, none⟩) (Blk.ne_ a hq (fun e => h1 e.symm)) u, ownsRow_setCell_other b (own_ne b hq (fun e => h2 e.symm)) _, ownsRow_setCell_other c (own_ne c hq (fun e => h3 e.symm)) _, ownsRow_setCell_other d (own_ne d hq (fun e => h4 e.symm)) _⟩, h.low⟩
set_option maxHeartbeats 1000000 in
theorem refPut (w : World) (M k tp q : Nat) (xs : List Nat) (fl : List (Int × Int)) (used : Nat) (now : Int) (h : RKern w M k tp [q] xs fl used now) (hx : xs.length <= 1048576) (cs : Array Value) (hq : Blk w q 118 cs) (hk : cs[0]? = some (.pointer (some ⟨k, 0, none⟩))) (hsz : cs.size = 17) (hz : ∀ j, j < 16 -> ∃ z : Int, cs[1 + j]? = some (.int .i64 z)) (fd : Nat) (hfd : fd < 16) (h0 : cs[1 + fd]? = some (.int .i64 0)) (i x : Nat) (hi : xs[i]? = some x) (kind : Int) (l : List UInt8) (ht : RThing w M x kind l) :
 Calls Tryz.prog 18 #[.pointer (some ⟨q, 0, none⟩), .int .i64 (fd : Int), .int .i64 ((i : Int) + 1)] w fun e w' => e = .returned (.int .i64 0) /\ w' = w.setCell ⟨q, 1 + fd, none⟩ (.int .i64 ((i : Int) + 1)) := by
 obtain ⟨v, hxb, _⟩ := ht
 have c0 : w.cell? ⟨q, 0, none⟩ = some (.pointer (some ⟨k, 0, none⟩)) := (hq.cell 0).trans hk
 have c1 : w.cell? ⟨q, 1 + fd, none⟩ = some (.int .i64 0) := (hq.cell _).trans h0
 have f1 : w.frozen? ⟨q, 1 + fd, none⟩ = false := hq.frozen _
 have lq := hq.lt
 have x5 : w.cell? ⟨x, 5, none⟩ = some (.bool false) := hxb.cell 5
 have lx := hxb.lt
 have H1 := Lib.hid (refThing w M k tp [q] xs fl used now h hx i x hi)
 have hq2 := hq.set_ (1 + fd) (.int .i64 ((i : Int) + 1))
 have hz2 : ∀ j, j < 16 -> ∃ z : Int, (cs.setIfInBounds (1 + fd) (.int .i64 ((i : Int) + 1)))[1 + j]? = some (.int .i64 z) := fun j hj => by
  by_cases e : j = fd
  · subst e
    exact ⟨(i : Int) + 1, by rw [Array.getElem?_setIfInBounds]; simp; omega⟩
  · obtain ⟨z, hzj⟩ := hz j hj
    exact ⟨z, by rw [Array.getElem?_setIfInBounds, if_neg (by omega)]; exact hzj⟩
 have hl := refLeft0 (w.setCell ⟨q, 1 + fd, none⟩ (.int .i64 ((i : Int) + 1))) M k tp q xs fl used now (h.far hq (by decide) (by decide) (by decide) (by decide) _ _) _ hq2 hz2
 obtain ⟨V, hV⟩ : ∃ V, w.setCell ⟨q, 1 + fd, none⟩ (.int .i64 ((i : Int) + 1)) = V := ⟨_, rfl⟩
 have v0 : V.cell? ⟨q, 0, none⟩ = some (.pointer (some ⟨k, 0, none⟩)) := by
  rw [<- hV, hq2.cell 0, Array.getElem?_setIfInBounds, if_neg (by omega)]
  exact hk
 have lqV : q < V.heap.size := by rw [<- hV]; exact hq2.lt
 rw [hV] at hl ⊢
 have HL := Lib.hid hl
 have hf0 : (0 : Int) <= (fd : Int) := by omega
 have hf1 : (fd : Int) < 16 := by omega
 clear h hq hk hz h0 hi hxb hq2 hz2 hl hsz
 go_enter Tryz.func18, Tryz.ntmps18
 go_wp2_with (first
  | (go_at_call 48; refine (refIs fd hfd w).mono ?_; rintro e1 w1 ⟨rfl, h1⟩; obtain rfl : w = w1 := h1.symm)
  | (go_at_call 49; refine H1.out.mono ?_; rintro e1 w1 ⟨rfl, h1⟩; obtain rfl : w = w1 := h1.symm)
  | ((try rw [hV]); go_at_call 50; refine HL.out.mono ?_; rintro e2 w2 ⟨rfl, h2⟩; obtain rfl : V = w2 := h2.symm))
 go_returns
 exact ⟨rfl, rfl⟩
end
section
set_option maxRecDepth 100000
open Go.RowKit Go.Maps Go.Shelf
theorem Turns.ofB {w w' : World} {F : List Nat} (h : Below w.heap.size w w') : Turns F w w' := ⟨h.os, h.tape, h.output, h.size, fun k hk _ => h.block k hk⟩
theorem RKern.turns {w w' : World} {M k tp : Nat} {qs xs : List Nat} {fl : List (Int × Int)} {used : Nat} {now : Int} (h : RKern w M k tp qs xs fl used now) {F : List Nat} (hT : Turns F w w') (hF : ∀ g ∈ F, ∃ ty cs, Blk w g ty cs /\ ty ≠ 71 /\ ty ≠ 120 /\ ty ≠ 58 /\ ty ≠ 44) : RKern w' M k tp qs xs fl used now := by
 obtain ⟨lv, tv, fv, a, b, c, d⟩ := h.mem
 have row : ∀ {e : TypeId} {size n : Nat} {v : Value} {ys : List Value}, w.ownsRow M e size v n ys -> (e = 120 \/ e = 58 \/ e = 44) -> w'.ownsRow M e size v n ys := fun hr he => ownsRow_same hr fun g hg => hT.block g (hr.lt g hg).2 fun hm => by
  obtain ⟨ty, cs, hb, _, h2, h3, h4⟩ := hF g hm
  refine own_ne hr hb ?_ hg
  rcases he with rfl | rfl | rfl
  · exact fun e => h2 e.symm
  · exact fun e => h3 e.symm
  · exact fun e => h4 e.symm
 refine ⟨⟨lv, tv, fv, (hT.block _ a.lt fun hm => ?_).trans a, row b (.inl rfl), row c (.inr (.inl rfl)), row d (.inr (.inr rfl))⟩, h.low⟩
 obtain ⟨ty, cs, hb, h1, _⟩ := hF _ hm
 exact Blk.ne_ a hb (fun e => h1 e.symm) rfl
theorem RThing.turns {w w' : World} {M x : Nat} {kind : Int} {l : List UInt8} (h : RThing w M x kind l) {F : List Nat} (hT : Turns F w w') (hx : x ∉ F) (hF : ∀ g ∈ F, ∃ ty cs, Blk w g ty cs /\ ty ≠ 5) : RThing w' M x kind l := by
 obtain ⟨v, a, b⟩ := h
 refine ⟨v, (hT.block _ a.lt hx).trans a, b.same fun g hg => hT.block g (b.lt hg).2 fun hm => ?_⟩
 obtain ⟨ty, cs, hb, h1⟩ := hF _ hm
 exact b.blk_ne hb (fun e => h1 e.symm) hg
set_option maxHeartbeats 1000000 in
theorem refFault (w : World) (M k tp : Nat) (qs xs : List Nat) (fl : List (Int × Int)) (used : Nat) (now : Int) (h : RKern w M k tp qs xs fl used now) (hu : used <= fl.length) (hl : fl.length <= 1048576) :
 Calls Tryz.prog 115 #[.pointer (some ⟨k, 0, none⟩)] w fun e w' => e = .returned (.agg #[.int .i64 (fl.getD used (0, 0)).1, .int .i64 (fl.getD used (0, 0)).2]) /\ RKern w' M k tp qs xs fl (if used = fl.length then used else used + 1) now /\ Turns [k] w w' := by
 obtain ⟨lv, tv, fv, hb, h1, h2, h3⟩ := h.mem
 have hlt : k < w.heap.size := hb.lt
 have c3 : w.cell? ⟨k, 3, none⟩ = some fv := hb.cell 3
 have c4 : w.cell? ⟨k, 4, none⟩ = some (.int .i64 (used : Int)) := hb.cell 4
 have f4 : w.frozen? ⟨k, 4, none⟩ = false := hb.frozen 4
 obtain ⟨n, hn⟩ : ∃ n, fl.length = n := ⟨_, rfl⟩
 rw [hn] at hu hl h3 ⊢
 obtain ⟨A, cap, rfl, _, _, hrd⟩ := own_slice h3
 have HN := Lib.hid hn
 have HB := Lib.hid (And.intro hb (And.intro h1 (And.intro h2 h3)))
 have HLOW := Lib.hid h.low
 obtain ⟨f1, f2, hff⟩ : ∃ f1 f2, fl.getD used (0, 0) = (f1, f2) := ⟨_, _, rfl⟩
 obtain ⟨u', hu'⟩ : ∃ u', (if used = n then used else used + 1) = u' := ⟨_, rfl⟩
 rw [hff, hu']
 dsimp only
 by_cases hlast : used = n
 · subst hlast
   have HK := Lib.hid h
   have hf0 : f1 = 0 /\ f2 = 0 := by
    have : fl.getD used (0, 0) = (0, 0) := by rw [<- hn]; simp
    rw [hff] at this
    cases this
    exact ⟨rfl, rfl⟩
   rw [if_pos rfl] at hu'
   obtain ⟨rfl, rfl⟩ := hf0
   have HU := Lib.hid hu'
   clear hff hu'
   clear hn hb h1 h2 h3 h hrd
   go_enter Tryz.func115, Tryz.ntmps115
   go_wp2
   go_region
   go_wp2
   go_returns
   refine ⟨rfl, ?_, ((Turns.refl _ w).alloc _).drew⟩
   rw [<- HU.out]
   exact HK.out.turns (F := []) (((Turns.refl _ w).alloc _).drew) (by simp)
 · have hun : used < n := by omega
   obtain ⟨gb, off, hA, hgb, hcc⟩ := reads_flat hrd (by intro e; have := hrd.1; rw [e] at this; simp at this; omega)
   subst hA
   obtain ⟨x, y, hxy⟩ : ∃ x y, fl[used]? = some (x, y) := ⟨_, _, List.getElem?_eq_getElem (by omega)⟩
   have hat := faultV_at hxy
   have e1 : w.cell? ⟨gb, off + used * 2, none⟩ = some (.int .i64 x) := hcc _ _ hat.1
   have e2 : w.cell? ⟨gb, off + used * 2 + 1, none⟩ = some (.int .i64 y) := hcc _ _ hat.2
   have hgk : gb ≠ k := fun e => own_ne h3 hb (by decide) (by rw [e]; rfl)
   have hgD : fl.getD used (0, 0) = (x, y) := by rw [List.getD_eq_getElem?_getD, hxy]; rfl
   rw [hff] at hgD
   cases hgD
   rw [if_neg hlast] at hu'
   have HU := Lib.hid hu'
   clear hat hcc hrd hb h1 h2 h3 h hn hxy hff hu'
   have hw1 : wrap64 ((used : Int) + 1) = (used : Int) + 1 := w64 _ (by omega)
   have hw2 : wrap64 (used : Int) = (used : Int) := w64 _ (by omega)
   have hw3 : IntKind.i64.wrap (used : Int) = (used : Int) := IntWalk.i64_in _ (by omega)
   go_enter Tryz.func115, Tryz.ntmps115
   go_wp2
   go_region
   go_wp2
   go_region
   go_wp2
   go_returns
   have hT : Turns [k] w (((w.setCell ⟨k, 4, none⟩ (.int .i64 ((used : Int) + 1))).alloc (.cells #[.int .i64 f1, .int .i64 f2] 44)).drew.drew) := (((Turns.refl _ w).setCell ⟨k, 4, none⟩ _ (by simp)).alloc _).drew.drew
   obtain ⟨a, b, c, d⟩ := HB.out
   refine ⟨rfl, ⟨⟨lv, tv, .slice (some ⟨gb, off, none⟩) n cap, ?_, (ownsRow_setCell_other b (own_ne b a (by decide)) _).alloc _, (ownsRow_setCell_other c (own_ne c a (by decide)) _).alloc _, ?_⟩, HLOW.out⟩, hT⟩
   · have h1 := (a.set_ 4 (.int .i64 ((used : Int) + 1))).alloc (.cells #[.int .i64 f1, .int .i64 f2] 44)
     rw [<- HU.out, show ((used + 1 : Nat) : Int) = (used : Int) + 1 by omega]
     exact h1
   · rw [HN.out]
     exact (ownsRow_setCell_other d (own_ne d a (by decide)) _).alloc _
set_option maxHeartbeats 1000000 in
theorem refShort (w : World) (n : Int) (f : Int × Int) :
 Calls Tryz.prog 117 #[.int .i64 n, .agg #[.int .i64 f.1, .int .i64 f.2]] w fun e w' => e = .returned (.int .i64 (shortN n f)) /\ Below w.heap.size w w' := by
 obtain ⟨kind, m⟩ := f
 obtain ⟨r, hr⟩ : ∃ r, shortN n (kind, m) = r := ⟨_, rfl⟩
 rw [hr]
 have HR := Lib.hid hr
 clear hr
 go_enter Tryz.func117, Tryz.ntmps117
 go_wp2
 all_goals
  go_returns
  have hr := HR.out
  unfold shortN at hr
  refine ⟨?_, ?_⟩
  · subst hr
    simp_all <;> (try split) <;> omega
  · exact below_one w _
structure RK (w : World) (M k q tp x0 x1 x2 : Nat) (fl : List (Int × Int)) (now : Int) (inb : List UInt8) (said : Bool -> List UInt8) (used : Nat) : Prop where
 kern : RKern w M k tp [q] [x0, x1, x2] fl used now
 tab : Blk w q 118 (tabC k 1 2 3)
 src : RThing w M x0 1 inb
 out : RThing w M x1 2 (said true)
 err : RThing w M x2 2 (said false)
 ne : x0 ≠ x1 /\ x0 ≠ x2 /\ x1 ≠ x2
 low : M <= q /\ M <= x0 /\ M <= x1 /\ M <= x2
 used : used <= fl.length
 few : fl.length <= 1048576
theorem RThing.block {w : World} {M x : Nat} {kind : Int} {l : List UInt8} (h : RThing w M x kind l) : ∃ cs, Blk w x 123 cs := by
 obtain ⟨v, h1, _⟩ := h
 exact ⟨_, h1⟩
theorem RK.turned {w w' : World} {M k q tp x0 x1 x2 : Nat} {fl : List (Int × Int)} {now : Int} {inb : List UInt8} {said : Bool -> List UInt8} {used used' : Nat} (h : RK w M k q tp x0 x1 x2 fl now inb said used) (hK : RKern w' M k tp [q] [x0, x1, x2] fl used' now) (hT : Turns [k] w w') (hu : used' <= fl.length) : RK w' M k q tp x0 x1 x2 fl now inb said used' := by
 obtain ⟨lv, tv, fv, a, _⟩ := h.kern.mem
 have hF : ∀ g ∈ [k], ∃ ty cs, Blk w g ty cs /\ ty ≠ 5 := fun g hg => by rw [List.mem_singleton.1 hg]; exact ⟨_, _, a, by decide⟩
 have th : ∀ {x : Nat} {kind : Int} {l : List UInt8}, RThing w M x kind l -> RThing w' M x kind l := fun hx => hx.turns hT (by
  obtain ⟨cs, hb⟩ := hx.block
  rw [List.mem_singleton]
  exact Blk.ne_ hb a (by decide)) hF
 exact ⟨hK, (hT.block _ h.tab.lt (by rw [List.mem_singleton]; exact Blk.ne_ h.tab a (by decide))).trans h.tab, th h.src, th h.out, th h.err, h.ne, h.low, hu, h.few⟩
theorem RK.below {w w' : World} {M k q tp x0 x1 x2 : Nat} {fl : List (Int × Int)} {now : Int} {inb : List UInt8} {said : Bool -> List UInt8} {used : Nat} (h : RK w M k q tp x0 x1 x2 fl now inb said used) (hb : Below w.heap.size w w') : RK w' M k q tp x0 x1 x2 fl now inb said used :=
 h.turned (h.kern.below hb) (Turns.ofB hb) h.used
theorem RK.thing {w w' : World} {M k q tp x0 x1 x2 : Nat} {fl : List (Int × Int)} {now : Int} {inb inb' : List UInt8} {said said' : Bool -> List UInt8} {used : Nat} (h : RK w M k q tp x0 x1 x2 fl now inb said used) {x : Nat} (hx : ∃ cs, Blk w x 123 cs) (hT : Turns [x] w w')
 (h0 : if x = x0 then RThing w' M x0 1 inb' else inb' = inb) (h1 : if x = x1 then RThing w' M x1 2 (said' true) else said' true = said true) (h2 : if x = x2 then RThing w' M x2 2 (said' false) else said' false = said false) : RK w' M k q tp x0 x1 x2 fl now inb' said' used := by
 obtain ⟨cs, hb⟩ := hx
 have th : ∀ {y : Nat} {kind : Int} {l l' : List UInt8}, RThing w M y kind l -> (if x = y then RThing w' M y kind l' else l' = l) -> RThing w' M y kind l' := fun {y kind l l'} hy hi => by
  by_cases e : x = y
  · rw [if_pos e] at hi; exact hi
  · rw [if_neg e] at hi
    rw [hi]
    exact hy.turns hT (by rw [List.mem_singleton]; exact fun e2 => e e2.symm) (fun g hg => by rw [List.mem_singleton.1 hg]; exact ⟨_, _, hb, by decide⟩)
 exact ⟨h.kern.turns hT (fun g hg => by rw [List.mem_singleton.1 hg]; exact ⟨_, _, hb, by decide, by decide, by decide, by decide⟩), (hT.block _ h.tab.lt (by rw [List.mem_singleton]; exact Blk.ne_ h.tab hb (by decide))).trans h.tab, th h.src h0, th h.out h1, th h.err h2, h.ne, h.low, h.used, h.few⟩
section
variable {w : World} {M k q tp x0 x1 x2 : Nat} {fl : List (Int × Int)} {now : Int} {S : PF}
theorem took_eq : S.took fl = if S.used = fl.length then S.used else S.used + 1 := rfl
theorem next_eq : S.next fl = fl.getD S.used (0, 0) := rfl
set_option maxHeartbeats 2000000 in
theorem refReadNo (h : RK w M k q tp x0 x1 x2 fl now S.inb S.said S.used) (most : Int) (hm : 1 <= most) (er : Int) (hf : ((S.next fl).1 = 2 /\ er = 9) \/ ((S.next fl).1 = 4 /\ er = 7)) :
 Calls Tryz.prog 88 #[.pointer (some ⟨q, 0, none⟩), .int .i64 0, .int .i64 most] w fun e w' => e = .returned (.tuple #[.slice none 0 0, .int .i64 er]) /\ RK w' M k q tp x0 x1 x2 fl now S.inb S.said (S.took fl) /\ Turns [k] w w' := by
 obtain ⟨v, hxb, hv⟩ := h.src
 obtain ⟨A, c, rfl, hc, _⟩ := hv.form
 obtain ⟨n, hn⟩ : ∃ n, S.inb.length = n := ⟨_, rfl⟩
 rw [hn] at hxb hc
 have t0 : w.cell? ⟨q, 0, none⟩ = some (.pointer (some ⟨k, 0, none⟩)) := h.tab.cell 0
 have t1 : w.cell? ⟨q, 1, none⟩ = some (.int .i64 1) := h.tab.cell 1
 have lq := h.tab.lt
 have x00 : w.cell? ⟨x0, 0, none⟩ = some (.int .i64 1) := hxb.cell 0
 have x01 : w.cell? ⟨x0, 1, none⟩ = some (.slice A n c) := hxb.cell 1
 have lx := hxb.lt
 have hth := refThing w M k tp [q] [x0, x1, x2] fl S.used now h.kern (by simp) 0 x0 rfl
 simp only [Int.ofNat_zero, Int.zero_add] at hth
 have hfa := refFault w M k tp [q] [x0, x1, x2] fl S.used now h.kern h.used h.few
 rw [<- next_eq, <- took_eq] at hfa
 have hun : S.took fl <= fl.length := (PF.took_le h.used).1
 obtain ⟨f1, f2, hff⟩ : ∃ f1 f2, S.next fl = (f1, f2) := ⟨_, _, rfl⟩
 rw [hff] at hfa hf
 dsimp only at hfa hf
 have HF := Lib.hid hfa
 have HTH := Lib.hid hth
 have HH := Lib.hid h
 have HUN := Lib.hid hun
 have hm1 : (most < 1) = False := by simp; omega
 clear hfa hth h hun hxb hv hn hff
 go_enter Tryz.func88, Tryz.ntmps88
 rcases hf with ⟨rfl, rfl⟩ | ⟨rfl, rfl⟩
 · go_wp2_with (first
    | (go_at_call 48; refine (refIs 0 (by decide) w).mono ?_; rintro e1 w1 ⟨rfl, h1⟩; obtain rfl : w = w1 := h1.symm)
    | (go_at_call 49; refine HTH.out.mono ?_; rintro e1 w1 ⟨rfl, h1⟩; obtain rfl : w = w1 := h1.symm)
    | (go_at_call 115; refine HF.out.mono ?_; rintro e2 w2 ⟨rfl, hK2, hT2⟩))
   go_returns
   exact ⟨rfl, (HH.out.turned hK2 hT2 HUN.out).below (below_one w2 _), hT2.alloc _⟩
 · go_wp2_with (first
    | (go_at_call 48; refine (refIs 0 (by decide) w).mono ?_; rintro e1 w1 ⟨rfl, h1⟩; obtain rfl : w = w1 := h1.symm)
    | (go_at_call 49; refine HTH.out.mono ?_; rintro e1 w1 ⟨rfl, h1⟩; obtain rfl : w = w1 := h1.symm)
    | (go_at_call 115; refine HF.out.mono ?_; rintro e2 w2 ⟨rfl, hK2, hT2⟩))
   go_returns
   exact ⟨rfl, (HH.out.turned hK2 hT2 HUN.out).below (below_one w2 _), hT2.alloc _⟩
set_option maxHeartbeats 4000000 in
theorem refReadOk (h : RK w M k q tp x0 x1 x2 fl now S.inb S.said S.used) (m : Nat) (hm : 1 <= m) (hm2 : (m : Int) <= 9223372036854775807) (hl : S.inb.length <= 1048576) (hf2 : (S.next fl).1 ≠ 2) (hf4 : (S.next fl).1 ≠ 4) (a : Nat) (ha : S.some_ fl (min m S.inb.length) = a) :
 Calls Tryz.prog 88 #[.pointer (some ⟨q, 0, none⟩), .int .i64 0, .int .i64 (m : Int)] w fun e w' => ∃ A c, e = .returned (.tuple #[.slice A a c, .int .i64 0]) /\ OffRow w' M 5 (.slice A a c) a (bytesC (S.inb.take a)) /\ RK w' M k q tp x0 x1 x2 fl now (S.inb.drop a) S.said (S.took fl) /\ Turns [k, x0] w w' := by
 obtain ⟨v, hxb, hv⟩ := h.src
 obtain ⟨A, c, rfl, hc, _⟩ := hv.form
 obtain ⟨n, hn⟩ : ∃ n, S.inb.length = n := ⟨_, rfl⟩
 have han : a <= min m n := by rw [<- ha, <- hn]; exact PF.some_le _
 have hsh0 := PF.some_eq (fl := fl) (s := S) (min m S.inb.length)
 rw [ha, hn] at hsh0
 rw [hn] at hxb hc hl hv
 have t0 : w.cell? ⟨q, 0, none⟩ = some (.pointer (some ⟨k, 0, none⟩)) := h.tab.cell 0
 have t1 : w.cell? ⟨q, 1, none⟩ = some (.int .i64 1) := h.tab.cell 1
 have lq := h.tab.lt
 have x00 : w.cell? ⟨x0, 0, none⟩ = some (.int .i64 1) := hxb.cell 0
 have x01 : w.cell? ⟨x0, 1, none⟩ = some (.slice A n c) := hxb.cell 1
 have lx := hxb.lt
 have hth := refThing w M k tp [q] [x0, x1, x2] fl S.used now h.kern (by simp) 0 x0 rfl
 simp only [Int.ofNat_zero, Int.zero_add] at hth
 have hfa := refFault w M k tp [q] [x0, x1, x2] fl S.used now h.kern h.used h.few
 rw [<- next_eq, <- took_eq] at hfa
 have hun : S.took fl <= fl.length := (PF.took_le h.used).1
 obtain ⟨f1, f2, hff⟩ : ∃ f1 f2, S.next fl = (f1, f2) := ⟨_, _, rfl⟩
 rw [hff] at hfa hf2 hf4 hsh0
 dsimp only at hfa hf2 hf4
 have hsh := fun W => refShort W ((min m n : Nat) : Int) (f1, f2)
 rw [hsh0] at hsh
 dsimp only at hsh
 have hb2 : (f1 == 2) = false := by simpa using hf2
 have hb4 : (f1 == 4) = false := by simpa using hf4
 obtain ⟨iB, hiB, hB0, hB1, hB2⟩ := info_parts Tryz.infoByte
 have hfr := fun W => run_front (P := Tryz.prog) 23 5 iB Tryz.underlying23 hiB A n c a (by omega) W
 have hct := fun W => run_cut (P := Tryz.prog) 23 5 iB 1 Tryz.underlying23 hiB hB1 A n c .i64 (a : Int) a rfl (by omega) W
 have HF := Lib.hid hfa
 have HTH := Lib.hid hth
 have HH := Lib.hid h
 have HUN := Lib.hid hun
 have HSH := Lib.hid hsh
 have HXB := Lib.hid hxb
 have HV := Lib.hid hv
 have HN := Lib.hid hn
 have HAN := Lib.hid han
 have hm1 : ((m : Int) < 1) = False := by simp; omega
 have hKX : x0 ≠ k := by
  obtain ⟨lv, tv, fv, a, _⟩ := h.kern.mem
  exact Blk.ne_ hxb a (by decide)
 have fin : ∀ (w2 w3 : World), RKern w2 M k tp [q] [x0, x1, x2] fl (S.took fl) now -> Turns [k] w w2 -> Below w2.heap.size w2 w3 -> OffRow (w3.setCell ⟨x0, 1, none⟩ (.slice (cutA A c a 1) (n - a) (c - a))) M 5 (.slice A a c) a (bytesC (S.inb.take a)) /\ RK (w3.setCell ⟨x0, 1, none⟩ (.slice (cutA A c a 1) (n - a) (c - a))) M k q tp x0 x1 x2 fl now (S.inb.drop a) S.said (S.took fl) /\ Turns [k, x0] w (w3.setCell ⟨x0, 1, none⟩ (.slice (cutA A c a 1) (n - a) (c - a))) := by
  intro w2 w3 hK2 hT2 hb3
  have r3 := (h.turned hK2 hT2 hun).below hb3
  have b3 : Blk w3 x0 123 (thingC 1 (.slice A n c)) := Blk.on ((hT2.block _ hxb.lt (by rw [List.mem_singleton]; exact hKX)).trans hxb) hb3
  have v3 : OffRow w3 M 5 (.slice A n c) n (bytesC S.inb) := by
   refine hv.same fun g hg => ?_
   have h1 := hv.lt hg
   have h2 : w2.heap[g]? = w.heap[g]? := hT2.block g h1.2 (by
    rw [List.mem_singleton]
    rintro rfl
    obtain ⟨lv, tv, fv, a, _⟩ := h.kern.mem
    exact hv.blk_ne a (by decide) hg)
   exact (hb3.block g (Nat.lt_of_lt_of_le h1.2 hT2.size)).trans h2
  have hT5 : Turns [x0] w3 (w3.setCell ⟨x0, 1, none⟩ (.slice (cutA A c a 1) (n - a) (c - a))) := (Turns.refl _ w3).setCell _ _ (fun _ => List.mem_singleton.2 rfl)
  have keepv : ∀ {v : Value} {nn : Nat} {ys : List Value}, OffRow w3 M 5 v nn ys -> OffRow (w3.setCell ⟨x0, 1, none⟩ (.slice (cutA A c a 1) (n - a) (c - a))) M 5 v nn ys := fun ho => ho.same fun g hg => Below.heap_setCell _ _ _ _ (fun e => ho.blk_ne b3 (by decide) (by rw [hg, show g = x0 from e]))
  have ht1 := keepv (v3.front (show a <= n by omega))
  rw [<- bytesC_take] at ht1
  have ht2 := keepv (v3.cut (show a <= n by omega))
  rw [<- bytesC_drop] at ht2
  refine ⟨ht1, r3.thing ⟨_, b3⟩ hT5 ?_ ?_ ?_, ((hT2.then (Turns.ofB (F := []) hb3) (by simp)).more (by simp)).trans (hT5.more (by simp))⟩
  · rw [if_pos rfl]
    exact ⟨_, b3.set_ 1 _, by rw [List.length_drop, hn]; exact ht2⟩
  · rw [if_neg h.ne.1]
  · rw [if_neg h.ne.2.1]
 have FIN := Lib.hid fin
 clear hfa hth h hun hxb hv hn hff hsh hsh0 hf2 hf4 hB0 hB1 hB2 hiB fin ha
 go_enter Tryz.func88, Tryz.ntmps88
 rcases Nat.lt_or_ge n m with hml | hml
 · have hmin : min m n = n := by omega
   rw [hmin] at HSH
   have hgt : ((m : Int) < (n : Int)) = False := by simp; omega
   go_wp2_with (first
    | (go_at_call 48; refine (refIs 0 (by decide) w).mono ?_; rintro e1 w1 ⟨rfl, h1⟩; obtain rfl : w = w1 := h1.symm)
    | (go_at_call 49; refine HTH.out.mono ?_; rintro e1 w1 ⟨rfl, h1⟩; obtain rfl : w = w1 := h1.symm)
    | (go_at_call 115; refine HF.out.mono ?_; rintro e2 w2 ⟨rfl, hK2, hT2⟩
       have b2 : Blk w2 x0 _ _ := (hT2.block _ HXB.out.lt (by rw [List.mem_singleton]; exact hKX)).trans HXB.out
       have x00 : w2.cell? ⟨x0, 0, none⟩ = some (.int .i64 1) := b2.cell 0
       have x01 : w2.cell? ⟨x0, 1, none⟩ = some (.slice A n c) := b2.cell 1
       have lx := b2.lt)
    | (go_at_call 117; refine (HSH.out _).mono ?_; rintro e3 w3 ⟨rfl, hb3⟩
       have b3 : Blk w3 x0 _ _ := Blk.on (b2.alloc _) hb3
       have x00 : w3.cell? ⟨x0, 0, none⟩ = some (.int .i64 1) := b3.cell 0
       have x01 : w3.cell? ⟨x0, 1, none⟩ = some (.slice A n c) := b3.cell 1
       have fx01 : w3.frozen? ⟨x0, 1, none⟩ = false := b3.frozen 1
       have lx := b3.lt))
   go_returns
   obtain ⟨g1, g2, g3⟩ := FIN.out w2 w3 hK2 hT2 (below_thru (below_one w2 _) hb3)
   exact ⟨A, c, rfl, g1, g2, g3⟩
 · have hmin : min m n = m := by omega
   rw [hmin] at HSH
   by_cases heq : m = n
   · have hgt : ((m : Int) < (n : Int)) = False := by simp; omega
     go_wp2_with (first
      | (go_at_call 48; refine (refIs 0 (by decide) w).mono ?_; rintro e1 w1 ⟨rfl, h1⟩; obtain rfl : w = w1 := h1.symm)
      | (go_at_call 49; refine HTH.out.mono ?_; rintro e1 w1 ⟨rfl, h1⟩; obtain rfl : w = w1 := h1.symm)
      | (go_at_call 115; refine HF.out.mono ?_; rintro e2 w2 ⟨rfl, hK2, hT2⟩
         have b2 : Blk w2 x0 _ _ := (hT2.block _ HXB.out.lt (by rw [List.mem_singleton]; exact hKX)).trans HXB.out
         have x00 : w2.cell? ⟨x0, 0, none⟩ = some (.int .i64 1) := b2.cell 0
         have x01 : w2.cell? ⟨x0, 1, none⟩ = some (.slice A n c) := b2.cell 1
         have lx := b2.lt)
      | (rw [<- heq]; go_at_call 117; refine (HSH.out _).mono ?_; rintro e3 w3 ⟨rfl, hb3⟩
         have b3 : Blk w3 x0 _ _ := Blk.on (b2.alloc _) hb3
         have x00 : w3.cell? ⟨x0, 0, none⟩ = some (.int .i64 1) := b3.cell 0
         have x01 : w3.cell? ⟨x0, 1, none⟩ = some (.slice A n c) := b3.cell 1
         have fx01 : w3.frozen? ⟨x0, 1, none⟩ = false := b3.frozen 1
         have lx := b3.lt))
     go_returns
     obtain ⟨g1, g2, g3⟩ := FIN.out w2 w3 hK2 hT2 (below_thru (below_one w2 _) hb3)
     exact ⟨A, c, rfl, g1, g2, g3⟩
   · have hgt : ((m : Int) < (n : Int)) = True := by simp; omega
     go_wp2_with (first
      | (go_at_call 48; refine (refIs 0 (by decide) w).mono ?_; rintro e1 w1 ⟨rfl, h1⟩; obtain rfl : w = w1 := h1.symm)
      | (go_at_call 49; refine HTH.out.mono ?_; rintro e1 w1 ⟨rfl, h1⟩; obtain rfl : w = w1 := h1.symm)
      | (go_at_call 115; refine HF.out.mono ?_; rintro e2 w2 ⟨rfl, hK2, hT2⟩
         have b2 : Blk w2 x0 _ _ := (hT2.block _ HXB.out.lt (by rw [List.mem_singleton]; exact hKX)).trans HXB.out
         have x00 : w2.cell? ⟨x0, 0, none⟩ = some (.int .i64 1) := b2.cell 0
         have x01 : w2.cell? ⟨x0, 1, none⟩ = some (.slice A n c) := b2.cell 1
         have lx := b2.lt)
      | (go_at_call 117; refine (HSH.out _).mono ?_; rintro e3 w3 ⟨rfl, hb3⟩
         have b3 : Blk w3 x0 _ _ := Blk.on (b2.alloc _) hb3
         have x00 : w3.cell? ⟨x0, 0, none⟩ = some (.int .i64 1) := b3.cell 0
         have x01 : w3.cell? ⟨x0, 1, none⟩ = some (.slice A n c) := b3.cell 1
         have fx01 : w3.frozen? ⟨x0, 1, none⟩ = false := b3.frozen 1
         have lx := b3.lt))
     go_returns
     obtain ⟨g1, g2, g3⟩ := FIN.out w2 w3 hK2 hT2 (below_thru (below_one w2 _) hb3)
     exact ⟨A, c, rfl, g1, g2, g3⟩
end
end
end Go.Proofs.YtffffjngodinnaaGreatDoor
