/-
  Parts of the proof.
-/
import Derived.Test.YtffffjngodinnaaGreatDoorV46
import Derived.Test.YtffffjngodinnaaGreatDoorV16
namespace Go.Proofs.YtffffjngodinnaaGreatDoor
section
set_option maxRecDepth 100000
open Go.RowKit Go.Maps Go.Shelf
section
variable {w : World} {M k q tp x0 x1 x2 : Nat} {fl : List (Int × Int)} {now : Int} {S : PF}
set_option maxHeartbeats 2000000 in
theorem refLands (w : World) (M k x : Nat) (l bs : List UInt8) (h : RThing w M x 2 l) (hM : M <= w.heap.size) (A : Option Addr) (n c : Nat) (hn : bs.length = n) (hr : Reads w w.heap.size 1 A n (bytesC bs)) (hl : l.length + n <= 140737488355328) :
 Calls Tryz.prog 119 #[.pointer (some ⟨k, 0, none⟩), .pointer (some ⟨x, 0, none⟩), .slice A n c] w fun e w' => e = .returned (.tuple #[]) /\ RThing w' M x 2 (l ++ bs) /\ Turns [x] w w' := by
 obtain ⟨v, hxb, hv⟩ := h
 obtain ⟨XA, xc, rfl, _, hxr⟩ := hv.form
 obtain ⟨m, hm⟩ : ∃ m, l.length = m := ⟨_, rfl⟩
 rw [hm] at hxb hxr hl
 have x00 : w.cell? ⟨x, 0, none⟩ = some (.int .i64 2) := hxb.cell 0
 have x01 : w.cell? ⟨x, 1, none⟩ = some (.slice XA m xc) := hxb.cell 1
 have f01 : w.frozen? ⟨x, 1, none⟩ = false := hxb.frozen 1
 have lx := hxb.lt
 obtain ⟨iB, hiB, hB0, hB1, hB2⟩ := info_parts Tryz.infoByte
 have HI := Lib.hid hiB
 have H0 := Lib.hid hB0
 have H1 := Lib.hid hB1
 have H2 := Lib.hid hB2
 have HR := Lib.hid hr
 have HXR := Lib.hid hxr
 have HXB := Lib.hid hxb
 have HN := Lib.hid (And.intro hm hn)
 clear hiB hB0 hB1 hB2 hr hxr hxb hv hn hm
 go_enter Tryz.func119, Tryz.ntmps119
 go_wp2_with (first
  | (at_builtin; refine wpList_append_any _ rfl _ _ 23 rfl w.heap.size 5 iB (.int .u8 0) 1 1 Tryz.underlying23 HI.out H0.out H1.out H2.out rfl (by decide) (.slice none 0 0) 0 [] rfl (World.ownsRow_nil _ _ _ _) w.heap.size XA m xc (bytesC l) rfl HXR.out (bytesC_oneCell l) (by simp only [maxLen]; omega) (by omega) (by simp) ?_; intro v2 w2 hown2 hg2 hat2
     simp only [Nat.zero_add, List.nil_append] at hown2
     obtain ⟨A2, c2, rfl, _⟩ := own_slice hown2
     have hb2 : Below w.heap.size w w2 := (Below.refl _ w).grown hg2 (by simp) (fun k hk => by simp [Value.ownBlock] at hk)
     have hs2 := hb2.size)
  | (at_builtin; refine wpList_append_any _ rfl _ _ 23 rfl w.heap.size 5 iB (.int .u8 0) 1 1 Tryz.underlying23 HI.out H0.out H1.out H2.out rfl (by decide) (.slice A2 m c2) m (bytesC l) rfl hown2 w.heap.size A n c (bytesC bs) rfl (HR.out.below hb2) (bytesC_oneCell bs) (by simp only [maxLen]; omega) (by omega) (by omega) ?_; intro v3 w3 hown3 hg3 hat3
     obtain ⟨A3, c3, rfl, _⟩ := own_slice hown3
     have hb3 : Below w.heap.size w w3 := hb2.grown hg3 hs2 (fun k hk => (hown2.lt k hk).1)
     have b3 := Blk.on HXB.out hb3
     have f31 : w3.frozen? ⟨x, 1, none⟩ = false := b3.frozen 1
     have x31 : w3.cell? ⟨x, 1, none⟩ = some (.slice XA m xc) := b3.cell 1
     have l3 := b3.lt))
 go_returns
 refine ⟨rfl, ⟨_, b3.set_ 1 _, ?_⟩, (Turns.ofB hb3).setCell _ _ (fun _ => List.mem_singleton.2 rfl)⟩
 have h1 := Joins.ownsRow_le (ownsRow_setCell_other hown3 (own_blk_ne hown3 b3 (by decide)) (a := ⟨x, 1, none⟩) (.slice A3 (m + n) c3)) hM
 have e1 : (l ++ bs).length = m + n := by rw [List.length_append, HN.out.1, HN.out.2]
 have e2 : bytesC (l ++ bs) = bytesC l ++ bytesC bs := by simp [bytesC]
 rw [e1, e2]
 exact OffRow.of_own h1
set_option maxHeartbeats 4000000 in
theorem refWriteNo (h : RK w M k q tp x0 x1 x2 fl now S.inb S.said S.used) (fd i x : Nat) (hfd : fd < 16) (ht : (tabC k 1 2 3)[1 + fd]? = some (.int .i64 ((i : Int) + 1))) (hi0 : (((i : Int) + 1) == 0) = false) (hx : [x0, x1, x2][i]? = some x) (l : List UInt8) (hth : RThing w M x 2 l) (A : Option Addr) (n c : Nat) (hn : 0 < n) (hf : wErr (S.next fl) ≠ 0) :
 Calls Tryz.prog 89 #[.pointer (some ⟨q, 0, none⟩), .int .i64 (fd : Int), .slice A n c] w fun e w' => e = .returned (.tuple #[.int .i64 0, .int .i64 (wErr (S.next fl))]) /\ RK w' M k q tp x0 x1 x2 fl now S.inb S.said (S.took fl) /\ Turns [k] w w' := by
 obtain ⟨v, hxb, hv⟩ := hth
 have t0 : w.cell? ⟨q, 0, none⟩ = some (.pointer (some ⟨k, 0, none⟩)) := h.tab.cell 0
 have t1 : w.cell? ⟨q, 1 + fd, none⟩ = some (.int .i64 ((i : Int) + 1)) := (h.tab.cell _).trans ht
 have lq := h.tab.lt
 have hthg : ∀ W, Below w.heap.size w W -> Calls Tryz.prog 49 #[.pointer (some ⟨k, 0, none⟩), .int .i64 ((i : Int) + 1)] W fun e w' => e = .returned (.pointer (some ⟨x, 0, none⟩)) /\ w' = W := fun W hW => refThing W M k tp [q] [x0, x1, x2] fl S.used now (h.kern.below hW) (by simp) i x hx
 have hfa := fun W (hW : Below w.heap.size w W) => refFault W M k tp [q] [x0, x1, x2] fl S.used now (h.kern.below hW) h.used h.few
 simp only [<- next_eq, <- took_eq] at hfa
 have hun : S.took fl <= fl.length := (PF.took_le h.used).1
 obtain ⟨f1, f2, hff⟩ : ∃ f1 f2, S.next fl = (f1, f2) := ⟨_, _, rfl⟩
 rw [hff] at hf ⊢
 simp only [hff] at hfa
 have hcase : (f1 = 2 /\ wErr (f1, f2) = 9) \/ (f1 = 4 /\ wErr (f1, f2) = 7) \/ (f1 = 3 /\ wErr (f1, f2) = 6) \/ (f1 = 5 /\ wErr (f1, f2) = 8) := by
  unfold wErr at hf ⊢
  dsimp only at hf ⊢
  by_cases e2 : f1 = 2
  · exact .inl ⟨e2, by rw [if_pos e2]⟩
  by_cases e4 : f1 = 4
  · exact .inr (.inl ⟨e4, by rw [if_neg e2, if_pos e4]⟩)
  by_cases e3 : f1 = 3
  · exact .inr (.inr (.inl ⟨e3, by rw [if_neg e2, if_neg e4, if_pos e3]⟩))
  by_cases e5 : f1 = 5
  · exact .inr (.inr (.inr ⟨e5, by rw [if_neg e2, if_neg e4, if_neg e3, if_pos e5]⟩))
  rw [if_neg e2, if_neg e4, if_neg e3, if_neg e5] at hf
  exact absurd rfl hf
 obtain ⟨er, her⟩ : ∃ er, wErr (f1, f2) = er := ⟨_, rfl⟩
 rw [her] at hcase ⊢
 have HF := Lib.hid hfa
 have HTH := Lib.hid hthg
 have HH := Lib.hid h
 have HUN := Lib.hid hun
 have HXB := Lib.hid hxb
 have hn0 : ((n : Int) == 0) = false := by simp; omega
 have hf0 : (0 : Int) <= (fd : Int) := by omega
 have hf1 : (fd : Int) < 16 := by omega
 clear hfa hthg h hun hxb hv hff hf her hn ht hx
 go_enter Tryz.func89, Tryz.ntmps89
 go_wp2_with (go_at_call 48; refine (refIs fd hfd w).mono ?_; rintro e1 w1 ⟨rfl, h1⟩; obtain rfl : w = w1 := h1.symm)
 go_region_held3 (fun W => W.cell? ⟨q, 0, none⟩ = some (.pointer (some ⟨k, 0, none⟩)) /\ W.cell? ⟨q, 1 + fd, none⟩ = some (.int .i64 ((i : Int) + 1)))
  (first | (go_split_ands; refine ⟨?_, ?_⟩ <;> assumption) | go_keep)
  (first | (go_at_call 49; refine (HTH.out _ (by first | exact Below.refl _ _ | exact below_drewN' (Below.refl _ _))).mono ?_; rintro e1 w1 ⟨rfl, rfl⟩))
 obtain ⟨V, hV⟩ : ∃ V, w.drew = V := ⟨_, rfl⟩
 have HV := Lib.hid (show Below w.heap.size w V by rw [<- hV]; exact below_drewN' (Below.refl _ _))
 have t0 : V.cell? ⟨q, 0, none⟩ = some (.pointer (some ⟨k, 0, none⟩)) := by rw [<- hV]; exact t0
 have lq : q < V.heap.size := by rw [<- hV]; exact lq
 have xV := Blk.on HXB.out HV.out
 have x00 : V.cell? ⟨x, 0, none⟩ = some (.int .i64 2) := xV.cell 0
 have lx := xV.lt
 rw [hV]
 clear hV xV
 rcases hcase with ⟨rfl, rfl⟩ | ⟨rfl, rfl⟩ | ⟨rfl, rfl⟩ | ⟨rfl, rfl⟩
 · go_wp2_with (go_at_call 115; refine (HF.out _ HV.out).mono ?_; rintro e2 w2 ⟨rfl, hK2, hT2⟩)
   go_returns
   exact ⟨rfl, ((HH.out.below HV.out).turned hK2 hT2 HUN.out).below (below_one w2 _), (((Turns.ofB HV.out).trans hT2).alloc _)⟩
 · go_wp2_with (go_at_call 115; refine (HF.out _ HV.out).mono ?_; rintro e2 w2 ⟨rfl, hK2, hT2⟩)
   go_returns
   exact ⟨rfl, ((HH.out.below HV.out).turned hK2 hT2 HUN.out).below (below_one w2 _), (((Turns.ofB HV.out).trans hT2).alloc _)⟩
 · go_wp2_with (go_at_call 115; refine (HF.out _ HV.out).mono ?_; rintro e2 w2 ⟨rfl, hK2, hT2⟩)
   go_returns
   exact ⟨rfl, ((HH.out.below HV.out).turned hK2 hT2 HUN.out).below (below_one w2 _), (((Turns.ofB HV.out).trans hT2).alloc _)⟩
 · go_wp2_with (go_at_call 115; refine (HF.out _ HV.out).mono ?_; rintro e2 w2 ⟨rfl, hK2, hT2⟩)
   go_returns
   exact ⟨rfl, ((HH.out.below HV.out).turned hK2 hT2 HUN.out).below (below_one w2 _), (((Turns.ofB HV.out).trans hT2).alloc _)⟩
set_option maxHeartbeats 4000000 in
theorem refWriteOk (h : RK w M k q tp x0 x1 x2 fl now S.inb S.said S.used) (hM : M <= w.heap.size) (fd i x : Nat) (hfd : fd < 16) (ht : (tabC k 1 2 3)[1 + fd]? = some (.int .i64 ((i : Int) + 1))) (hi0 : (((i : Int) + 1) == 0) = false) (hx : [x0, x1, x2][i]? = some x) (l : List UInt8) (hth : RThing w M x 2 l) (A : Option Addr) (n c : Nat) (hc : n <= c) (hn : 0 < n) (bs : List UInt8) (hbn : bs.length = n) (hbr : ∀ W, Turns [k] w W -> Reads W W.heap.size 1 A n (bytesC bs)) (hl : l.length + n <= 140737488355328) (hf : wErr (S.next fl) = 0) (a : Nat) (ha : S.some_ fl n = a) :
 Calls Tryz.prog 89 #[.pointer (some ⟨q, 0, none⟩), .int .i64 (fd : Int), .slice A n c] w fun e w' => e = .returned (.tuple #[.int .i64 (a : Int), .int .i64 0]) /\ ∃ w4, RK w4 M k q tp x0 x1 x2 fl now S.inb S.said (S.took fl) /\ Turns [k] w w4 /\ Turns [x] w4 w' /\ RThing w' M x 2 (l ++ bs.take a) := by
 have han : a <= n := by rw [<- ha]; exact PF.some_le _
 have hsh0 := PF.some_eq (fl := fl) (s := S) n
 rw [ha] at hsh0
 obtain ⟨v, hxb, hv⟩ := id hth
 have t0 : w.cell? ⟨q, 0, none⟩ = some (.pointer (some ⟨k, 0, none⟩)) := h.tab.cell 0
 have t1 : w.cell? ⟨q, 1 + fd, none⟩ = some (.int .i64 ((i : Int) + 1)) := (h.tab.cell _).trans ht
 have lq := h.tab.lt
 have hthg : ∀ W, Below w.heap.size w W -> Calls Tryz.prog 49 #[.pointer (some ⟨k, 0, none⟩), .int .i64 ((i : Int) + 1)] W fun e w' => e = .returned (.pointer (some ⟨x, 0, none⟩)) /\ w' = W := fun W hW => refThing W M k tp [q] [x0, x1, x2] fl S.used now (h.kern.below hW) (by simp) i x hx
 have hfa := fun W (hW : Below w.heap.size w W) => refFault W M k tp [q] [x0, x1, x2] fl S.used now (h.kern.below hW) h.used h.few
 simp only [<- next_eq, <- took_eq] at hfa
 have hun : S.took fl <= fl.length := (PF.took_le h.used).1
 obtain ⟨f1, f2, hff⟩ : ∃ f1 f2, S.next fl = (f1, f2) := ⟨_, _, rfl⟩
 rw [hff] at hf hsh0
 simp only [hff] at hfa
 have hcase : (f1 == 2) = false /\ (f1 == 4) = false /\ (f1 == 3) = false /\ (f1 == 5) = false := by
  unfold wErr at hf
  dsimp only at hf
  refine ⟨?_, ?_, ?_, ?_⟩ <;> (rw [beq_eq_false_iff_ne]; rintro rfl; simp at hf)
 obtain ⟨hb2, hb4, hb3, hb5⟩ := hcase
 have hsh := fun W => refShort W (n : Int) (f1, f2)
 rw [hsh0] at hsh
 dsimp only at hsh
 obtain ⟨iB, hiB, hB0, hB1, hB2⟩ := info_parts Tryz.infoByte
 have hfr := fun W => run_front (P := Tryz.prog) 23 5 iB Tryz.underlying23 hiB A n c a (by omega) W
 have hx0k : x ≠ k := by
  obtain ⟨lv, tv, fv, a, _⟩ := h.kern.mem
  exact Blk.ne_ hxb a (by decide)
 have hqx : q ≠ x := Blk.ne_ h.tab hxb (by decide)
 have hland : ∀ W, Turns [k] w W -> RK W M k q tp x0 x1 x2 fl now S.inb S.said (S.took fl) -> Calls Tryz.prog 119 #[.pointer (some ⟨k, 0, none⟩), .pointer (some ⟨x, 0, none⟩), .slice A a c] W fun e w' => e = .returned (.tuple #[]) /\ (∃ w4, RK w4 M k q tp x0 x1 x2 fl now S.inb S.said (S.took fl) /\ Turns [k] w w4 /\ Turns [x] w4 w' /\ RThing w' M x 2 (l ++ bs.take a)) /\ w'.cell? ⟨q, 0, none⟩ = some (.pointer (some ⟨k, 0, none⟩)) := fun W hT hK => by
  have hthW : RThing W M x 2 l := hth.turns hT (by rw [List.mem_singleton]; exact hx0k) (fun g hg => by
   obtain ⟨lv, tv, fv, a, _⟩ := h.kern.mem
   rw [List.mem_singleton.1 hg]
   exact ⟨_, _, a, by decide⟩)
  have hr := (hbr W hT).front han
  rw [<- bytesC_take] at hr
  refine (refLands W M k x l (bs.take a) hthW (Nat.le_trans hM hT.size) A a c (by rw [List.length_take]; omega) hr (by omega)).mono ?_
  rintro e w' ⟨rfl, h1, h2⟩
  have hq5 : Blk w' q _ _ := (h2.block _ hK.tab.lt (by rw [List.mem_singleton]; exact hqx)).trans hK.tab
  exact ⟨rfl, ⟨W, hK, hT, h2, h1⟩, hq5.cell 0⟩
 have HF := Lib.hid hfa
 have HTH := Lib.hid hthg
 have HH := Lib.hid h
 have HUN := Lib.hid hun
 have HXB := Lib.hid hxb
 have HSH := Lib.hid hsh
 have HLD := Lib.hid hland
 have hn0 : ((n : Int) == 0) = false := by simp; omega
 have hf0 : (0 : Int) <= (fd : Int) := by omega
 have hf1 : (fd : Int) < 16 := by omega
 clear hfa hthg h hun hxb hv hff hf hn ht hx hth hsh hsh0 hland hbr hB0 hB1 hB2 hiB ha
 go_enter Tryz.func89, Tryz.ntmps89
 go_wp2_with (go_at_call 48; refine (refIs fd hfd w).mono ?_; rintro e1 w1 ⟨rfl, h1⟩; obtain rfl : w = w1 := h1.symm)
 go_region_held3 (fun W => W.cell? ⟨q, 0, none⟩ = some (.pointer (some ⟨k, 0, none⟩)) /\ W.cell? ⟨q, 1 + fd, none⟩ = some (.int .i64 ((i : Int) + 1)))
  (first | (go_split_ands; refine ⟨?_, ?_⟩ <;> assumption) | go_keep)
  (first | (go_at_call 49; refine (HTH.out _ (by first | exact Below.refl _ _ | exact below_drewN' (Below.refl _ _))).mono ?_; rintro e1 w1 ⟨rfl, rfl⟩))
 obtain ⟨V, hV⟩ : ∃ V, w.drew = V := ⟨_, rfl⟩
 have HV := Lib.hid (show Below w.heap.size w V by rw [<- hV]; exact below_drewN' (Below.refl _ _))
 have t0 : V.cell? ⟨q, 0, none⟩ = some (.pointer (some ⟨k, 0, none⟩)) := by rw [<- hV]; exact t0
 have lq : q < V.heap.size := by rw [<- hV]; exact lq
 have xV := Blk.on HXB.out HV.out
 have x00 : V.cell? ⟨x, 0, none⟩ = some (.int .i64 2) := xV.cell 0
 have lx := xV.lt
 have XV := Lib.hid xV
 rw [hV]
 clear hV xV
 go_upto_region 38 with (first
  | (go_at_call 115; refine (HF.out _ HV.out).mono ?_; rintro e2 w2 ⟨rfl, hK2, hT2⟩
     have r2 := ((HH.out.below HV.out).turned hK2 hT2 HUN.out)
     have b2 : Blk w2 x _ _ := (hT2.block _ XV.out.lt (by rw [List.mem_singleton]; exact hx0k)).trans XV.out
     have x00 : w2.cell? ⟨x, 0, none⟩ = some (.int .i64 2) := b2.cell 0
     have lx := b2.lt
     have R2 := Lib.hid (And.intro r2 ((Turns.ofB (F := [k]) HV.out).trans hT2)))
  | (go_at_call 117; refine (HSH.out _).mono ?_; rintro e3 w3 ⟨rfl, hb3'⟩
     have hb23 := below_thru (below_one w2 _) hb3'
     have r3 := R2.out.1.below hb23
     have t30 : w3.cell? ⟨q, 0, none⟩ = some (.pointer (some ⟨k, 0, none⟩)) := r3.tab.cell 0
     have lq3 := r3.tab.lt
     have R3 := Lib.hid (And.intro r3 (R2.out.2.then (Turns.ofB (F := []) hb23) (by simp)))))
 have HL3 : ∀ W, Below w3.heap.size w3 W -> Turns [k] w W /\ RK W M k q tp x0 x1 x2 fl now S.inb S.said (S.took fl) := fun W hW => ⟨R3.out.2.then (Turns.ofB (F := []) hW) (by simp), R3.out.1.below hW⟩
 have HL3 := Lib.hid HL3
 clear r3 hK2 hT2 r2 b2 hb3' hb23
 go_region_held3 (fun W => W.cell? ⟨q, 0, none⟩ = some (.pointer (some ⟨k, 0, none⟩)))
  (first | assumption | go_keep)
  (first | (go_at_call 119; refine (HLD.out _ (HL3.out _ (by first | exact Below.refl _ _ | exact below_drewN' (Below.refl _ _))).1 (HL3.out _ (by first | exact Below.refl _ _ | exact below_drewN' (Below.refl _ _))).2).mono ?_; rintro e4 w5 ⟨rfl, h5, t5⟩))
 go_wp2_with fail
 go_returns
 exact ⟨rfl, h5⟩
end
end
section
set_option maxRecDepth 100000
open Go.RowKit Go.Maps Go.Shelf
structure Goes (M : Nat) (w w' : World) : Prop where
 below : Below M w w'
 bytes : ∀ g cs, Blk w g 5 cs -> Blk w' g 5 cs
theorem Goes.refl (M : Nat) (w : World) : Goes M w w := ⟨Below.refl _ _, fun _ _ h => h⟩
theorem Goes.trans {M : Nat} {w w' w'' : World} (h : Goes M w w') (h' : Goes M w' w'') : Goes M w w'' := ⟨h.below.trans h'.below, fun g cs hb => h'.bytes g cs (h.bytes g cs hb)⟩
theorem Goes.of_turns {M : Nat} {w w' : World} {F : List Nat} (hT : Turns F w w') (hM : M <= w.heap.size) (hF : ∀ g ∈ F, M <= g /\ ∃ ty cs, Blk w g ty cs /\ ty ≠ 5) : Goes M w w' :=
 ⟨hT.below hM fun g hg => (hF g hg).1, fun g cs hb => (hT.block g hb.lt fun hm => by
  obtain ⟨_, ty, cs', hb', hne⟩ := hF g hm
  exact Blk.ne_ hb hb' (fun e => hne e.symm) rfl).trans hb⟩
def Still (w : World) (M : Nat) (A : Option Addr) (n c : Nat) (bs : List UInt8) : Prop := bs.length = n /\ n <= c /\ ∀ w', Goes M w w' -> Reads w' w'.heap.size 1 A n (bytesC bs)
theorem Still.goes {w w' : World} {M : Nat} {A : Option Addr} {n c : Nat} {bs : List UInt8} (h : Still w M A n c bs) (hg : Goes M w w') : Still w' M A n c bs := ⟨h.1, h.2.1, fun w'' h' => h.2.2 w'' (hg.trans h')⟩
theorem Still.reads {w : World} {M : Nat} {A : Option Addr} {n c : Nat} {bs : List UInt8} (h : Still w M A n c bs) : Reads w w.heap.size 1 A n (bytesC bs) := h.2.2 w (Goes.refl _ _)
theorem Still.of_off {w : World} {M : Nat} {A : Option Addr} {n c : Nat} {bs : List UInt8} (h : OffRow w M 5 (.slice A n c) n (bytesC bs)) : Still w M A n c bs := by
 obtain ⟨A', c', e, hc, _⟩ := h.form
 cases e
 refine ⟨by have := h.1; simpa [bytesC] using this, hc, fun w' hg => ?_⟩
 have h' : OffRow w' M 5 (.slice A n c) n (bytesC bs) := h.same fun g hv => by
  rcases h.2 with ⟨e, _⟩ | ⟨g', off, cap, cur, e, _, hb, _⟩
  · rw [e] at hv; simp [Value.ownBlock] at hv
  · rw [e] at hv
    obtain rfl : g' = g := by simpa [Value.ownBlock] using hv
    exact (hg.bytes g' cur hb).trans (show w.heap[g']? = _ from hb).symm
 obtain ⟨A', c', e, _, hr⟩ := h'.form
 cases e
 exact hr
theorem Still.of_reads {w : World} {M : Nat} {A : Option Addr} {n c : Nat} {bs : List UInt8} (hn : bs.length = n) (hc : n <= c) (h : Reads w M 1 A n (bytesC bs)) (hM : M <= w.heap.size) : Still w M A n c bs :=
 ⟨hn, hc, fun _ hg => (h.below hg.below).more (Nat.le_trans hM hg.below.size)⟩
theorem Still.cut {w : World} {M : Nat} {A : Option Addr} {n c : Nat} {bs : List UInt8} (h : Still w M A n c bs) {k : Nat} (hk : k <= n) : Still w M (cutA A c k 1) (n - k) (c - k) (bs.drop k) := by
 refine ⟨by rw [List.length_drop, h.1], by have := h.2.1; omega, fun w' hg => ?_⟩
 have := (h.2.2 w' hg).cutA hk h.2.1
 rw [Nat.mul_one, <- bytesC_drop] at this
 exact this
structure RSt (w : World) (M k q tp r x0 x1 x2 : Nat) (fl : List (Int × Int)) (now : Int) (S : PF) (st : Int) (ov : Bool) : Prop where
 rk : RK w M k q tp x0 x1 x2 fl now S.inb S.said S.used
 run : Blk w r 61 #[.pointer (some ⟨q, 0, none⟩), .int .i64 (S.steps : Int), .int .i64 S.held, .int .i64 S.peak, .int .i64 st, .bool ov]
 low : M <= r /\ M <= w.heap.size
section
variable {w w' : World} {M k q tp r x0 x1 x2 : Nat} {fl : List (Int × Int)} {now : Int} {S S' : PF} {st st' : Int} {ov ov' : Bool}
theorem RK.apart {inb : List UInt8} {said : Bool -> List UInt8} {used : Nat} (h : RK w M k q tp x0 x1 x2 fl now inb said used) {cs : Array Value} (hr : Blk w r 61 cs) (hT : Turns [r] w w') : RK w' M k q tp x0 x1 x2 fl now inb said used := by
 have hF : ∀ g ∈ [r], ∃ ty cs, Blk w g ty cs /\ ty ≠ 71 /\ ty ≠ 120 /\ ty ≠ 58 /\ ty ≠ 44 := fun g hg => by rw [List.mem_singleton.1 hg]; exact ⟨_, _, hr, by decide, by decide, by decide, by decide⟩
 have th : ∀ {x : Nat} {kind : Int} {l : List UInt8}, RThing w M x kind l -> RThing w' M x kind l := fun hx => hx.turns hT (by
  obtain ⟨cs, hb⟩ := hx.block
  rw [List.mem_singleton]
  exact Blk.ne_ hb hr (by decide)) (fun g hg => by rw [List.mem_singleton.1 hg]; exact ⟨_, _, hr, by decide⟩)
 exact ⟨h.kern.turns hT hF, (hT.block _ h.tab.lt (by rw [List.mem_singleton]; exact Blk.ne_ h.tab hr (by decide))).trans h.tab, th h.src, th h.out, th h.err, h.ne, h.low, h.used, h.few⟩
theorem RSt.runs (h : RSt w M k q tp r x0 x1 x2 fl now S st ov) (i : Nat) (u : Value) (hc : (#[.pointer (some ⟨q, 0, none⟩), .int .i64 (S.steps : Int), .int .i64 S.held, .int .i64 S.peak, .int .i64 st, .bool ov] : Array Value).setIfInBounds i u = #[.pointer (some ⟨q, 0, none⟩), .int .i64 (S'.steps : Int), .int .i64 S'.held, .int .i64 S'.peak, .int .i64 st', .bool ov']) (he : S'.inb = S.inb /\ S'.said = S.said /\ S'.used = S.used) : RSt (w.setCell ⟨r, i, none⟩ u) M k q tp r x0 x1 x2 fl now S' st' ov' /\ Goes M w (w.setCell ⟨r, i, none⟩ u) := by
 have hT : Turns [r] w (w.setCell ⟨r, i, none⟩ u) := (Turns.refl _ w).setCell _ _ (fun _ => List.mem_singleton.2 rfl)
 refine ⟨⟨by rw [he.1, he.2.1, he.2.2]; exact h.rk.apart h.run hT, by rw [<- hc]; exact h.run.set_ i u, h.low.1, by rw [World.size_setCell]; exact h.low.2⟩, Goes.of_turns hT h.low.2 fun g hg => ?_⟩
 rw [List.mem_singleton.1 hg]
 exact ⟨h.low.1, _, _, h.run, by decide⟩
theorem RSt.went (h : RSt w M k q tp r x0 x1 x2 fl now S st ov) {F : List Nat} (hF : ∀ g ∈ F, g = k \/ g = x0 \/ g = x1 \/ g = x2) (hT : Turns F w w') (hK : RK w' M k q tp x0 x1 x2 fl now S'.inb S'.said S'.used) (he : S'.steps = S.steps /\ S'.held = S.held /\ S'.peak = S.peak) : RSt w' M k q tp r x0 x1 x2 fl now S' st ov /\ Goes M w w' := by
 have hB : ∀ g ∈ F, M <= g /\ ∃ ty cs, Blk w g ty cs /\ ty ≠ 5 /\ ty ≠ 61 := fun g hg => by
  rcases hF g hg with rfl | rfl | rfl | rfl
  · obtain ⟨lv, tv, fv, a, _⟩ := h.rk.kern.mem
    exact ⟨h.rk.kern.low, _, _, a, by decide, by decide⟩
  · obtain ⟨cs, hb⟩ := h.rk.src.block
    exact ⟨h.rk.low.2.1, _, _, hb, by decide, by decide⟩
  · obtain ⟨cs, hb⟩ := h.rk.out.block
    exact ⟨h.rk.low.2.2.1, _, _, hb, by decide, by decide⟩
  · obtain ⟨cs, hb⟩ := h.rk.err.block
    exact ⟨h.rk.low.2.2.2, _, _, hb, by decide, by decide⟩
 refine ⟨⟨hK, ?_, h.low.1, Nat.le_trans h.low.2 hT.size⟩, Goes.of_turns hT h.low.2 fun g hg => ?_⟩
 · rw [he.1, he.2.1, he.2.2]
   refine (hT.block _ h.run.lt fun hm => ?_).trans h.run
   obtain ⟨_, ty, cs, hb, _, hne⟩ := hB _ hm
   exact Blk.ne_ h.run hb (fun e => hne e.symm) rfl
 · obtain ⟨h1, ty, cs, hb, h2, _⟩ := hB g hg
   exact ⟨h1, ty, cs, hb, h2⟩
theorem RSt.below (h : RSt w M k q tp r x0 x1 x2 fl now S st ov) (hb : Below w.heap.size w w') : RSt w' M k q tp r x0 x1 x2 fl now S st ov /\ Goes M w w' :=
 h.went (F := []) (by simp) (Turns.ofB hb) (h.rk.below hb) ⟨rfl, rfl, rfl⟩
end
structure ReadsSt (M k q tp r x0 x1 x2 : Nat) (fl : List (Int × Int)) (now : Int) (w0 : World) (m : Nat) (st : Int) (R : PF × Option (List UInt8)) (S : PF) (w : World) : Prop where
 run : RSt w M k q tp r x0 x1 x2 fl now S st false
 goes : Goes M w0 w
 ends : ∃ f, S.left fl < f /\ PF.reads fl f S m = R
 steps : S.steps + S.left fl + S.inb.length + 2 < 4611686018427387904
 inb : S.inb.length <= 1048576
section
variable {w : World} {M k q tp r x0 x1 x2 : Nat} {fl : List (Int × Int)} {now : Int} {S : PF} {st : Int}
set_option maxHeartbeats 4000000 in
theorem refReads (h : RSt w M k q tp r x0 x1 x2 fl now S st false) (m : Nat) (hm : 1 <= m) (hm2 : (m : Int) <= 9223372036854775807) (R : PF × Option (List UInt8)) (hR : PF.reads fl (S.left fl + 1) S m = R) (hs : S.steps + S.left fl + S.inb.length + 2 < 4611686018427387904) (hi : S.inb.length <= 1048576) :
 Calls Tryz.prog 52 #[.pointer (some ⟨r, 0, none⟩), .int .i64 (m : Int)] w fun e w' => Goes M w w' /\ ((R.2 = none /\ e = .returned (.slice none 0 0) /\ RSt w' M k q tp r x0 x1 x2 fl now R.1 1 true) \/ ∃ bs A n c, R.2 = some bs /\ e = .returned (.slice A n c) /\ Still w' M A n c bs /\ RSt w' M k q tp r x0 x1 x2 fl now R.1 st false) := by
 have H0 : Hid (ReadsSt M k q tp r x0 x1 x2 fl now w m st R S w) := Lib.hid ⟨h, Goes.refl _ _, ⟨_, Nat.lt_succ_self _, hR⟩, hs, hi⟩
 clear h hR hs hi
 go_enter Tryz.func52, Tryz.ntmps52
 go_wp2_with fail
 go_loopg [] (S.left fl) (fun a wr => ∃ S', a = S'.left fl /\ Hid (ReadsSt M k q tp r x0 x1 x2 fl now w m st R S' wr))
 case atStart => exact ⟨S, rfl, H0⟩
 case round =>
  obtain ⟨S', rfl, HS⟩ := hrel
  have hsz := HS.out.steps
  have hb := HS.out.run.run
  have r0 : wr.cell? ⟨r, 0, none⟩ = some (.pointer (some ⟨q, 0, none⟩)) := hb.cell 0
  have lr := hb.lt
  obtain ⟨sp, hsp⟩ : ∃ sp : Nat, S'.steps = sp := ⟨_, rfl⟩
  have hul := HS.out.run.rk.used
  have c1 : ∀ (W : World) (S2 : PF), S2.steps = S'.steps -> RSt W M k q tp r x0 x1 x2 fl now S2 st false -> W.cell? ⟨r, 1, none⟩ = some (.int .i64 (sp : Int)) /\ W.frozen? ⟨r, 1, none⟩ = false /\ W.cell? ⟨r, 4, none⟩ = some (.int .i64 st) /\ W.cell? ⟨r, 5, none⟩ = some (.bool false) /\ W.frozen? ⟨r, 4, none⟩ = false /\ W.frozen? ⟨r, 5, none⟩ = false /\ r < W.heap.size := fun W S2 e hW => ⟨by rw [<- hsp, <- e]; exact hW.run.cell 1, hW.run.frozen 1, hW.run.cell 4, hW.run.cell 5, hW.run.frozen 4, hW.run.frozen 5, hW.run.lt⟩
  have HC1 := Lib.hid c1
  have HSP := Lib.hid hsp
  have hspl : (sp : Int) + 1 < 4611686018427387904 := by omega
  clear c1 hb hsp
  by_cases h2 : (S'.next fl).1 = 2
  · have hrd := refReadNo HS.out.run.rk (m : Int) (by omega) 9 (.inl ⟨h2, rfl⟩)
    have ht := PF.took_lt (fl := fl) (s := S') (.inr h2) hul
    have hnx : ∀ w1, RK w1 M k q tp x0 x1 x2 fl now S'.inb S'.said (S'.took fl) -> Turns [k] wr w1 -> RSt w1 M k q tp r x0 x1 x2 fl now { S' with used := S'.took fl } st false /\ Goes M wr w1 := fun w1 hK hT => HS.out.run.went (S' := { S' with used := S'.took fl }) (fun g hg => .inl (List.mem_singleton.1 hg)) hT hK ⟨rfl, rfl, rfl⟩
    have HRD := Lib.hid hrd
    have HNX := Lib.hid hnx
    have HT := Lib.hid (And.intro h2 ht)
    clear hrd hnx ht h2 hul hsz
    go_wp2_with (go_at_call 88; refine HRD.out.mono ?_; rintro e1 w1 ⟨rfl, hK1, hT1⟩
                 obtain ⟨hR1, hG1⟩ := HNX.out w1 hK1 hT1
                 obtain ⟨a1, a2, a3, a4, a5, a6, a7⟩ := HC1.out w1 { S' with used := S'.took fl } rfl hR1)
    have hstp : (((S'.failed fl).steps : Nat) : Int) = (sp : Int) + 1 := by
     show ((S'.steps + 1 : Nat) : Int) = _
     rw [HSP.out]; omega
    obtain ⟨hR2, hG2⟩ := hR1.runs (S' := S'.failed fl) (st' := st) (ov' := false) 1 (.int .i64 ((sp : Int) + 1)) (by rw [hstp]; rfl) ⟨rfl, rfl, rfl⟩
    have hll : (S'.failed fl).left fl + 1 = S'.left fl := by
     have h1 : (S'.failed fl).left fl = fl.length - S'.took fl := rfl
     have h2 : S'.left fl = fl.length - S'.used := rfl
     have := HT.out.2
     omega
    go_roundg ((S'.failed fl).left fl)
    case rel =>
     refine ⟨_, rfl, Lib.hid ⟨hR2, (HS.out.goes.trans hG1).trans hG2, ?_, ?_, HS.out.inb⟩⟩
     · obtain ⟨f, hf, hR⟩ := HS.out.ends
       cases f with
       | zero => omega
       | succ f => exact ⟨f, by omega, by rw [<- hR, PF.reads, if_pos HT.out.1]⟩
     · have h1 : (S'.failed fl).steps = S'.steps + 1 := rfl
       have h2 : (S'.failed fl).inb = S'.inb := rfl
       have := HS.out.steps
       rw [h1, h2]; omega
    case measure => omega
  · by_cases h4 : (S'.next fl).1 = 4
    · have hrd := refReadNo HS.out.run.rk (m : Int) (by omega) 7 (.inr ⟨h4, rfl⟩)
      have hnx : ∀ w1, RK w1 M k q tp x0 x1 x2 fl now S'.inb S'.said (S'.took fl) -> Turns [k] wr w1 -> RSt w1 M k q tp r x0 x1 x2 fl now { S' with used := S'.took fl } st false /\ Goes M wr w1 := fun w1 hK hT => HS.out.run.went (S' := { S' with used := S'.took fl }) (fun g hg => .inl (List.mem_singleton.1 hg)) hT hK ⟨rfl, rfl, rfl⟩
      have hRR : R = (S'.failed fl, none) := by
       obtain ⟨f, hf, hR⟩ := HS.out.ends
       cases f with
       | zero => omega
       | succ f => rw [<- hR, PF.reads, if_neg h2, if_pos h4]
      have HRD := Lib.hid hrd
      have HNX := Lib.hid hnx
      have HRR := Lib.hid hRR
      clear hrd hnx h2 h4 hul hsz hRR
      go_wp2_with (go_at_call 88; refine HRD.out.mono ?_; rintro e1 w1 ⟨rfl, hK1, hT1⟩
                   obtain ⟨hR1, hG1⟩ := HNX.out w1 hK1 hT1
                   obtain ⟨a1, a2, a3, a4, a5, a6, a7⟩ := HC1.out w1 { S' with used := S'.took fl } rfl hR1)
      go_returns
      have hstp : (((S'.failed fl).steps : Nat) : Int) = (sp : Int) + 1 := by
       show ((S'.steps + 1 : Nat) : Int) = _
       rw [HSP.out]; omega
      obtain ⟨hR2, hG2⟩ := hR1.runs (S' := S'.failed fl) (st' := st) (ov' := false) 1 (.int .i64 ((sp : Int) + 1)) (by rw [hstp]; rfl) ⟨rfl, rfl, rfl⟩
      obtain ⟨hR3, hG3⟩ := hR2.runs (S' := S'.failed fl) (st' := st) (ov' := true) 5 (.bool true) rfl ⟨rfl, rfl, rfl⟩
      obtain ⟨hR4, hG4⟩ := hR3.runs (S' := S'.failed fl) (st' := 1) (ov' := true) 4 (.int .i64 1) rfl ⟨rfl, rfl, rfl⟩
      exact ⟨(((HS.out.goes.trans hG1).trans hG2).trans hG3).trans hG4, .inl ⟨by rw [HRR.out], rfl, by rw [HRR.out]; exact hR4⟩⟩
    · obtain ⟨a, ha⟩ : ∃ a, S'.some_ fl (min m S'.inb.length) = a := ⟨_, rfl⟩
      have hrd := refReadOk HS.out.run.rk m hm hm2 HS.out.inb h2 h4 a ha
      have hnx : ∀ w1, RK w1 M k q tp x0 x1 x2 fl now (S'.inb.drop a) S'.said (S'.took fl) -> Turns [k, x0] wr w1 -> RSt w1 M k q tp r x0 x1 x2 fl now { S' with inb := S'.inb.drop a, used := S'.took fl } st false /\ Goes M wr w1 := fun w1 hK hT => HS.out.run.went (S' := { S' with inb := S'.inb.drop a, used := S'.took fl }) (fun g hg => by
       rcases List.mem_cons.1 hg with rfl | hg
       · exact .inl rfl
       · exact .inr (.inl (List.mem_singleton.1 hg))) hT hK ⟨rfl, rfl, rfl⟩
      have hRR : R = (S'.read fl a, some (S'.inb.take a)) := by
       obtain ⟨f, hf, hR⟩ := HS.out.ends
       cases f with
       | zero => omega
       | succ f => rw [<- hR, PF.reads, if_neg h2, if_neg h4, ha]
      have HRD := Lib.hid hrd
      have HNX := Lib.hid hnx
      have HRR := Lib.hid hRR
      clear hrd hnx h2 h4 hul hsz hRR ha
      go_wp2_with (go_at_call 88; refine HRD.out.mono ?_; rintro e1 w1 ⟨A1, c1, rfl, hO1, hK1, hT1⟩
                   obtain ⟨hR1, hG1⟩ := HNX.out w1 hK1 hT1
                   obtain ⟨a1, a2, a3, a4, a5, a6, a7⟩ := HC1.out w1 { S' with inb := S'.inb.drop a, used := S'.took fl } rfl hR1)
      go_returns
      have hstp : (((S'.read fl a).steps : Nat) : Int) = (sp : Int) + 1 := by
       show ((S'.steps + 1 : Nat) : Int) = _
       rw [HSP.out]; omega
      obtain ⟨hR2, hG2⟩ := hR1.runs (S' := S'.read fl a) (st' := st) (ov' := false) 1 (.int .i64 ((sp : Int) + 1)) (by rw [hstp]; rfl) ⟨rfl, rfl, rfl⟩
      exact ⟨(HS.out.goes.trans hG1).trans hG2, .inr ⟨S'.inb.take a, A1, a, c1, by rw [HRR.out], rfl, (Still.of_off hO1).goes hG2, by rw [HRR.out]; exact hR2⟩⟩
end
end
section
set_option maxRecDepth 100000
open Go.RowKit Go.Maps Go.Shelf
section
variable {w w' : World} {M k q tp r x0 x1 x2 : Nat} {fl : List (Int × Int)} {now : Int} {S S' : PF} {st st' : Int} {ov ov' : Bool}
theorem RK.told {w4 : World} {inb : List UInt8} {said : Bool -> List UInt8} {used : Nat} (b : Bool) (h : RK w4 M k q tp x0 x1 x2 fl now inb said used) {t : List UInt8} (hT : Turns [if b then x1 else x2] w4 w') (ht : RThing w' M (if b then x1 else x2) 2 (said b ++ t)) : RK w' M k q tp x0 x1 x2 fl now inb (fun b' => if b' = b then said b ++ t else said b') used := by
 have n1 := h.ne.1
 have n2 := h.ne.2.1
 have n3 := h.ne.2.2
 cases b with
 | true =>
   refine h.thing h.out.block hT ?_ ?_ ?_
   · rw [if_neg (fun e => n1 e.symm)]
   · rw [if_pos rfl]; exact ht
   · rw [if_neg n3]; rfl
 | false =>
   refine h.thing h.err.block hT ?_ ?_ ?_
   · rw [if_neg (fun e => n2 e.symm)]
   · rw [if_neg (fun e => n3 e.symm)]; rfl
   · rw [if_pos rfl]; exact ht
theorem RK.at_ {inb : List UInt8} {said : Bool -> List UInt8} {used : Nat} (b : Bool) (h : RK w M k q tp x0 x1 x2 fl now inb said used) : RThing w M (if b then x1 else x2) 2 (said b) := by
 cases b
 · exact h.err
 · exact h.out
def endSt (st a : Int) : Int := if 0 <= a then a else st
def endOv (a : Int) : Bool := decide (0 <= a)
def ovW : Bool -> Nat
 | true => 0
 | false => 1
structure WritesSt (M k q tp r x0 x1 x2 : Nat) (fl : List (Int × Int)) (now : Int) (w0 : World) (b : Bool) (st : Int) (R : PF × Int) (S : PF) (A : Option Addr) (n c : Nat) (bs : List UInt8) (ov : Bool) (w : World) : Prop where
 goes : Goes M w0 w
 still : Still w M A n c bs
 over : ov = true -> R = (S, 1) /\ RSt w M k q tp r x0 x1 x2 fl now S 1 true
 runs : ov = false -> RSt w M k q tp r x0 x1 x2 fl now S st false /\ (∃ f, S.left fl + n < f /\ PF.all fl f S b bs = R) /\ S.steps + S.left fl + n + 2 < 4611686018427387904 /\ (S.said b).length + n <= 140737488355000
set_option maxHeartbeats 4000000 in
theorem refWrites (h : RSt w M k q tp r x0 x1 x2 fl now S st false) (b : Bool) (A : Option Addr) (n c : Nat) (bs : List UInt8) (hb : Still w M A n c bs) (R : PF × Int) (hR : PF.all fl (S.left fl + n + 1) S b bs = R) (hs : S.steps + S.left fl + n + 2 < 4611686018427387904) (hd : (S.said b).length + n <= 140737488355000) :
 Calls Tryz.prog 53 #[.pointer (some ⟨r, 0, none⟩), .int .i64 ((if b then 1 else 2 : Nat) : Int), .slice A n c] w fun e w' => e = .returned (.tuple #[]) /\ Goes M w w' /\ RSt w' M k q tp r x0 x1 x2 fl now R.1 (endSt st R.2) (endOv R.2) := by
 have H0 : Hid (WritesSt M k q tp r x0 x1 x2 fl now w b st R S A n c bs false w) := Lib.hid ⟨Goes.refl _ _, hb, fun h => (by cases h), fun _ => ⟨h, ⟨_, Nat.lt_succ_self _, hR⟩, hs, hd⟩⟩
 obtain ⟨fd, hfd⟩ : ∃ fd : Nat, (if b then 1 else 2) = fd := ⟨_, rfl⟩
 obtain ⟨xb, hxb⟩ : ∃ xb : Nat, (if b then x1 else x2) = xb := ⟨_, rfl⟩
 have hf16 : fd < 16 := by rw [<- hfd]; cases b <;> decide
 have htb : (tabC k 1 2 3)[1 + fd]? = some (.int .i64 ((fd : Int) + 1)) := by rw [<- hfd]; cases b <;> rfl
 have hxx : [x0, x1, x2][fd]? = some xb := by rw [<- hfd, <- hxb]; cases b <;> rfl
 have hi0 : (((fd : Int) + 1) == 0) = false := by rw [beq_eq_false_iff_ne]; omega
 rw [hfd]
 have HTB := Lib.hid htb
 have HXX := Lib.hid hxx
 have HXB := Lib.hid hxb
 obtain ⟨iB, hiB, hB0, hB1, hB2⟩ := info_parts Tryz.infoByte
 have hct := fun (A : Option Addr) (n c a : Nat) (ha : a <= n) W => run_cut (P := Tryz.prog) 23 5 iB 1 Tryz.underlying23 hiB hB1 A n c .i64 (a : Int) a rfl ha W
 have HCT := Lib.hid hct
 clear h hb hR hs hd hfd hxb htb hxx hB0 hB1 hB2 hiB hct
 go_enter Tryz.func53, Tryz.ntmps53
 go_wp2_with fail
 go_loopg [2] (S.left fl + n + ovW false) (fun g v wr => ∃ (A' : Option Addr) (n' c' : Nat) (bs' : List UInt8) (S' : PF) (ov : Bool), v = .slice A' n' c' /\ g = S'.left fl + n' + ovW ov /\ Hid (WritesSt M k q tp r x0 x1 x2 fl now w b st R S' A' n' c' bs' ov wr))
 case atStart => exact ⟨A, n, c, bs, S, false, rfl, rfl, H0⟩
 case round =>
  obtain ⟨A', n', c', bs', S', ov, rfl, rfl, HS⟩ := hrel
  cases ov with
  | true =>
    obtain ⟨hR, hrun⟩ := HS.out.over rfl
    have r5 : wr.cell? ⟨r, 5, none⟩ = some (.bool true) := hrun.run.cell 5
    have lr := hrun.run.lt
    have HR := Lib.hid (And.intro hR hrun)
    clear hR hrun
    by_cases hz : n' = 0
    · subst hz
      go_wp2_with fail
      go_returns
      exact ⟨rfl, HS.out.goes, by rw [HR.out.1]; exact HR.out.2⟩
    · have hz1 : (0 : Int) < (n' : Int) := by omega
      go_wp2_with fail
      go_returns
      exact ⟨rfl, HS.out.goes, by rw [HR.out.1]; exact HR.out.2⟩
  | false =>
    obtain ⟨hrun, hends, hst, hsd⟩ := HS.out.runs rfl
    have hbn := HS.out.still.1
    have r0 : wr.cell? ⟨r, 0, none⟩ = some (.pointer (some ⟨q, 0, none⟩)) := hrun.run.cell 0
    have r5 : wr.cell? ⟨r, 5, none⟩ = some (.bool false) := hrun.run.cell 5
    have lr := hrun.run.lt
    by_cases hz : n' = 0
    · have hR : R = (S', -1) := by
       obtain ⟨f, hf, hR⟩ := hends
       cases f with
       | zero => omega
       | succ f => rw [<- hR, PF.all, if_pos (List.eq_nil_of_length_eq_zero (by omega))]
      subst hz
      have HR := Lib.hid (And.intro hR hrun)
      clear hR hrun hends hst hsd hbn
      go_wp2_with fail
      go_returns
      exact ⟨rfl, HS.out.goes, by rw [HR.out.1]; exact HR.out.2⟩
    · have hz1 : (0 : Int) < (n' : Int) := by omega
      have hne : bs' ≠ [] := fun e => by rw [e] at hbn; simp at hbn; omega
      obtain ⟨sp, hsp⟩ : ∃ sp : Nat, S'.steps = sp := ⟨_, rfl⟩
      have hul := hrun.rk.used
      have c1 : ∀ (W : World) (S2 : PF), S2.steps = S'.steps -> RSt W M k q tp r x0 x1 x2 fl now S2 st false -> W.cell? ⟨r, 1, none⟩ = some (.int .i64 (sp : Int)) /\ W.frozen? ⟨r, 1, none⟩ = false /\ W.cell? ⟨r, 4, none⟩ = some (.int .i64 st) /\ W.cell? ⟨r, 5, none⟩ = some (.bool false) /\ W.frozen? ⟨r, 4, none⟩ = false /\ W.frozen? ⟨r, 5, none⟩ = false /\ r < W.heap.size := fun W S2 e hW => ⟨by rw [<- hsp, <- e]; exact hW.run.cell 1, hW.run.frozen 1, hW.run.cell 4, hW.run.cell 5, hW.run.frozen 4, hW.run.frozen 5, hW.run.lt⟩
      have HC1 := Lib.hid c1
      have HSP := Lib.hid hsp
      have hlow := hrun.low.2
      have hkb : ∃ cs, Blk wr k 71 cs := by
       obtain ⟨lv, tv, fv, hkb, _⟩ := hrun.rk.kern.mem
       exact ⟨_, hkb⟩
      have hklow := hrun.rk.kern.low
      have hreads : ∀ W, Turns [k] wr W -> Reads W W.heap.size 1 A' n' (bytesC bs') := fun W hT => (HS.out.still.goes (Goes.of_turns hT hlow fun g hg => by
       rw [List.mem_singleton.1 hg]
       obtain ⟨cs, hkb⟩ := hkb
       exact ⟨hklow, _, _, hkb, by decide⟩)).reads
      have hxr := hrun.rk.at_ b
      rw [HXB.out] at hxr
      by_cases hw : wErr (S'.next fl) = 0
      · obtain ⟨a, ha⟩ : ∃ a, S'.some_ fl n' = a := ⟨_, rfl⟩
        have han : a <= n' := by rw [<- ha]; exact PF.some_le _
        have hap : 0 < a := by rw [<- ha]; exact (PF.some_pos (by omega)).1
        have hwr := refWriteOk hrun.rk hlow fd fd xb hf16 HTB.out hi0 HXX.out (S'.said b) hxr A' n' c' HS.out.still.2.1 (by omega) bs' hbn hreads (by omega) hw a ha
        have hnx : ∀ w1, (∃ w4, RK w4 M k q tp x0 x1 x2 fl now S'.inb S'.said (S'.took fl) /\ Turns [k] wr w4 /\ Turns [xb] w4 w1 /\ RThing w1 M xb 2 (S'.said b ++ bs'.take a)) -> RSt w1 M k q tp r x0 x1 x2 fl now { S' with said := fun b' => if b' = b then S'.said b ++ bs'.take a else S'.said b', used := S'.took fl } st false /\ Goes M wr w1 := fun w1 ⟨w4, g1, g2, g3, g4⟩ => by
         have g5 := RK.told b g1 (t := bs'.take a) (by rw [HXB.out]; exact g3) (by rw [HXB.out]; exact g4)
         refine hrun.went (S' := { S' with said := fun b' => if b' = b then S'.said b ++ bs'.take a else S'.said b', used := S'.took fl }) (F := [k] ++ [xb]) (fun g hg => ?_) ((g2.more (by simp)).trans (g3.more (by simp))) g5 ⟨rfl, rfl, rfl⟩
         rcases List.mem_append.1 hg with hg | hg
         · exact .inl (List.mem_singleton.1 hg)
         · rw [List.mem_singleton] at hg
           rw [hg, <- HXB.out]
           cases b
           · exact .inr (.inr (.inr rfl))
           · exact .inr (.inr (.inl rfl))
        have HWR := Lib.hid hwr
        have HNX := Lib.hid hnx
        have HE := Lib.hid (And.intro hends (And.intro hw (And.intro ha (And.intro hst (And.intro han hap)))))
        have HSD := Lib.hid hsd
        have HTK := Lib.hid (PF.took_le (fl := fl) (s := S') hul)
        have hcut := HCT.out A' n' c' a han
        clear hwr hnx c1 hsp hends hst hsd hrun hul hw ha hreads hxr hkb
        clear hlow hklow han hap hf16 hi0
        go_upto_region 1 with fail
        have hspl : (sp : Int) + 1 < 4611686018427387904 := by have h1 := HE.out.2.2.2.1; have h2 := HSP.out; omega
        go_wp2_with (go_at_call 89; refine HWR.out.mono ?_; rintro e1 w1 ⟨rfl, h1⟩
                     obtain ⟨hR1, hG1⟩ := HNX.out w1 h1
                     obtain ⟨a1, a2, a3, a4, a5, a6, a7⟩ := HC1.out w1 { S' with said := fun b' => if b' = b then S'.said b ++ bs'.take a else S'.said b', used := S'.took fl } rfl hR1)
        have han := HE.out.2.2.2.2.1
        have hap := HE.out.2.2.2.2.2
        have hstp : (((S'.wrote fl b (bs'.take a)).steps : Nat) : Int) = (sp : Int) + 1 := by
         show ((S'.steps + 1 : Nat) : Int) = _
         rw [HSP.out]; omega
        obtain ⟨hR2, hG2⟩ := hR1.runs (S' := S'.wrote fl b (bs'.take a)) (st' := st) (ov' := false) 1 (.int .i64 ((sp : Int) + 1)) (by rw [hstp]; rfl) ⟨rfl, rfl, rfl⟩
        have hll : (S'.wrote fl b (bs'.take a)).left fl <= S'.left fl := by
         have h1 : (S'.wrote fl b (bs'.take a)).left fl = fl.length - S'.took fl := rfl
         have h2 : S'.left fl = fl.length - S'.used := rfl
         have := HTK.out
         omega
        go_roundg ((S'.wrote fl b (bs'.take a)).left fl + (n' - a) + ovW false)
        case rel =>
         refine ⟨_, n' - a, c' - a, bs'.drop a, S'.wrote fl b (bs'.take a), false, rfl, rfl, Lib.hid ⟨(HS.out.goes.trans hG1).trans hG2, (HS.out.still.goes (hG1.trans hG2)).cut han, fun h => (by cases h), fun _ => ⟨hR2, ?_, ?_, ?_⟩⟩⟩
         · obtain ⟨⟨f, hf, hR⟩, hw, ha, _, _⟩ := HE.out
           cases f with
           | zero => omega
           | succ f =>
             refine ⟨f, by omega, ?_⟩
             rw [<- hR, PF.all, if_neg hne, if_neg (by rw [hw]; decide), if_pos hw, hbn, ha]
         · have h1 : (S'.wrote fl b (bs'.take a)).steps = S'.steps + 1 := rfl
           have := HE.out.2.2.2.1
           rw [h1]; omega
         · have h1 : (S'.wrote fl b (bs'.take a)).said b = S'.said b ++ bs'.take a := by show (if b = b then _ else _) = _; rw [if_pos rfl]
           have := HSD.out
           rw [h1, List.length_append, List.length_take]; omega
        case measure => simp only [ovW]; omega
      · have hwr := refWriteNo hrun.rk fd fd xb hf16 HTB.out hi0 HXX.out (S'.said b) hxr A' n' c' (by omega) hw
        have ht := PF.took_lt (fl := fl) (s := S') (.inl hw) hul
        have hnx : ∀ w1, RK w1 M k q tp x0 x1 x2 fl now S'.inb S'.said (S'.took fl) -> Turns [k] wr w1 -> RSt w1 M k q tp r x0 x1 x2 fl now { S' with used := S'.took fl } st false /\ Goes M wr w1 := fun w1 hK hT => hrun.went (S' := { S' with used := S'.took fl }) (fun g hg => .inl (List.mem_singleton.1 hg)) hT hK ⟨rfl, rfl, rfl⟩
        obtain ⟨er, her⟩ : ∃ er, wErr (S'.next fl) = er := ⟨_, rfl⟩
        rw [her] at hwr hw
        have HWR := Lib.hid hwr
        have HNX := Lib.hid hnx
        have HE := Lib.hid (And.intro hends (And.intro her hst))
        have HSD := Lib.hid hsd
        have HT := Lib.hid ht
        have hcut := HCT.out A' n' c' 0 (Nat.zero_le _)
        simp only [Int.ofNat_zero, Nat.sub_zero] at hcut
        have he0 : (er != 0) = true := by simpa using hw
        have hll : (S'.failed fl).left fl + 1 = S'.left fl := by
         have h1 : (S'.failed fl).left fl = fl.length - S'.took fl := rfl
         have h2 : S'.left fl = fl.length - S'.used := rfl
         have := ht
         omega
        clear hwr hnx c1 hsp hends hst hsd hrun hul hreads hxr hkb her ht
        clear hlow hklow hf16 hi0
        by_cases h9 : er = 9
        · subst h9
          go_upto_region 1 with fail
          have hspl : (sp : Int) + 1 < 4611686018427387904 := by have h1 := HE.out.2.2; have h2 := HSP.out; omega
          go_wp2_with (go_at_call 89; refine HWR.out.mono ?_; rintro e1 w1 ⟨rfl, hK1, hT1⟩
                       obtain ⟨hR1, hG1⟩ := HNX.out w1 hK1 hT1
                       obtain ⟨a1, a2, a3, a4, a5, a6, a7⟩ := HC1.out w1 { S' with used := S'.took fl } rfl hR1)
          have hstp : (((S'.failed fl).steps : Nat) : Int) = (sp : Int) + 1 := by
           show ((S'.steps + 1 : Nat) : Int) = _
           rw [HSP.out]; omega
          obtain ⟨hR2, hG2⟩ := hR1.runs (S' := S'.failed fl) (st' := st) (ov' := false) 1 (.int .i64 ((sp : Int) + 1)) (by rw [hstp]; rfl) ⟨rfl, rfl, rfl⟩
          go_roundg ((S'.failed fl).left fl + n' + ovW false)
          case rel =>
           have hcs := (HS.out.still.goes (hG1.trans hG2)).cut (Nat.zero_le n')
           simp only [Nat.sub_zero, List.drop_zero] at hcs
           refine ⟨_, n', c', bs', S'.failed fl, false, rfl, rfl, Lib.hid ⟨(HS.out.goes.trans hG1).trans hG2, hcs, fun h => (by cases h), fun _ => ⟨hR2, ?_, ?_, HSD.out⟩⟩⟩
           · obtain ⟨⟨f, hf, hR⟩, he, _⟩ := HE.out
             cases f with
             | zero => omega
             | succ f => exact ⟨f, by omega, by rw [<- hR, PF.all, if_neg hne, if_pos he]⟩
           · have h1 : (S'.failed fl).steps = S'.steps + 1 := rfl
             have := HE.out.2.2
             rw [h1]; omega
          case measure => simp only [ovW]; omega
        · have he9 : (er != 9) = true := by simpa using h9
          go_upto_region 1 with fail
          have hspl : (sp : Int) + 1 < 4611686018427387904 := by have h1 := HE.out.2.2; have h2 := HSP.out; omega
          go_wp2_with (go_at_call 89; refine HWR.out.mono ?_; rintro e1 w1 ⟨rfl, hK1, hT1⟩
                       obtain ⟨hR1, hG1⟩ := HNX.out w1 hK1 hT1
                       obtain ⟨a1, a2, a3, a4, a5, a6, a7⟩ := HC1.out w1 { S' with used := S'.took fl } rfl hR1)
          have hstp : (((S'.failed fl).steps : Nat) : Int) = (sp : Int) + 1 := by
           show ((S'.steps + 1 : Nat) : Int) = _
           rw [HSP.out]; omega
          obtain ⟨hR2, hG2⟩ := hR1.runs (S' := S'.failed fl) (st' := st) (ov' := false) 1 (.int .i64 ((sp : Int) + 1)) (by rw [hstp]; rfl) ⟨rfl, rfl, rfl⟩
          obtain ⟨hR3, hG3⟩ := hR2.runs (S' := S'.failed fl) (st' := st) (ov' := true) 5 (.bool true) rfl ⟨rfl, rfl, rfl⟩
          obtain ⟨hR4, hG4⟩ := hR3.runs (S' := S'.failed fl) (st' := 1) (ov' := true) 4 (.int .i64 1) rfl ⟨rfl, rfl, rfl⟩
          go_roundg ((S'.failed fl).left fl + n' + ovW true)
          case rel =>
           have hcs := (HS.out.still.goes (((hG1.trans hG2).trans hG3).trans hG4)).cut (Nat.zero_le n')
           simp only [Nat.sub_zero, List.drop_zero] at hcs
           refine ⟨_, n', c', bs', S'.failed fl, true, rfl, rfl, Lib.hid ⟨(((HS.out.goes.trans hG1).trans hG2).trans hG3).trans hG4, hcs, fun _ => ⟨?_, hR4⟩, fun h => (by cases h)⟩⟩
           obtain ⟨⟨f, hf, hR⟩, he, _⟩ := HE.out
           cases f with
           | zero => omega
           | succ f => rw [<- hR, PF.all, if_neg hne, if_neg (by rw [he]; exact h9), if_neg (by rw [he]; exact hw)]
          case measure => simp only [ovW]; omega
end
end
end Go.Proofs.YtffffjngodinnaaGreatDoor
