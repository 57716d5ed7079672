/-
  Parts of the proof.
-/
import Derived.Test.YtffffjngodinnaaGreatDoorV16
namespace Go.Proofs.YtffffjngodinnaaGreatDoor
section
set_option maxRecDepth 100000
open Go.RowKit Go.Maps
structure RowSt (w : World) (L bl : Nat) (A1 : Option Addr) (c1 : Nat) (l : List ActIt) (i : Nat) (l1 : List ActIt) (W : World) : Prop where
 below : Below L w W
 box : Blk W bl 31 #[.slice A1 l.length c1]
 own : W.ownsRow L 34 3 (.slice A1 l.length c1) l.length (actsC l1)
 same : l1.map ActIt.strip = l.map ActIt.strip
 done : ∀ j a, j < i -> l1[j]? = some a -> a.bs.length <= a.c /\ W.ownsRow L 5 1 (.slice a.A a.bs.length a.c) a.bs.length (bytesC a.bs)
 todo : ∀ j, i <= j -> l1[j]? = l[j]?
theorem actC_set (l : List ActIt) (i : Nat) (a b : ActIt) (h : l[i]? = some a) (hk : b.k = a.k) (hn : b.n = a.n) : (actsC l).set (i * 3 + 2) (.slice b.A b.bs.length b.c) = actsC (l.set i b) := by
 induction l generalizing i with
 | nil => simp at h
 | cons x l ih =>
   have e : ∀ (y : ActIt) (l : List ActIt), actsC (y :: l) = .int .i64 y.k :: .int .i64 y.n :: .slice y.A y.bs.length y.c :: actsC l := fun _ _ => rfl
   cases i with
   | zero =>
     obtain rfl : x = a := by simpa using h
     simp [e, hk, hn]
   | succ i =>
     have := ih i (by simpa using h)
     rw [e, show (i + 1) * 3 + 2 = i * 3 + 2 + 1 + 1 + 1 by omega]
     simp [e, this]
theorem RowSt.next {w : World} {L bl g c1 : Nat} {l : List ActIt} {i : Nat} {l1 : List ActIt} {W W1 : World} (h : RowSt w L bl (some ⟨g, 0, none⟩) c1 l i l1 W) (hL : L <= W.heap.size) (hb : Below W.heap.size W W1) {a : ActIt} (ha : l1[i]? = some a) {A : Option Addr} {c : Nat}
 (hown : W1.ownsRow W.heap.size 5 1 (.slice A a.bs.length c) a.bs.length (bytesC a.bs)) : RowSt w L bl (some ⟨g, 0, none⟩) c1 l (i + 1) (l1.set i { a with A := A, c := c }) (W1.setCell ⟨g, i * 3 + 2, none⟩ (.slice A a.bs.length c)) := by
 have hi : i < l1.length := (List.getElem?_eq_some_iff.1 ha).1
 have h1 : W1.ownsRow L 34 3 (.slice (some ⟨g, 0, none⟩) l.length c1) l.length (actsC l1) := own_on h.own hb
 have h2 := h1.stored (i * 3 + 2) (.slice A a.bs.length c)
 have hgL : L <= g := (h.own.lt g rfl).1
 have hgb : g ≠ bl := fun e => own_blk_ne h.own h.box (by decide) (by rw [e]; rfl)
 refine ⟨?_, ?_, ?_, ?_, ?_, ?_⟩
 · exact (h.below.trans (hb.mono hL)).setCell hgL _
 · exact (Blk.on h.box hb).far (Ne.symm hgb) _
 · have e := actC_set l1 i a { a with A := A, c := c } ha rfl rfl
   rw [<- e]
   exact h2.1
 · rw [<- h.same]
   apply List.ext_getElem?
   intro j
   simp only [List.getElem?_map, List.getElem?_set]
   by_cases e : i = j
   · subst e
     rw [if_pos rfl, if_pos hi, ha]
     rfl
   · rw [if_neg e]
 · intro j b hj hb2
   simp only [List.getElem?_set] at hb2
   by_cases e : i = j
   · subst e
     rw [if_pos rfl, if_pos hi] at hb2
     cases hb2
     obtain ⟨_, _, e2, hcc, _⟩ := own_slice hown
     cases e2
     refine ⟨hcc, ?_⟩
     exact ownsRow_same (Joins.ownsRow_le hown hL) fun q hq => Below.heap_setCell _ _ _ _ (fun e3 => by
      have h3 := (hown.lt q hq).1
      have h4 := (h.own.lt g rfl).2
      simp only at e3
      omega)
   · rw [if_neg e] at hb2
     obtain ⟨h3, h4⟩ := h.done j b (by omega) hb2
     refine ⟨h3, ownsRow_same (own_on h4 hb) fun q hq => Below.heap_setCell _ _ _ _ (fun e3 => ?_)⟩
     simp only at e3
     subst e3
     exact own_ne_own h4 h.own (by decide) hq rfl
 · intro j hj
   rw [List.getElem?_set_ne (by omega)]
   exact h.todo j (by omega)
set_option maxHeartbeats 2000000 in
theorem acts_new (w : World) (p : Nat) (A : Option Addr) (c : Nat) (l : List ActIt) (hr : Reads w w.heap.size 3 A l.length (actsC l)) (hlen : l.length <= 2097152) (hB : ∀ a ∈ l, Bytes w w.heap.size (.slice a.A a.bs.length a.c) a.bs /\ a.bs.length <= 140737488355328) (Q : Nat -> World -> Prop)
 (hgo : ∀ W bl bk l', Below w.heap.size w W -> l'.map ActIt.strip = l.map ActIt.strip -> ActsIn W w.heap.size bl bk l' -> Calls Tryz.prog 39 #[.pointer (some ⟨p, 0, none⟩), .func (.func 40) #[] #[.pointer (some ⟨bl, 0, none⟩), .pointer (some ⟨bk, 0, none⟩)]] W fun e w' => ∃ m, e = .returned (.pointer (some ⟨m, 0, none⟩)) /\ Q m w') :
 Calls Tryz.prog 13 #[.pointer (some ⟨p, 0, none⟩), .slice A l.length c] w fun e w' => ∃ m, e = .returned (.pointer (some ⟨m, 0, none⟩)) /\ Q m w' := by
 have hmf : ∀ (fn : Fn) (first cap : Array Value) (w : World), (Instr.makeFunc fn first cap).run Tryz.prog w = .ok (.func fn first cap) w := fun _ _ _ _ => rfl
 obtain ⟨n, hn⟩ : ∃ n, l.length = n := ⟨_, rfl⟩
 obtain ⟨L, hL⟩ : ∃ L, w.heap.size = L := ⟨_, rfl⟩
 have bW0 : Below w.heap.size w (w.alloc (.cells #[.slice A n c] 31)) := below_one w _
 have kb0 := Blk.new w 31 #[.slice A n c]
 have hcl := cloneA_any A n c l (w.alloc (.cells #[.slice A n c] 31)) w.heap.size hn.symm (by rw [<- hn] at bW0 ⊢; exact hr.below bW0) bW0.size (by omega)
 obtain ⟨W0, hW0⟩ : ∃ W0, w.alloc (.cells #[.slice A n c] 31) = W0 := ⟨_, rfl⟩
 have hs0 : L < W0.heap.size := by rw [<- hW0, <- hL]; exact kb0.lt
 rw [hW0] at bW0 kb0 hcl
 have HN := Lib.hid hn
 have HL := Lib.hid hL
 have HB := Lib.hid hB
 have HGO := Lib.hid hgo
 have c0 := kb0.cell 0
 rw [hn] at hlen ⊢
 rw [hL] at bW0 kb0 c0
 clear hr hB hgo hn
 go_enter Tryz.func13, Tryz.ntmps13
 go_wp2_with (go_at_call 36; refine hcl.mono ?_; rintro e w1 ⟨v1, rfl, hown1, hb1⟩; obtain ⟨A1, c1, rfl, hcp1, _⟩ := own_slice hown1; have kb1 : Blk w1 L 31 #[.slice A n c] := Blk.on kb0 hb1; have k10 := kb1.cell 0; have k1f := kb1.frozen 0; have lk1 := kb1.lt)
 obtain ⟨W1, hW1⟩ : ∃ W1, w1.setCell ⟨L, 0, none⟩ (.slice A1 n c1) = W1 := ⟨_, rfl⟩
 have b01 : Below L w w1 := bW0.trans (hb1.mono (Nat.le_of_lt hs0))
 have hown1' : w1.ownsRow L 34 3 (.slice A1 n c1) n (actsC l) := Joins.ownsRow_le hown1 (Nat.le_of_lt hs0)
 have hS0 : RowSt w L L A1 c1 l 0 l W1 := by
  rw [<- hW1]
  refine ⟨b01.setCell (Nat.le_refl _) _, ?_, ?_, rfl, fun j a hj _ => absurd hj (Nat.not_lt_zero _), fun _ _ => rfl⟩
  · rw [HN.out]; exact kb1.set_ 0 _
  · rw [HN.out]; exact ownsRow_setCell_other hown1' (fun e => by have := (hown1.lt _ e).1; simp only at this; omega) _
 have HS0 := Lib.hid hS0
 have hLW : L <= W1.heap.size := by rw [<- hW1, World.size_setCell]; omega
 rw [hW1]
 clear hW1 b01 hown1' hS0 kb1 k10 k1f lk1 hown1 hb1 hcl kb0 bW0 c0
 go_loopw [11] (fun iv wr => ∃ (i : Nat) (l1 : List ActIt), i <= n /\ iv = .int .i64 (i : Int) /\ L <= wr.heap.size /\ Hid (RowSt w L L A1 c1 l i l1 wr)) (fun iv _ => n - (intOf iv).toNat)
 case atStart => exact ⟨0, l, Nat.zero_le _, rfl, hLW, HS0⟩
 case round =>
  obtain ⟨i, l1, hi, rfl, hLr, HS⟩ := hrel
  by_cases hlt : i < n
  · obtain ⟨a, ha⟩ : ∃ a, l[i]? = some a := ⟨_, List.getElem?_eq_getElem (by rw [HN.out]; exact hlt)⟩
    have ha1 : l1[i]? = some a := (HS.out.todo i (Nat.le_refl _)).trans ha
    obtain ⟨g, hA⟩ : ∃ g, A1 = some ⟨g, 0, none⟩ := by
     rcases HS.out.own.2 with ⟨_, h0⟩ | ⟨g, cap, cur, e, _⟩
     · rw [HN.out] at h0; omega
     · simp only [Value.slice.injEq] at e
       exact ⟨g, e.1⟩
    subst hA
    have hbox := HS.out.box
    have hown := HS.out.own
    rw [HN.out] at hbox hown
    have hgb : g ≠ L := fun e => own_blk_ne hown hbox (by decide) (by rw [e]; rfl)
    have hgl := (hown.lt g rfl).2
    have m0 : wr.cell? ⟨L, 0, none⟩ = some (.slice (some ⟨g, 0, none⟩) n c1) := hbox.cell 0
    have m2 : wr.cell? ⟨g, i * 3 + 2, none⟩ = some (.slice a.A a.bs.length a.c) := by
     rw [hown.cellAt (i * 3 + 2) (by omega)]
     exact (actsC_at ha1 2 (by decide)).trans rfl
    obtain ⟨q, hq⟩ : ∃ q, a.bs.length = q := ⟨_, rfl⟩
    obtain ⟨aA, haA⟩ : ∃ x, a.A = x := ⟨_, rfl⟩
    obtain ⟨ac, hac⟩ : ∃ x, a.c = x := ⟨_, rfl⟩
    have hby := HB.out a (List.mem_of_getElem? ha)
    have hclo := cloneU_any wr.drew a.A a.c a.bs ((hby.1.below (by rw [HL.out]; exact HS.out.below.trans (below_drew _ 1))).more (by rw [HL.out]; exact hLr)) hby.2
    rw [hq, haA, hac] at hclo
    rw [hq, haA, hac] at m2
    have mL : L < wr.heap.size := hbox.lt
    have HQ := Lib.hid hq
    have HA1 := Lib.hid ha1
    clear hbox hown hq haA hac hby ha ha1
    have hi0 : (0 : Int) <= (i : Int) := by omega
    have hi1 : (i : Int) < (n : Int) := by omega
    have mf : wr.frozen? ⟨g, i * 3 + 2, none⟩ = false := HS.out.own.frozenAt _
    go_wp2_with fail
    go_region_with (go_at_call 37; refine hclo.mono ?_; rintro e w4 ⟨v, rfl, hown4, hb4⟩
                    obtain ⟨A4, c4, rfl, _⟩ := own_slice hown4
                    have hb5 : Below wr.heap.size wr w4 := (below_drew wr 1).trans hb4
                    have n0 : w4.cell? ⟨L, 0, none⟩ = some (.slice (some ⟨g, 0, none⟩) n c1) := (hb5.cell (p := ⟨L, 0, none⟩) mL).trans m0
                    have n2 : w4.cell? ⟨g, i * 3 + 2, none⟩ = some (.slice aA q ac) := (hb5.cell (p := ⟨g, i * 3 + 2, none⟩) hgl).trans m2
                    have n3 : w4.frozen? ⟨g, i * 3 + 2, none⟩ = false := (hb5.frozen (p := ⟨g, i * 3 + 2, none⟩) hgl).trans mf
                    have n4 : g < w4.heap.size := Nat.lt_of_lt_of_le hgl hb5.size)
    all_goals
     have hnx := HS.out.next hLr hb5 HA1.out (A := A4) (c := c4) (by rw [HQ.out]; exact hown4)
     rw [HQ.out] at hnx
     have HNX := Lib.hid hnx
     clear hnx
     go_wp2_with fail
     go_roundw
     case rel => exact ⟨i + 1, _, by omega, by go_num, by rw [World.size_setCell]; exact Nat.le_trans hLr hb5.size, HNX⟩
     case measure => simp [intOf]; omega
  · obtain rfl : i = n := by omega
    have hmap := acts_map wr
    obtain ⟨mb, hmb⟩ : ∃ mb, wr.heap.size = mb := ⟨_, rfl⟩
    have HMB := Lib.hid hmb
    have hfin : ∀ W2, Below wr.heap.size wr W2 -> MapOf W2 Tryz.prog 3 wr.heap.size 6 kindF -> ∀ W3, Below W2.heap.size W2 W3 -> Blk W3 W2.heap.size 95 #[.map (some wr.heap.size)] -> Calls Tryz.prog 39 #[.pointer (some ⟨p, 0, none⟩), .func (.func 40) #[] #[.pointer (some ⟨L, 0, none⟩), .pointer (some ⟨W2.heap.size, 0, none⟩)]] W3 fun e w' => ∃ m, e = .returned (.pointer (some ⟨m, 0, none⟩)) /\ Q m w' := by
     intro W2 h2 hm2 W3 h3 hk3
     have h23 : Below wr.heap.size wr W3 := below_step h2 h3 (Nat.le_refl _)
     refine HGO.out W3 L W2.heap.size l1 ?_ HS.out.same ?_
     · rw [HL.out]; exact HS.out.below.trans (h23.mono hLr)
     · rw [HL.out]
       have hll : l1.length = l.length := by have := congrArg List.length HS.out.same; simpa using this
       refine ⟨⟨_, Blk.on HS.out.box h23, by rw [hll]; exact own_on HS.out.own h23⟩, fun a ha => ?_, ⟨_, hk3, hm2.same (h3.block _ hm2.lt), hLr⟩, Nat.le_refl _, Nat.le_trans hLr h2.size⟩
       obtain ⟨j, hj⟩ := List.getElem?_of_mem ha
       have hjl : j < l1.length := (List.getElem?_eq_some_iff.1 hj).1
       obtain ⟨h4, h5⟩ := HS.out.done j a (by rw [HN.out] at hll; omega) hj
       exact ⟨h4, own_on h5 h23⟩
    have HF := Lib.hid hfin
    clear hfin
    rw [hmb] at hmap
    go_wp2_with (first
     | (go_at_call 38; refine hmap.mono ?_; rintro e w2 ⟨rfl, hm2, hb2⟩)
     | (go_at_call 39; refine (HF.out w2 (by rw [HMB.out]; exact hb2) (by rw [HMB.out]; exact hm2) _ (below_one w2 _) (by rw [HMB.out]; exact Blk.new w2 _ _)).mono ?_; rintro e w3 ⟨m, rfl, hQ3⟩))
    go_returns
    exact ⟨m, rfl, hQ3⟩
end
end Go.Proofs.YtffffjngodinnaaGreatDoor
