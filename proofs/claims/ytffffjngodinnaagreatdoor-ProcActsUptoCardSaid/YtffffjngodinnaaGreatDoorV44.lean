/-
  Parts of the proof.
-/
import Derived.Test.YtffffjngodinnaaGreatDoorV41
namespace Go.Proofs.YtffffjngodinnaaGreatDoor
section
set_option maxRecDepth 100000
open Go.RowKit Go.Maps Go.Shelf
theorem seti_id (l : List (Nat × Abs.Ent)) (i : Nat) (f : Abs.Ent -> Abs.Ent) (h : ∀ p ∈ l, p.1 = i -> f p.2 = p.2) : Abs.seti l i f = l := by
 unfold Abs.seti
 refine (List.map_congr_left fun p hp => ?_).trans (List.map_id l)
 by_cases e : p.1 = i
 · rw [if_pos e, h p hp e]; rfl
 · rw [if_neg e]; rfl
theorem RTree.data {w w' : World} {B t : Nat} {T : Abs.T} {bs : List Nat} (h : RTree w B t T bs) {i : Nat} {x : Abs.Ent} (hx : T.get i = some x) {dat : List UInt8} {dv' : Value} {up : Int} {dv nv : Value} (h0 : Blk w (bAt T.ents bs i) 106 (ritemC i x up dv nv)) (hup : x.dir = true -> up = (x.up : Int)) (hnv : w.ownsRow B 194 2 nv x.names.length (namesE x.names))
 (h1 : Blk w' (bAt T.ents bs i) 106 (ritemC i x up dv' nv)) (h2 : w'.ownsRow B 5 1 dv' dat.length (bytesC dat)) (hT : Turns [bAt T.ents bs i] w w') (hwf : (T.set i fun y => { y with data := dat }).WF) : RTree w' B t (T.set i fun y => { y with data := dat }) bs := by
 obtain ⟨kd, hkd, hbd⟩ := geti_at _ _ _ _ h.len hx
 obtain ⟨b, hb⟩ : ∃ b, bAt T.ents bs i = b := ⟨_, rfl⟩
 rw [hb] at h0 h1 hT hbd
 have hent : (T.set i fun y => { y with data := dat }).ents = Abs.seti T.ents i fun y => { y with data := dat } := rfl
 obtain ⟨lv, ht, hl⟩ := h.tree
 refine ⟨by rw [hent]; simp [Abs.seti, h.len], ⟨lv, (hT.block _ (Blk.lt ht) (by rw [List.mem_singleton]; exact Blk.ne_ ht h0 (by decide))).trans ht, ?_⟩, ?_, h.nodup, h.low, hwf, h.small, by rw [hent]; simpa [Abs.seti] using h.most⟩
 · rw [hent, show (Abs.seti T.ents i fun y => { y with data := dat }).length = T.ents.length by simp [Abs.seti]]
   exact ownsRow_same hl fun g hg => hT.block g (hl.lt g hg).2 (by rw [List.mem_singleton]; rintro rfl; exact own_ne hl h0 (by decide) hg)
 · intro k b' j z hk hz
   rw [hent, seti_at, Option.map_eq_some_iff] at hz
   obtain ⟨⟨i0, x0⟩, hx0, hxe⟩ := hz
   by_cases e : i0 = i
   · subst e
     rw [if_pos rfl] at hxe
     cases hxe
     obtain rfl := key_one h.wf.nodup hx0 hkd
     rw [hkd] at hx0
     cases hx0
     obtain rfl : b' = b := Option.some.inj (hk.symm.trans hbd)
     exact ⟨up, dv', nv, h1, hup, h2, ownsRow_same hnv fun g hg => hT.block g (hnv.lt g hg).2 (by rw [List.mem_singleton]; rintro rfl; exact own_ne hnv h0 (by decide) hg)⟩
   · rw [if_neg e] at hxe
     cases hxe
     refine (h.item k b' j z hk hx0).turns hT fun g hg => ?_
     obtain rfl := List.mem_singleton.1 hg
     refine ⟨fun e2 => ?_, _, _, _, h0, by decide, by decide⟩
     subst e2
     obtain rfl := block_one h.nodup hk hbd
     rw [hkd] at hx0
     cases hx0
     exact e rfl
theorem find_first {L : List NodeIt} {k i : Nat} {o : Int} {y : NodeIt} (hik : i < k) (hy : L[i]? = some y) (hyo : y.ino = o) (hno : ∀ z ∈ L.take i, z.ino ≠ o) : ((L.take k).map NodeIt.nd).find? (fun n => decide (n.ino = o)) = some y.nd := by
 have h1 : (L.take i).map NodeIt.nd ++ [y.nd] = (L.take (i + 1)).map NodeIt.nd := by rw [List.take_add_one, hy]; simp
 have h2 : ∃ r, L.take k = L.take (i + 1) ++ r := ⟨(L.take k).drop (i + 1), by
  have := (List.take_append_drop (i + 1) (L.take k)).symm
  rw [List.take_take, Nat.min_eq_left (by omega)] at this
  exact this⟩
 obtain ⟨r, hr⟩ := h2
 have h3 : ((L.take i).map NodeIt.nd).find? (fun n => decide (n.ino = o)) = none := by
  rw [List.find?_eq_none]
  intro n hn
  obtain ⟨z, hz, rfl⟩ := List.mem_map.1 hn
  have := hno z hz
  show ¬ decide (z.ino = o) = true
  simpa using this
 rw [hr, List.map_append, List.find?_append, <- h1, List.find?_append, h3]
 have : decide (y.nd.ino = o) = true := by simp [NodeIt.nd, hyo]
 simp [this]
theorem find_none {L : List NodeIt} {k : Nat} {o : Int} (hno : ∀ z ∈ L.take k, z.ino ≠ o) : ((L.take k).map NodeIt.nd).find? (fun n => decide (n.ino = o)) = none := by
 rw [List.find?_eq_none]
 intro n hn
 obtain ⟨z, hz, rfl⟩ := List.mem_map.1 hn
 have := hno z hz
 show ¬ decide (z.ino = o) = true
 simpa using this
theorem link_of {s : Abs.LS} {f n : Abs.Nd} {j d : Nat} {m : Abs.Name} {z : Abs.Ent} (h1 : s.T.look [] f.path = .ok j) (h2 : s.T.get j = some z) (h3 : z.dir = false) (h4 : s.T.may [] n.path false = .ok (d, m)) : s.link f n = some { s with T := s.T.linked d m j } := by
 unfold Abs.LS.link Abs.T.linkE
 rw [h1]
 simp only [h2, h3, h4]
 rfl
theorem link_not {s : Abs.LS} {f n : Abs.Nd} (h : ∀ j d m z, s.T.look [] f.path = .ok j -> s.T.get j = some z -> z.dir = false -> s.T.may [] n.path false ≠ .ok (d, m)) (hwf : s.T.WF) : s.link f n = none := by
 unfold Abs.LS.link
 split
 · rfl
 · split
   · rfl
   · rename_i hE _ j hj
     split
     · rfl
     · rename_i d m hm
       exfalso
       obtain ⟨z, hz⟩ := hwf.look_live hj
       unfold Abs.T.linkE at hE
       rw [hj] at hE
       simp only [hz] at hE
       cases hd : z.dir with
       | true => rw [hd] at hE; simp at hE
       | false => exact h j d m z hj hz hd hm
theorem make_of {s : Abs.LS} {n : Abs.Nd} {d : Nat} {m : Abs.Name} (h : s.T.may [] n.path n.dir = .ok (d, m)) (hwf : s.T.WF) {y : Abs.Ent} (hy : s.T.get d = some y) (hd : n.dir = true -> n.data = []) : ∃ s', s.make n = some s' /\ s'.T = (s.T.made d m (newEnt n.dir n.mode n.tick d)).set s.T.next fun x => { x with data := n.data } := by
 unfold Abs.LS.make
 rw [h]
 refine ⟨_, rfl, ?_⟩
 cases hdir : n.dir with
 | false => rfl
 | true =>
   show s.T.made d m { dir := true, mode := Abs.nine n.mode, tick := n.tick, up := d } = _
   have e : newEnt true n.mode n.tick d = { dir := true, mode := Abs.nine n.mode, tick := n.tick, up := d } := rfl
   rw [e, hd hdir]
   have hs : Abs.seti (s.T.made d m { dir := true, mode := Abs.nine n.mode, tick := n.tick, up := d }).ents s.T.next (fun x => { x with data := [] }) = (s.T.made d m { dir := true, mode := Abs.nine n.mode, tick := n.tick, up := d }).ents := by
    refine seti_id _ _ _ fun p hp he => ?_
    have hdn := (hwf.lt d y hy).2
    unfold Abs.T.made at hp
    rcases List.mem_append.1 hp with hp | hp
    · obtain ⟨q, hq, rfl⟩ := List.mem_map.1 hp
      exfalso
      have h1 : q.1 = s.T.next := by
       split at he
       · exact he
       · exact he
      have := (hwf.lt q.1 q.2 (Abs.geti_of_mem hwf.nodup hq)).2
      omega
    · rw [List.mem_singleton] at hp
      rw [hp]
   unfold Abs.T.set
   rw [hs]
theorem make_not {s : Abs.LS} {n : Abs.Nd} {e : Nat} (h : s.T.may [] n.path n.dir = .error e) : s.make n = none := by
 unfold Abs.LS.make
 rw [h]
structure RLoad (w : World) (B t : Nat) (L : List NodeIt) (R : Option Abs.LS) (k : Nat) (s : Abs.LS) (bs : List Nat) (wr : World) : Prop where
 below : Below B w wr
 tree : RTree wr B t s.T bs
 ok : s.Ok k 1048576
 first : FirstOk s ((L.take k).map NodeIt.nd)
 rest : s.run ((L.drop k).map NodeIt.nd) = R
theorem RLoad.on {w wr w1 : World} {B t : Nat} {L : List NodeIt} {R : Option Abs.LS} {k : Nat} {s : Abs.LS} {bs : List Nat} (h : RLoad w B t L R k s bs wr) (hB : B <= wr.heap.size) (hb : Below wr.heap.size wr w1) : RLoad w B t L R k s bs w1 :=
 ⟨h.below.trans (hb.mono hB), h.tree.below hb, h.ok, h.first, h.rest⟩
theorem RLoad.next {w wr w1 : World} {B t : Nat} {L : List NodeIt} {R : Option Abs.LS} {k : Nat} {s s' : Abs.LS} {bs bs' : List Nat} (h : RLoad w B t L R k s bs wr) {x : NodeIt} (hx : L[k]? = some x) (hd : x.data.length <= 1048576) (hs : s.step x.nd = some s') (hb : Below B w w1) (ht : RTree w1 B t s'.T bs') : RLoad w B t L R (k + 1) s' bs' w1 := by
 have hlt : k < L.length := (List.getElem?_eq_some_iff.1 hx).1
 have hd1 : L.drop k = x :: L.drop (k + 1) := by
  rw [List.drop_eq_getElem_cons hlt]
  rw [List.getElem?_eq_getElem hlt] at hx
  rw [Option.some.inj hx]
 refine ⟨hb, ht, h.ok.of_step hd hs, ?_, ?_⟩
 · rw [List.take_add_one, hx]
   simp only [Option.toList_some, List.map_append, List.map_cons, List.map_nil]
   exact h.first.step h.ok hs
 · have := h.rest
   rw [hd1, List.map_cons, Abs.LS.run_cons, hs] at this
   exact this
theorem RLoad.stop {w wr : World} {B t : Nat} {L : List NodeIt} {R : Option Abs.LS} {k : Nat} {s : Abs.LS} {bs : List Nat} (h : RLoad w B t L R k s bs wr) {x : NodeIt} (hx : L[k]? = some x) (hs : s.step x.nd = none) : R = none := by
 have hlt : k < L.length := (List.getElem?_eq_some_iff.1 hx).1
 have hd1 : L.drop k = x :: L.drop (k + 1) := by
  rw [List.drop_eq_getElem_cons hlt]
  rw [List.getElem?_eq_getElem hlt] at hx
  rw [Option.some.inj hx]
 rw [<- h.rest, hd1, List.map_cons, Abs.LS.run_cons, hs]
set_option maxHeartbeats 8000000 in
theorem refLoad (w : World) (NA : Option Addr) (nc nn : Nat) (L : List NodeIt) (hL : L.length = nn) (hnn : nn <= 1048576) (hr : Reads w w.heap.size 6 NA nn (nodesC L)) (hN : ∀ x ∈ L, NodeOk w w.heap.size x) (R : Option Abs.LS) (hR : Abs.LS.init.run (L.map NodeIt.nd) = R) :
 Calls Tryz.prog 15 #[.slice NA nn nc] w fun e w' => Below w.heap.size w w' /\ ((R = none /\ e = .returned (.tuple #[.pointer none, .int .i64 17])) \/ ∃ s t bs, R = some s /\ s.Ok nn 1048576 /\ e = .returned (.tuple #[.pointer (some ⟨t, 0, none⟩), .int .i64 0]) /\ RTree w' w.heap.size t s.T bs) := by
 obtain ⟨B, hB⟩ : ∃ B, w.heap.size = B := ⟨_, rfl⟩
 have hnew := refNew w
 rw [hB] at hnew hr hN ⊢
 have HL := Lib.hid hL
 have HR := Lib.hid hr
 have HN := Lib.hid hN
 have HB := Lib.hid hB
 have HRR := Lib.hid hR
 clear hL hr hN hB hR
 go_enter Tryz.func15, Tryz.ntmps15
 go_wp2_with (go_at_call 43; refine hnew.mono ?_; rintro e w1 ⟨t, bs0, rfl, hT, hb⟩)
 have H0 : Hid (RLoad w B t L R 0 Abs.LS.init bs0 w1) := Lib.hid ⟨hb, hT, Abs.LS.init_ok _, FirstOk.init, HRR.out⟩
 clear hT hb hnew
 go_loopw [5] (fun iv wr => ∃ (k : Nat) (s : Abs.LS) (bs : List Nat), k <= nn /\ iv = .int .i64 (k : Int) /\ Hid (RLoad w B t L R k s bs wr)) (fun iv _ => nn - (intOf iv).toNat)
 case atStart => exact ⟨0, _, _, Nat.zero_le _, rfl, H0⟩
 case round =>
  obtain ⟨k, s, bs, hk, rfl, HS⟩ := hrel
  by_cases hlt : k < nn
  · obtain ⟨x, hx⟩ : ∃ x, L[k]? = some x := ⟨_, List.getElem?_eq_getElem (by rw [HL.out]; exact hlt)⟩
    have hok := HN.out x (List.mem_of_getElem? hx)
    have hBwr : B <= wr.heap.size := by rw [<- HB.out]; exact HS.out.below.size
    have hrd := HR.out.below HS.out.below
    obtain ⟨gb, off, hNA, hgb, hra⟩ := reads_node hrd HL.out hx
    have HX := Lib.hid hx
    have HOK := Lib.hid hok
    clear hx hok
    obtain ⟨p, d, m, tk, o, A, c, dat⟩ := x
    obtain ⟨q, hq⟩ : ∃ q, dat.length = q := ⟨_, rfl⟩
    have HQ := Lib.hid hq
    have hra' : wr.rangeAt gb (off + k * 6) [.string p, .bool d, .int .i64 m, .int .i64 tk, .int .i64 o, .slice A q c] := by rw [<- hq]; exact hra
    have hone : (#[.string p, .bool d, .int .i64 m, .int .i64 tk, .int .i64 o, .slice A q c] : Array Value).all (·.oneCell') = true := by simp [Value.oneCell']
    have hi0 : (0 : Int) <= (k : Int) := by omega
    have hi1 : (k : Int) < (nn : Int) := by omega
    have hgl : gb < wr.heap.size := Nat.lt_of_lt_of_le hgb hBwr
    subst hNA
    clear hra hrd hq
    go_upto_region 6 with (first
     | (refine wpList_load_mid rfl _ _ rfl gb (off + k * 6) rfl [.string p, .bool d, .int .i64 m, .int .i64 tk, .int .i64 o, .slice A q c] _ hra' Tryz.underlying111 rfl (by kernel_rfl) ?_)
     | (refine wpList_store_blk rfl 111 (.tmp 6) (.tmp 23) rfl wr.heap.size 111 #[.string ⟨#[]⟩, .bool false, .int .i64 0, .int .i64 0, .int .i64 0, .slice none 0 0] #[.string p, .bool d, .int .i64 m, .int .i64 tk, .int .i64 o, .slice A q c] rfl rfl (Blk.new wr _ _) rfl (by kernel_rfl) hone ?_; intro w2 b2 gr2
        have hb2 : Below wr.heap.size wr w2 := (below_one wr _).grown gr2 (by simp) (fun j hj => by cases hj; exact Nat.le_refl _)))
    obtain ⟨nb, hnb⟩ : ∃ nb, wr.heap.size = nb := ⟨_, rfl⟩
    rw [hnb] at b2 ⊢
    have HS2 := Lib.hid (HS.out.on hBwr hb2)
    have hB2 : B <= w2.heap.size := Nat.le_trans hBwr hb2.size
    have hps : p.data.toList.length <= 2147483648 := by
     have h1 := HOK.out.path
     have h2 : p.data.toList.length = p.size := by rw [Array.length_toList]; rfl
     simp only at h1
     omega
    have hpl := fun W => refPlain p.data.toList hps W
    simp only [strB_eta] at hpl
    obtain ⟨pl, hplv⟩ : ∃ pl, Abs.plain p.data.toList = pl := ⟨_, rfl⟩
    rw [hplv] at hpl
    have n0 : w2.cell? ⟨nb, 0, none⟩ = some (.string p) := b2.cell 0
    have ln := b2.lt
    have hnbB : B <= nb := by rw [<- hnb]; exact hBwr
    clear hb2 gr2 hnb hra'
    go_upto_region 7 with (go_at_call 44; refine (hpl _).mono ?_; rintro e3 w3 ⟨rfl, hb3⟩)
    have b3 := Blk.on b2 hb3
    have HS3 := Lib.hid (HS2.out.on hB2 hb3)
    have hB3 : B <= w3.heap.size := Nat.le_trans hB2 hb3.size
    have n0 : w3.cell? ⟨nb, 0, none⟩ = some (.string p) := b3.cell 0
    have n1 : w3.cell? ⟨nb, 1, none⟩ = some (.bool d) := b3.cell 1
    have n2 : w3.cell? ⟨nb, 2, none⟩ = some (.int .i64 m) := b3.cell 2
    have n3 : w3.cell? ⟨nb, 3, none⟩ = some (.int .i64 tk) := b3.cell 3
    have n4 : w3.cell? ⟨nb, 4, none⟩ = some (.int .i64 o) := b3.cell 4
    have n5 : w3.cell? ⟨nb, 5, none⟩ = some (.slice A q c) := b3.cell 5
    have ln3 := b3.lt
    have HPL := Lib.hid hplv
    have B3 := Lib.hid b3
    clear b2 b3 hb3 hpl hplv
    have hbr : (!pl || decide (m < 0 \/ 511 < m) || decide (o < 0) || (d && (decide (0 < q) || !decide (o = 0)))) = true -> R = none := fun h => HS3.out.stop HX.out (by
     have e : (NodeIt.nd ⟨p, d, m, tk, o, A, c, dat⟩).bad = true := by rw [nd_bad]; simp only; rw [HPL.out, HQ.out]; exact h
     unfold Abs.LS.step
     rw [if_pos e])
    have HBR := Lib.hid hbr
    clear hbr
    cases pl with
    | false =>
      have hb_ : R = none := HBR.out (rfl)
      have HB_ := Lib.hid hb_
      clear hb_
      go_wp2_with fail
      go_returns
      exact ⟨HS3.out.below, .inl ⟨HB_.out, rfl⟩⟩
    | true =>
    by_cases hm0 : m < 0
    · have d1 : decide (m < 0) = true := decide_eq_true hm0
      have hb_ : R = none := HBR.out (by simp [hm0])
      have HB_ := Lib.hid hb_
      clear hb_
      go_wp2_with fail
      go_returns
      exact ⟨HS3.out.below, .inl ⟨HB_.out, rfl⟩⟩
    have d1 : decide (m < 0) = false := decide_eq_false hm0
    by_cases hm5 : 511 < m
    · have d2 : decide (511 < m) = true := decide_eq_true hm5
      have hb_ : R = none := HBR.out (by simp [hm5])
      have HB_ := Lib.hid hb_
      clear hb_
      go_wp2_with fail
      go_returns
      exact ⟨HS3.out.below, .inl ⟨HB_.out, rfl⟩⟩
    have d2 : decide (511 < m) = false := decide_eq_false hm5
    by_cases ho0 : o < 0
    · have d3 : decide (o < 0) = true := decide_eq_true ho0
      have hb_ : R = none := HBR.out (by simp [ho0])
      have HB_ := Lib.hid hb_
      clear hb_
      go_wp2_with fail
      go_returns
      exact ⟨HS3.out.below, .inl ⟨HB_.out, rfl⟩⟩
    have d3 : decide (o < 0) = false := decide_eq_false ho0
    have hlast : (d = true /\ ((0 : Int) < (q : Int) \/ o ≠ 0)) -> R = none := fun h => HBR.out (by
     obtain ⟨h1, h2⟩ := h
     rw [h1]
     rcases h2 with h2 | h2
     · have : 0 < q := by omega
       simp [this]
     · simp [h2])
    have HLAST := Lib.hid hlast
    clear hlast
    by_cases hq0 : d = true /\ (0 : Int) < (q : Int)
    · obtain ⟨rfl, hq1⟩ := hq0
      have d4 : decide ((0 : Int) < (q : Int)) = true := decide_eq_true hq1
      have HB_ : Hid (R = none) := Lib.hid (HLAST.out ⟨rfl, .inl hq1⟩)
      go_wp2_with fail
      go_returns
      exact ⟨HS3.out.below, .inl ⟨HB_.out, rfl⟩⟩
    by_cases hi : d = true /\ o ≠ 0
    · obtain ⟨rfl, ho1⟩ := hi
      have hq1 : ¬ (0 : Int) < (q : Int) := fun h => hq0 ⟨rfl, h⟩
      have d4 : decide ((0 : Int) < (q : Int)) = false := decide_eq_false hq1
      have d5 : (o != 0) = true := by simpa using ho1
      have HB_ : Hid (R = none) := Lib.hid (HLAST.out ⟨rfl, .inr ho1⟩)
      clear hq0
      go_wp2_with fail
      go_returns
      exact ⟨HS3.out.below, .inl ⟨HB_.out, rfl⟩⟩
    have hgood : d = true -> q = 0 /\ o = 0 := fun h => ⟨by
     have : ¬ (0 : Int) < (q : Int) := fun h2 => hq0 ⟨h, h2⟩
     omega, by
     by_cases e : o = 0
     · exact e
     · exact absurd ⟨h, e⟩ hi⟩
    have HGD := Lib.hid hgood
    have hrf := fun W (hW : Below w3.heap.size w3 W) => refFirst W B (some ⟨gb, off, none⟩) nc nn L HL.out hnn (HR.out.below (HS3.out.below.trans (hW.mono hB3))) (Nat.le_trans hB3 hW.size) k _ HX.out
    have HRF := Lib.hid hrf
    clear hgood hq0 hi hrf HBR HLAST
    have hd3 : d = false \/ (d = true /\ q = 0 /\ o = 0) := by
     cases d with
     | false => exact .inl rfl
     | true => exact .inr ⟨rfl, HGD.out rfl⟩
    have hstep : Abs.LS.step s (NodeIt.nd ⟨p, d, m, tk, o, A, c, dat⟩) = match s.first o with
     | some f => if f.mode = m /\ f.tick = tk /\ f.data = dat then s.link f (NodeIt.nd ⟨p, d, m, tk, o, A, c, dat⟩) else none
     | none => s.make (NodeIt.nd ⟨p, d, m, tk, o, A, c, dat⟩) := by
     have e : (NodeIt.nd ⟨p, d, m, tk, o, A, c, dat⟩).bad = false := by
      rw [nd_bad]
      simp only
      rw [HPL.out, HQ.out, decide_eq_false (by omega : ¬ (m < 0 \/ 511 < m)), d3]
      rcases hd3 with h | ⟨h1, h2, h3⟩
      · rw [h]; rfl
      · rw [h1, h2, h3]; rfl
     unfold Abs.LS.step
     rw [if_neg (by rw [e]; decide)]
     rfl
    have HST := Lib.hid hstep
    clear hstep
    have hd4 : d = false \/ (d = true /\ decide ((0 : Int) < (q : Int)) = false /\ (o != 0) = false) := by
     rcases hd3 with h | ⟨h1, h2, h3⟩
     · exact .inl h
     · exact .inr ⟨h1, by rw [h2]; rfl, by rw [h3]; rfl⟩
    have HMM := Lib.hid (And.intro hm0 (And.intro hm5 ho0))
    clear hd3 hm0 hm5 ho0
    rcases hd4 with rfl | ⟨rfl, d4, d5⟩
    all_goals go_upto_region 10 with (go_at_call 45; refine (HRF.out _ (Below.refl _ _)).mono ?_; rintro e4 w4 ⟨hb4, ⟨rfl, hno⟩ | ⟨fi, y, hfik, hy, hyo, hopos, hfno, rfl⟩⟩)
    · have HS4 := Lib.hid (HS3.out.on hB3 hb4)
      have hB4 : B <= w4.heap.size := Nat.le_trans hB3 hb4.size
      have b4 := Blk.on B3.out hb4
      have n0 : w4.cell? ⟨nb, 0, none⟩ = some (.string p) := b4.cell 0
      have n1 : w4.cell? ⟨nb, 1, none⟩ = some (.bool false) := b4.cell 1
      have n2 : w4.cell? ⟨nb, 2, none⟩ = some (.int .i64 m) := b4.cell 2
      have n3 : w4.cell? ⟨nb, 3, none⟩ = some (.int .i64 tk) := b4.cell 3
      have ln4 := b4.lt
      have B4 := Lib.hid b4
      have hfirst : s.first o = none := by
       rw [HS4.out.first o]
       split
       · rcases hno with h | h
         · omega
         · exact find_none h
       · rfl
      have hst : s.step (NodeIt.nd ⟨p, false, m, tk, o, A, c, dat⟩) = s.make (NodeIt.nd ⟨p, false, m, tk, o, A, c, dat⟩) := by rw [HST.out, hfirst]
      have hmk := refMake w4 B t s.T bs HS4.out.tree hB4 (by rw [HS4.out.ok.many]; omega) (by have := HS4.out.ok.next; omega) p.data.toList hps false m tk ⟨HMM.out.1, HMM.out.2.1⟩
      simp only [strB_eta] at hmk
      obtain ⟨RM, hRM⟩ : ∃ RM, s.T.may [] p.data.toList false = RM := ⟨_, rfl⟩
      rw [hRM] at hmk
      have HRM := Lib.hid hRM
      have HSTP := Lib.hid hst
      clear hRM hst hfirst hno b4 hb4
      cases RM with
      | error em =>
        have HB_ : Hid (R = none) := Lib.hid (HS4.out.stop HX.out (by rw [HSTP.out]; exact make_not HRM.out))
        go_wp2_with (go_at_call 47; refine hmk.mono ?_; rintro e5 w5 ⟨hb5, ⟨er, her, rfl⟩, hR5⟩; have hne : ((er : Int) != 0) = true := (by simpa using her); have HER := Lib.hid her; clear her)
        go_returns
        exact ⟨HS4.out.below.trans hb5, .inl ⟨HB_.out, rfl⟩⟩
      | ok dm =>
        obtain ⟨dd, mm⟩ := dm
        obtain ⟨yd, hyd, _⟩ := may_ok HRM.out
        have HYD := Lib.hid hyd
        obtain ⟨nx, hnx⟩ : ∃ nx, s.T.next = nx := ⟨_, rfl⟩
        have HNX := Lib.hid hnx
        obtain ⟨iI, hiI, hI0, hI1, hI2⟩ := info_parts Tryz.infoByte
        have HI := Lib.hid hiI
        have H0' := Lib.hid hI0
        have H1 := Lib.hid hI1
        have H2 := Lib.hid hI2
        have hql : q <= 1048576 := by rw [<- HQ.out]; exact HOK.out.len
        clear hyd hiI hI0 hI1 hI2
        go_upto_region 19 with (go_at_call 47; refine hmk.mono ?_; rintro e5 w5 ⟨hb5, nb2, he5, hR5, hkp5⟩; rw [hnx] at he5; subst he5)
        have hg5 : (s.T.made dd mm (newEnt false m tk dd)).get nx = some (newEnt false m tk dd) := by rw [<- hnx, HS4.out.tree.wf.made_get HYD.out, if_pos rfl]
        have hitem := refItem_at hR5 hg5
        obtain ⟨up, dv, nv, hbk, hup, _, hnv⟩ := hR5.at_ hg5
        obtain ⟨ib, hib⟩ : ∃ ib, bAt (s.T.made dd mm (newEnt false m tk dd)).ents (bs ++ [nb2]) nx = ib := ⟨_, rfl⟩
        rw [hib] at hitem hbk
        have n5 : w5.cell? ⟨nb, 5, none⟩ = some (.slice A q c) := (hkp5 _ _ B4.out).cell 5
        have ln5 := (hkp5 _ _ B4.out).lt
        have k4 : w5.cell? ⟨ib, 4, none⟩ = some dv := hbk.cell 4
        have f4 : w5.frozen? ⟨ib, 4, none⟩ = false := hbk.frozen 4
        have lib := hbk.lt
        have hsrc : Reads w5 B 1 A q (bytesC dat) := by
         obtain ⟨A', c', he, _, _, _, hr⟩ := HOK.out.data
         have e1 : A' = A := by have := he; simp only [NodeIt.dv, Value.slice.injEq] at this; exact this.1.symm
         subst e1
         rw [<- HQ.out]
         exact hr.below (HS4.out.below.trans hb5)
        have hB5 : B <= w5.heap.size := by have := (HS4.out.below.trans hb5).size; rw [HB.out] at this; exact this
        have HSRC := Lib.hid hsrc
        have H5 := Lib.hid (And.intro hb5 hR5)
        have HBK := Lib.hid (And.intro hbk (And.intro hup hnv))
        have HG5 := Lib.hid hg5
        have HIB := Lib.hid hib
        clear hsrc hb5 hR5 hbk hup hnv hg5 hib hkp5
        go_wp2_with (first
         | (at_builtin; refine wpList_append_any _ rfl _ _ 23 rfl w5.heap.size 5 iI (.int .u8 0) 1 1 Tryz.underlying23 HI.out H0'.out H1.out H2.out rfl (by decide) (.slice none 0 0) 0 [] rfl (World.ownsRow_nil _ _ _ _) B A q c (bytesC dat) rfl HSRC.out (bytesC_oneCell dat) (by simp only [maxLen]; omega) (by omega) (by simp) ?_; intro v6 w6 hown6 hg6 hat6
            obtain ⟨A6, c6, rfl, _⟩ := own_slice hown6
            have b6 := HBK.out.1.grown hg6 (fun e => by cases e)
            have k46 : w6.cell? ⟨ib, 4, none⟩ = some dv := b6.cell 4
            have f46 : w6.frozen? ⟨ib, 4, none⟩ = false := b6.frozen 4
            have l46 := b6.lt)
         | (go_at_call 42; refine hitem.mono ?_; rintro e7 w7 ⟨rfl, h7⟩; obtain rfl : w5 = w7 := h7.symm))
        have hmk2 := make_of (s := s) (n := (NodeIt.nd ⟨p, false, m, tk, o, A, c, dat⟩)) HRM.out HS4.out.tree.wf HYD.out (fun h => by cases h)
        obtain ⟨s', hs', hT'⟩ := hmk2
        have hstep' : s.step (NodeIt.nd ⟨p, false, m, tk, o, A, c, dat⟩) = some s' := by rw [HSTP.out, hs']
        have hok' := HS4.out.ok.of_step HOK.out.len hstep'
        have hT2 : s'.T = (s.T.made dd mm (newEnt false m tk dd)).set nx fun x => { x with data := dat } := by rw [hT', hnx]; rfl
        have hb56 : Below w5.heap.size w5 w6 := (Below.refl _ _).grown hg6 (Nat.le_refl _) (fun j hj => by simp [Value.ownBlock] at hj)
        have hTT : Turns [ib] w5 (w6.setCell ⟨ib, 4, none⟩ (.slice A6 q c6)) := (Turns.of_belowF hb56).setCell _ _ (fun _ => List.mem_singleton.2 rfl)
        have hown7 : w6.ownsRow w5.heap.size 5 1 (.slice A6 q c6) dat.length (bytesC dat) := by rw [HQ.out]; simpa using hown6
        have hib : B <= ib := by
         have h1 := H5.out.2.low.2
         obtain ⟨k', _, hk'⟩ := geti_at _ _ _ _ H5.out.2.len HG5.out
         rw [HIB.out] at hk'
         exact h1 _ (List.mem_of_getElem? hk')
        have htree : RTree (w6.setCell ⟨ib, 4, none⟩ (.slice A6 q c6)) B t s'.T (bs ++ [nb2]) := by
         rw [hT2]
         refine H5.out.2.data (dat := dat) (dv' := .slice A6 q c6) HG5.out (by rw [HIB.out]; exact HBK.out.1) HBK.out.2.1 HBK.out.2.2 (by rw [HIB.out]; exact b6.set_ 4 (.slice A6 q c6)) (Joins.ownsRow_le (ownsRow_setCell_other hown7 (own_blk_ne hown7 b6 (by decide)) _) hB5) (by rw [HIB.out]; exact hTT) ?_
         rw [<- hT2]; exact hok'.wf
        refine ⟨⟨k + 1, s', bs ++ [nb2], by omega, rfl, Lib.hid (HS4.out.next HX.out HOK.out.len hstep' ((HS4.out.below.trans H5.out.1).trans (hTT.below hB5 fun g hg => by rw [List.mem_singleton.1 hg]; exact hib)) htree)⟩, by simp only [intOf]; omega⟩
    · have HS4 := Lib.hid (HS3.out.on hB3 hb4)
      have hB4 : B <= w4.heap.size := Nat.le_trans hB3 hb4.size
      have b4 := Blk.on B3.out hb4
      have n0 : w4.cell? ⟨nb, 0, none⟩ = some (.string p) := b4.cell 0
      have n2 : w4.cell? ⟨nb, 2, none⟩ = some (.int .i64 m) := b4.cell 2
      have n3 : w4.cell? ⟨nb, 3, none⟩ = some (.int .i64 tk) := b4.cell 3
      have n5 : w4.cell? ⟨nb, 5, none⟩ = some (.slice A q c) := b4.cell 5
      have ln4 := b4.lt
      have B4 := Lib.hid b4
      have hfirst : s.first o = some y.nd := by
       rw [HS4.out.first o, if_pos hopos]
       exact find_first hfik hy hyo hfno
      have hoky := HN.out y (List.mem_of_getElem? hy)
      obtain ⟨gy, offy, hgy, _, hray⟩ := reads_node (HR.out.below HS4.out.below) HL.out hy
      cases hgy
      have hst : s.step (NodeIt.nd ⟨p, false, m, tk, o, A, c, dat⟩) = if y.nd.mode = m /\ y.nd.tick = tk /\ y.nd.data = dat then s.link y.nd (NodeIt.nd ⟨p, false, m, tk, o, A, c, dat⟩) else none := by rw [HST.out, hfirst]
      obtain ⟨yp, yd, ym, ytk, yo, yA, yc, ydat⟩ := y
      have hst2 : s.step (NodeIt.nd ⟨p, false, m, tk, o, A, c, dat⟩) = if ym = m /\ ytk = tk /\ ydat = dat then s.link (NodeIt.nd ⟨yp, yd, ym, ytk, yo, yA, yc, ydat⟩) (NodeIt.nd ⟨p, false, m, tk, o, A, c, dat⟩) else none := hst
      obtain ⟨qy, hqy⟩ : ∃ qy, ydat.length = qy := ⟨_, rfl⟩
      have y0 : w4.cell? ⟨gb, off + fi * 6, none⟩ = some (.string yp) := hray 0 _ rfl
      have y2 : w4.cell? ⟨gb, off + fi * 6 + 2, none⟩ = some (.int .i64 ym) := hray 2 _ rfl
      have y3 : w4.cell? ⟨gb, off + fi * 6 + 3, none⟩ = some (.int .i64 ytk) := hray 3 _ rfl
      have y5 : w4.cell? ⟨gb, off + fi * 6 + 5, none⟩ = some (.slice yA qy yc) := by rw [<- hqy]; exact hray 5 _ rfl
      have hgl4 : gb < w4.heap.size := Nat.lt_of_lt_of_le hgb hB4
      have hfi0 : (0 : Int) <= (fi : Int) := by omega
      have hfi1 : (fi : Int) < (nn : Int) := by omega
      have rdy : Reads w4 B 1 yA qy (bytesC ydat) := by
       obtain ⟨A', c', he, _, _, _, hr⟩ := hoky.data
       have e1 : A' = yA := by have := he; simp only [NodeIt.dv, Value.slice.injEq] at this; exact this.1.symm
       subst e1
       rw [<- hqy]
       exact hr.below HS4.out.below
      have rdn : Reads w4 B 1 A q (bytesC dat) := by
       obtain ⟨A', c', he, _, _, _, hr⟩ := HOK.out.data
       have e1 : A' = A := by have := he; simp only [NodeIt.dv, Value.slice.injEq] at this; exact this.1.symm
       subst e1
       rw [<- HQ.out]
       exact hr.below HS4.out.below
      obtain ⟨Sy, hSy⟩ : ∃ S, strB ydat = S := ⟨_, rfl⟩
      obtain ⟨Sn, hSn⟩ : ∃ S, strB dat = S := ⟨_, rfl⟩
      have cvy : ∀ W, Below w4.heap.size w4 W -> (convert 23 9 (.slice yA qy yc)).run Tryz.prog W = .ok (.string Sy) W := fun W hW => convOut hSy hqy (by rw [hqy]; exact rdy.below (hW.mono hB4))
      have cvn : ∀ W, Below w4.heap.size w4 W -> (convert 23 9 (.slice A q c)).run Tryz.prog W = .ok (.string Sn) W := fun W hW => convOut hSn HQ.out (by rw [HQ.out]; exact rdn.below (hW.mono hB4))
      have hse : (Sy.toList == Sn.toList) = decide (ydat = dat) := by rw [<- hSy, <- hSn]; exact strB_eq ydat dat
      have hyps : yp.data.toList.length <= 2147483648 := by
       have h1 := hoky.path
       have h2 : yp.data.toList.length = yp.size := by rw [Array.length_toList]; rfl
       simp only at h1
       omega
      have cvy := fun n => cvy _ (below_drewN (Below.refl w4.heap.size w4) n)
      have cvn := fun n => cvn _ (below_drewN (Below.refl w4.heap.size w4) n)
      have HST2 := Lib.hid hst2
      have HY := Lib.hid hy
      clear hst hst2 hfirst hoky hray hSy hSn rdy rdn hqy hyo hfno hy b4 hb4
      by_cases em : ym = m
      · have bm : (ym == m) = true := by simpa using em
        have bm2 : decide (ym = m) = true := decide_eq_true em
        have bm3 : (ym != m) = false := by simpa using em
        by_cases et : ytk = tk
        · have bt : (ytk == tk) = true := by simpa using et
          have bt2 : decide (ytk = tk) = true := decide_eq_true et
          have bt3 : (ytk != tk) = false := by simpa using et
          by_cases ed : ydat = dat
          · rw [decide_eq_true ed] at hse
            have HE := Lib.hid (And.intro em (And.intro et ed))
            clear em et ed
            by_cases hyes : ∃ j dd mm z, s.T.look [] yp.data.toList = .ok j /\ s.T.get j = some z /\ z.dir = false /\ s.T.may [] p.data.toList false = .ok (dd, mm)
            · obtain ⟨j, dd, mm, z, hl1, hl2, hl3, hl4⟩ := hyes
              have hlk : ∀ W, Below w4.heap.size w4 W -> Calls Tryz.prog 46 #[.pointer (some ⟨t, 0, none⟩), .string ⟨#[]⟩, .string yp, .string p] W fun e w' => e = .returned (.int .i64 0) /\ RTree w' B t (s.T.linked dd mm j) bs /\ Below B W w' /\ w'.cell? ⟨gb, off + fi * 6, none⟩ = some (.string yp) /\ w'.cell? ⟨nb, 0, none⟩ = some (.string p) := fun W hW => by
               have h0 := refLink W B t s.T bs (HS4.out.tree.below hW) (Nat.le_trans hB4 hW.size) (by rw [HS4.out.ok.many]; omega) yp.data.toList p.data.toList hyps hps
               simp only [strB_eta] at h0
               refine h0.mono ?_
               rintro e w' ⟨hb, hkp, ⟨er, her, rfl, hnot, hR⟩ | ⟨j', d', n', z', e1, _, _, e4, rfl, hR⟩⟩
               · exact absurd hl4 (hnot j dd mm z hl1 hl2 hl3)
               · rw [hl1] at e1
                 cases e1
                 rw [hl4] at e4
                 cases e4
                 exact ⟨rfl, hR, hb, (hb.cell hgb).trans ((hW.cell hgl4).trans y0), (hkp nb _ (Blk.on B4.out hW)).cell 0⟩
              have hstep' : s.step (NodeIt.nd ⟨p, false, m, tk, o, A, c, dat⟩) = some { s with T := s.T.linked dd mm j } := by
               rw [HST2.out, if_pos HE.out]
               exact link_of hl1 hl2 hl3 hl4
              have HLK := Lib.hid hlk
              have HSTP := Lib.hid hstep'
              clear hlk hstep' hl1 hl2 hl3 hl4
              go_wp2_with fail
              go_quiet (fail)
              go_wp2_with fail
              obtain ⟨V, hV⟩ : ∃ V, w4.drewN nq = V := ⟨_, rfl⟩
              have y0 : V.cell? ⟨gb, off + fi * 6, none⟩ = some (.string yp) := by rw [<- hV]; exact y0
              have n0 : V.cell? ⟨nb, 0, none⟩ = some (.string p) := by rw [<- hV]; exact n0
              have HV := Lib.hid (show Below w4.heap.size w4 V by rw [<- hV]; exact below_drewN (Below.refl _ _) nq)
              rw [hV]
              clear hV
              go_region_held3 (fun W => W.cell? ⟨gb, off + fi * 6, none⟩ = some (.string yp) /\ W.cell? ⟨nb, 0, none⟩ = some (.string p))
               (first | (go_split_ands; refine ⟨?_, ?_⟩ <;> assumption) | go_keep)
               (first | (go_at_call 46; refine (HLK.out _ (by first | exact HV.out | exact below_drewN' HV.out)).mono ?_; rintro e5 w5 ⟨rfl, hR5, hb5, y5, n5'⟩))
              go_wp2_with fail
              have hbV : Below B w V := HS4.out.below.trans (HV.out.mono hB4)
              have hb05 : Below B w w5 := by first | exact (below_drewN' hbV).trans hb5 | exact hbV.trans hb5
              exact ⟨⟨k + 1, _, bs, by omega, rfl, Lib.hid (HS4.out.next HX.out HOK.out.len HSTP.out hb05 hR5)⟩, by simp only [intOf]; omega⟩
            · have HB_ : Hid (R = none) := Lib.hid (HS4.out.stop HX.out (by
               rw [HST2.out, if_pos HE.out]
               exact link_not (fun j d m z h1 h2 h3 h4 => hyes ⟨j, d, m, z, h1, h2, h3, h4⟩) HS4.out.tree.wf))
              have hlk : ∀ W, Below w4.heap.size w4 W -> Calls Tryz.prog 46 #[.pointer (some ⟨t, 0, none⟩), .string ⟨#[]⟩, .string yp, .string p] W fun e w' => (∃ er : Nat, er ≠ 0 /\ e = .returned (.int .i64 (er : Int))) /\ Below B W w' /\ w'.cell? ⟨gb, off + fi * 6, none⟩ = some (.string yp) /\ w'.cell? ⟨nb, 0, none⟩ = some (.string p) := fun W hW => by
               have h0 := refLink W B t s.T bs (HS4.out.tree.below hW) (Nat.le_trans hB4 hW.size) (by rw [HS4.out.ok.many]; omega) yp.data.toList p.data.toList hyps hps
               simp only [strB_eta] at h0
               refine h0.mono ?_
               rintro e w' ⟨hb, hkp, ⟨er, her, rfl, _, _⟩ | ⟨j', d', n', z', e1, e2, e3, e4, _⟩⟩
               · exact ⟨⟨er, her, rfl⟩, hb, (hb.cell hgb).trans ((hW.cell hgl4).trans y0), (hkp nb _ (Blk.on B4.out hW)).cell 0⟩
               · exact absurd ⟨j', d', n', z', e1, e2, e3, e4⟩ hyes
              have HLK := Lib.hid hlk
              clear hlk hyes
              go_wp2_with fail
              go_quiet (fail)
              go_wp2_with fail
              obtain ⟨V, hV⟩ : ∃ V, w4.drewN nq = V := ⟨_, rfl⟩
              have y0 : V.cell? ⟨gb, off + fi * 6, none⟩ = some (.string yp) := by rw [<- hV]; exact y0
              have n0 : V.cell? ⟨nb, 0, none⟩ = some (.string p) := by rw [<- hV]; exact n0
              have HV := Lib.hid (show Below w4.heap.size w4 V by rw [<- hV]; exact below_drewN (Below.refl _ _) nq)
              rw [hV]
              clear hV
              go_region_held3 (fun W => W.cell? ⟨gb, off + fi * 6, none⟩ = some (.string yp) /\ W.cell? ⟨nb, 0, none⟩ = some (.string p))
               (first | (go_split_ands; refine ⟨?_, ?_⟩ <;> assumption) | go_keep)
               (first | (go_at_call 46; refine (HLK.out _ (by first | exact HV.out | exact below_drewN' HV.out)).mono ?_; rintro e5 w5 ⟨⟨er, her, rfl⟩, hb5, y5, n5'⟩; have hne : ((er : Int) != 0) = true := (by simpa using her); have HER := Lib.hid her; clear her))
              go_wp2_with fail
              go_returns
              have hbV : Below B w V := HS4.out.below.trans (HV.out.mono hB4)
              have hb05 : Below B w w5 := by first | exact (below_drewN' hbV).trans hb5 | exact hbV.trans hb5
              exact ⟨hb05, .inl ⟨HB_.out, rfl⟩⟩
          · rw [decide_eq_false ed] at hse
            have HB_ : Hid (R = none) := Lib.hid (HS4.out.stop HX.out (by rw [HST2.out, if_neg (fun h => ed h.2.2)]))
            clear em et ed
            go_wp2_with fail
            go_quiet (fail)
            go_wp2_with fail
            go_returns
            exact ⟨below_drewN HS4.out.below nq, .inl ⟨HB_.out, rfl⟩⟩
        · have bt : (ytk == tk) = false := by simpa using et
          have bt2 : decide (ytk = tk) = false := decide_eq_false et
          have bt3 : (ytk != tk) = true := by simpa using et
          have HB_ : Hid (R = none) := Lib.hid (HS4.out.stop HX.out (by rw [HST2.out, if_neg (fun h => et h.2.1)]))
          clear em et
          go_wp2_with fail
          go_quiet (fail)
          go_wp2_with fail
          go_returns
          exact ⟨below_drewN HS4.out.below nq, .inl ⟨HB_.out, rfl⟩⟩
      · have bm : (ym == m) = false := by simpa using em
        have bm2 : decide (ym = m) = false := decide_eq_false em
        have bm3 : (ym != m) = true := by simpa using em
        have HB_ : Hid (R = none) := Lib.hid (HS4.out.stop HX.out (by rw [HST2.out, if_neg (fun h => em h.1)]))
        clear em
        go_wp2_with fail
        go_quiet (fail)
        go_wp2_with fail
        go_returns
        exact ⟨below_drewN HS4.out.below nq, .inl ⟨HB_.out, rfl⟩⟩
    · have HD0 : Hid (dat.length = 0) := Lib.hid (by have h1 := (HGD.out (by trivial)).1; have h2 := HQ.out; omega)
      clear d4 d5 HGD
      have HS4 := Lib.hid (HS3.out.on hB3 hb4)
      have hB4 : B <= w4.heap.size := Nat.le_trans hB3 hb4.size
      have b4 := Blk.on B3.out hb4
      have n0 : w4.cell? ⟨nb, 0, none⟩ = some (.string p) := b4.cell 0
      have n1 : w4.cell? ⟨nb, 1, none⟩ = some (.bool true) := b4.cell 1
      have n2 : w4.cell? ⟨nb, 2, none⟩ = some (.int .i64 m) := b4.cell 2
      have n3 : w4.cell? ⟨nb, 3, none⟩ = some (.int .i64 tk) := b4.cell 3
      have ln4 := b4.lt
      have B4 := Lib.hid b4
      have hfirst : s.first o = none := by
       rw [HS4.out.first o]
       split
       · rcases hno with h | h
         · omega
         · exact find_none h
       · rfl
      have hst : s.step (NodeIt.nd ⟨p, true, m, tk, o, A, c, dat⟩) = s.make (NodeIt.nd ⟨p, true, m, tk, o, A, c, dat⟩) := by rw [HST.out, hfirst]
      have hmk := refMake w4 B t s.T bs HS4.out.tree hB4 (by rw [HS4.out.ok.many]; omega) (by have := HS4.out.ok.next; omega) p.data.toList hps true m tk ⟨HMM.out.1, HMM.out.2.1⟩
      simp only [strB_eta] at hmk
      obtain ⟨RM, hRM⟩ : ∃ RM, s.T.may [] p.data.toList true = RM := ⟨_, rfl⟩
      rw [hRM] at hmk
      have HRM := Lib.hid hRM
      have HSTP := Lib.hid hst
      clear hRM hst hfirst hno b4 hb4
      cases RM with
      | error em =>
        have HB_ : Hid (R = none) := Lib.hid (HS4.out.stop HX.out (by rw [HSTP.out]; exact make_not HRM.out))
        go_wp2_with (go_at_call 47; refine hmk.mono ?_; rintro e5 w5 ⟨hb5, ⟨er, her, rfl⟩, hR5⟩; have hne : ((er : Int) != 0) = true := (by simpa using her); have HER := Lib.hid her; clear her)
        go_returns
        exact ⟨HS4.out.below.trans hb5, .inl ⟨HB_.out, rfl⟩⟩
      | ok dm =>
        obtain ⟨dd, mm⟩ := dm
        obtain ⟨yd, hyd, _⟩ := may_ok HRM.out
        have HYD := Lib.hid hyd
        obtain ⟨nx, hnx⟩ : ∃ nx, s.T.next = nx := ⟨_, rfl⟩
        have HNX := Lib.hid hnx
        obtain ⟨iI, hiI, hI0, hI1, hI2⟩ := info_parts Tryz.infoByte
        have HI := Lib.hid hiI
        have H0' := Lib.hid hI0
        have H1 := Lib.hid hI1
        have H2 := Lib.hid hI2
        have hql : q <= 1048576 := by rw [<- HQ.out]; exact HOK.out.len
        clear hyd hiI hI0 hI1 hI2
        go_upto_region 19 with (go_at_call 47; refine hmk.mono ?_; rintro e5 w5 ⟨hb5, nb2, he5, hR5, hkp5⟩; rw [hnx] at he5; subst he5)
        have hg5 : (s.T.made dd mm (newEnt true m tk dd)).get nx = some (newEnt true m tk dd) := by rw [<- hnx, HS4.out.tree.wf.made_get HYD.out, if_pos rfl]
        have hitem := refItem_at hR5 hg5
        obtain ⟨up, dv, nv, hbk, hup, _, hnv⟩ := hR5.at_ hg5
        obtain ⟨ib, hib⟩ : ∃ ib, bAt (s.T.made dd mm (newEnt true m tk dd)).ents (bs ++ [nb2]) nx = ib := ⟨_, rfl⟩
        rw [hib] at hitem hbk
        have n5 : w5.cell? ⟨nb, 5, none⟩ = some (.slice A q c) := (hkp5 _ _ B4.out).cell 5
        have ln5 := (hkp5 _ _ B4.out).lt
        have k4 : w5.cell? ⟨ib, 4, none⟩ = some dv := hbk.cell 4
        have f4 : w5.frozen? ⟨ib, 4, none⟩ = false := hbk.frozen 4
        have lib := hbk.lt
        have hsrc : Reads w5 B 1 A q (bytesC dat) := by
         obtain ⟨A', c', he, _, _, _, hr⟩ := HOK.out.data
         have e1 : A' = A := by have := he; simp only [NodeIt.dv, Value.slice.injEq] at this; exact this.1.symm
         subst e1
         rw [<- HQ.out]
         exact hr.below (HS4.out.below.trans hb5)
        have hB5 : B <= w5.heap.size := by have := (HS4.out.below.trans hb5).size; rw [HB.out] at this; exact this
        have HSRC := Lib.hid hsrc
        have H5 := Lib.hid (And.intro hb5 hR5)
        have HBK := Lib.hid (And.intro hbk (And.intro hup hnv))
        have HG5 := Lib.hid hg5
        have HIB := Lib.hid hib
        clear hsrc hb5 hR5 hbk hup hnv hg5 hib hkp5
        have hq0 : q = 0 := by have h1 := HD0.out; have h2 := HQ.out; omega
        subst hq0
        go_wp2_with (first
         | (at_builtin; refine wpList_append_any _ rfl _ _ 23 rfl w5.heap.size 5 iI (.int .u8 0) 1 1 Tryz.underlying23 HI.out H0'.out H1.out H2.out rfl (by decide) (.slice none 0 0) 0 [] rfl (World.ownsRow_nil _ _ _ _) B A 0 c (bytesC dat) rfl HSRC.out (bytesC_oneCell dat) (by simp only [maxLen]; omega) (by omega) (by simp) ?_; intro v6 w6 hown6 hg6 hat6
            obtain ⟨A6, c6, rfl, _⟩ := own_slice hown6
            have b6 := HBK.out.1.grown hg6 (fun e => by cases e)
            have k46 : w6.cell? ⟨ib, 4, none⟩ = some dv := b6.cell 4
            have f46 : w6.frozen? ⟨ib, 4, none⟩ = false := b6.frozen 4
            have l46 := b6.lt)
         | (go_at_call 42; refine hitem.mono ?_; rintro e7 w7 ⟨rfl, h7⟩; obtain rfl : w5 = w7 := h7.symm))
        have hmk2 := make_of (s := s) (n := (NodeIt.nd ⟨p, true, m, tk, o, A, c, dat⟩)) HRM.out HS4.out.tree.wf HYD.out (fun _ => List.eq_nil_of_length_eq_zero HD0.out)
        obtain ⟨s', hs', hT'⟩ := hmk2
        have hstep' : s.step (NodeIt.nd ⟨p, true, m, tk, o, A, c, dat⟩) = some s' := by rw [HSTP.out, hs']
        have hok' := HS4.out.ok.of_step HOK.out.len hstep'
        have hT2 : s'.T = (s.T.made dd mm (newEnt true m tk dd)).set nx fun x => { x with data := dat } := by rw [hT', hnx]; rfl
        have hb56 : Below w5.heap.size w5 w6 := (Below.refl _ _).grown hg6 (Nat.le_refl _) (fun j hj => by simp [Value.ownBlock] at hj)
        have hTT : Turns [ib] w5 (w6.setCell ⟨ib, 4, none⟩ (.slice A6 0 c6)) := (Turns.of_belowF hb56).setCell _ _ (fun _ => List.mem_singleton.2 rfl)
        have hown7 : w6.ownsRow w5.heap.size 5 1 (.slice A6 0 c6) dat.length (bytesC dat) := by rw [HQ.out]; simpa using hown6
        have hib : B <= ib := by
         have h1 := H5.out.2.low.2
         obtain ⟨k', _, hk'⟩ := geti_at _ _ _ _ H5.out.2.len HG5.out
         rw [HIB.out] at hk'
         exact h1 _ (List.mem_of_getElem? hk')
        have htree : RTree (w6.setCell ⟨ib, 4, none⟩ (.slice A6 0 c6)) B t s'.T (bs ++ [nb2]) := by
         rw [hT2]
         refine H5.out.2.data (dat := dat) (dv' := .slice A6 0 c6) HG5.out (by rw [HIB.out]; exact HBK.out.1) HBK.out.2.1 HBK.out.2.2 (by rw [HIB.out]; exact b6.set_ 4 (.slice A6 0 c6)) (Joins.ownsRow_le (ownsRow_setCell_other hown7 (own_blk_ne hown7 b6 (by decide)) _) hB5) (by rw [HIB.out]; exact hTT) ?_
         rw [<- hT2]; exact hok'.wf
        refine ⟨⟨k + 1, s', bs ++ [nb2], by omega, rfl, Lib.hid (HS4.out.next HX.out HOK.out.len hstep' ((HS4.out.below.trans H5.out.1).trans (hTT.below hB5 fun g hg => by rw [List.mem_singleton.1 hg]; exact hib)) htree)⟩, by simp only [intOf]; omega⟩
    · exfalso
      have h0 : o = 0 := by simpa using d5
      omega
    · exfalso
      have h0 := of_decide_eq_false d4
      omega
  · obtain rfl : k = nn := by omega
    have hf : R = some s := by
     have := HS.out.rest
     rw [List.drop_of_length_le (by rw [HL.out]; exact Nat.le_refl _)] at this
     exact this.symm
    have HF := Lib.hid hf
    clear hf
    go_wp2_with fail
    go_returns
    exact ⟨HS.out.below, .inr ⟨s, t, bs, HF.out, HS.out.ok, rfl, HS.out.tree⟩⟩
end
end Go.Proofs.YtffffjngodinnaaGreatDoor
