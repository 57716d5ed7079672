/-
  Parts of the proof.
-/
import Derived.Test.YtffffjngodinnaaGreatDoorV42
namespace Go.Proofs.YtffffjngodinnaaGreatDoor
section
set_option maxRecDepth 100000
open Go.RowKit Go.Maps Go.Shelf
theorem nodes_setIno {w : World} {B n k g cap : Nat} {L : List NodeIt} {x : NodeIt} {z : Int} (h : w.ownsRow B 111 6 (.slice (some ⟨g, 0, none⟩) n cap) n (nodesC L)) (hL : L.length = n) (hx : L[k]? = some x) : (w.setCell ⟨g, k * 6 + 4, none⟩ (.int .i64 z)).ownsRow B 111 6 (.slice (some ⟨g, 0, none⟩) n cap) n (nodesC (L.set k { x with ino := z })) := by
 have hk : k < n := by rw [<- hL]; exact (List.getElem?_eq_some_iff.1 hx).1
 obtain ⟨g', cap', cur, hv, hb, hg, h1, h2, h3, h4⟩ := nodes_block h hk
 cases hv
 refine ⟨by rw [nodesC_len, List.length_set, hL], .inr ⟨g, cap, _, rfl, hb, hg.set_ (k * 6 + 4) _, h1, h2, by rw [Array.size_setIfInBounds]; exact h3, ?_⟩⟩
 apply List.ext_getElem?
 intro j
 have hcap : n * 6 <= cap * 6 := Nat.mul_le_mul_right _ h1
 by_cases hj : j < n * 6
 · rw [List.getElem?_take_of_lt hj, Array.getElem?_toList, Array.getElem?_setIfInBounds]
   have hjj : j / 6 * 6 + j % 6 = j := Nat.div_add_mod' j 6
   have hcur : cur[j]? = (nodesC L)[j]? := by rw [<- h4, List.getElem?_take_of_lt hj, Array.getElem?_toList]
   by_cases e : j / 6 = k
   · have hs : (L.set k { x with ino := z })[j / 6]? = some { x with ino := z } := by rw [e, List.getElem?_set_self (by omega)]
     have e1 := nodesC_at hs (j % 6) (by omega)
     rw [hjj] at e1
     rw [e1]
     have e2 := nodesC_at (e.symm ▸ hx : L[j / 6]? = some x) (j % 6) (by omega)
     rw [hjj, <- hcur] at e2
     by_cases e4 : k * 6 + 4 = j
     · rw [if_pos e4, if_pos (by omega), show j % 6 = 4 by omega]
       rfl
     · rw [if_neg e4, e2]
       have h6 : j % 6 < 6 := by omega
       have h4' : j % 6 ≠ 4 := by omega
       obtain ⟨r, hr⟩ : ∃ r, j % 6 = r := ⟨_, rfl⟩
       rw [hr] at h6 h4' ⊢
       match r, h6, h4' with
       | 0, _, _ => rfl
       | 1, _, _ => rfl
       | 2, _, _ => rfl
       | 3, _, _ => rfl
       | 4, _, h => exact absurd rfl h
       | 5, _, _ => rfl
   · obtain ⟨y, hy⟩ : ∃ y, L[j / 6]? = some y := ⟨_, List.getElem?_eq_getElem (by omega)⟩
     have hs : (L.set k { x with ino := z })[j / 6]? = some y := by rw [List.getElem?_set_ne (fun e2 => e e2.symm)]; exact hy
     have e1 := nodesC_at hs (j % 6) (by omega)
     have e2 := nodesC_at hy (j % 6) (by omega)
     rw [hjj] at e1 e2
     rw [e1, <- e2, <- hcur, if_neg (by omega)]
 · rw [List.getElem?_eq_none (by rw [List.length_take]; omega), List.getElem?_eq_none (by rw [nodesC_len, List.length_set, hL]; omega)]
structure SortSt (w : World) (v : Value) (n : Nat) (L M : List NodeIt) (wr : World) : Prop where
 below : Below w.heap.size w wr
 row : wr.ownsRow w.heap.size 111 6 v n (nodesC M)
 data : ∀ x ∈ L, wr.ownsRow w.heap.size 5 1 x.dv x.data.length (bytesC x.data)
theorem SortSt.below_ {w wr w1 : World} {v : Value} {n : Nat} {L M : List NodeIt} (h : SortSt w v n L M wr) (hb : Below wr.heap.size wr w1) : SortSt w v n L M w1 := ⟨h.below.trans (hb.mono h.below.size), own_on h.row hb, fun x hx => own_on (h.data x hx) hb⟩
theorem SortSt.set {w wr : World} {g cap n k : Nat} {L M : List NodeIt} {y : NodeIt} (h : SortSt w (.slice (some ⟨g, 0, none⟩) n cap) n L M wr) (hM : M.length = n) (hk : k < n) : SortSt w (.slice (some ⟨g, 0, none⟩) n cap) n L (M.set k y) (wr.setCells g (k * 6) (nodeC y)) := by
 obtain ⟨g', cap', cur, hv, hb, hg, _⟩ := nodes_block h.row hk
 cases hv
 have hT : Turns [g] wr (wr.setCells g (k * 6) (nodeC y)) := (Turns.refl _ wr).setMany _ _ (fun _ => List.mem_singleton.2 rfl)
 refine ⟨h.below.trans (hT.below h.below.size fun j hj => by rw [List.mem_singleton.1 hj]; exact hb), nodes_set h.row hM hk, fun x hx => ownsRow_same (h.data x hx) fun j hj => hT.block j ((h.data x hx).lt j hj).2 ?_⟩
 rw [List.mem_singleton]
 rintro rfl
 exact own_ne (h.data x hx) hg (by decide) hj
structure NumSt (w : World) (v v2 : Value) (n : Nat) (L M O : List NodeIt) (T : Abs.T) (S : List (List UInt8 × Nat)) (i : Nat) (wr : World) : Prop where
 below : Below w.heap.size w wr
 row : wr.ownsRow w.heap.size 111 6 v n (nodesC M)
 data : ∀ x ∈ L, wr.ownsRow w.heap.size 5 1 x.dv x.data.length (bytesC x.data)
 out : wr.ownsRow w.heap.size 111 6 v2 n (nodesC O)
 apart : v.ownBlock = none \/ v.ownBlock ≠ v2.ownBlock
 len : O.length = n
 done : (O.take i).map NodeIt.nd = (S.take i).map (Abs.nodeR T S)
 rest : O.drop i = M.drop i
 same : ∀ x ∈ O, ∃ y ∈ L, x.dv = y.dv /\ x.data = y.data
structure NumMid (w : World) (v v2 : Value) (n : Nat) (L M O : List NodeIt) (wr : World) : Prop where
 below : Below w.heap.size w wr
 row : wr.ownsRow w.heap.size 111 6 v n (nodesC M)
 data : ∀ x ∈ L, wr.ownsRow w.heap.size 5 1 x.dv x.data.length (bytesC x.data)
 out : wr.ownsRow w.heap.size 111 6 v2 n (nodesC O)
 apart : v.ownBlock = none \/ v.ownBlock ≠ v2.ownBlock
theorem NumMid.below_ {w wr w1 : World} {v v2 : Value} {n : Nat} {L M O : List NodeIt} (h : NumMid w v v2 n L M O wr) (hb : Below wr.heap.size wr w1) : NumMid w v v2 n L M O w1 := ⟨h.below.trans (hb.mono h.below.size), own_on h.row hb, fun x hx => own_on (h.data x hx) hb, own_on h.out hb, h.apart⟩
theorem NumMid.setIno {w wr : World} {v : Value} {g c2 n k : Nat} {L M O : List NodeIt} {x : NodeIt} {z : Int} (h : NumMid w v (.slice (some ⟨g, 0, none⟩) n c2) n L M O wr) (hO : O.length = n) (hx : O[k]? = some x) : NumMid w v (.slice (some ⟨g, 0, none⟩) n c2) n L M (O.set k { x with ino := z }) (wr.setCell ⟨g, k * 6 + 4, none⟩ (.int .i64 z)) := by
 have hk : k < n := by rw [<- hO]; exact (List.getElem?_eq_some_iff.1 hx).1
 obtain ⟨g', cap', cur, hv, hb, hg, _⟩ := nodes_block h.out hk
 cases hv
 refine ⟨h.below.setCell (p := ⟨g, k * 6 + 4, none⟩) hb _, ownsRow_setCell_other h.row (fun e => ?_) _, fun y hy => ownsRow_setCell_other (h.data y hy) (own_ne (h.data y hy) hg (by decide)) _, nodes_setIno h.out hO hx, h.apart⟩
 rcases h.apart with h1 | h1
 · rw [h1] at e; cases e
 · exact h1 (by rw [e]; rfl)
set_option maxHeartbeats 8000000 in
theorem refDump (w : World) (B t : Nat) (T : Abs.T) (bs : List Nat) (h : RTree w B t T bs) (hsort : ∀ W, Below w.heap.size w W -> Calls Tryz.prog 54 #[.pointer (some ⟨t, 0, none⟩), .pointer (some ⟨bAt T.ents bs 1, 0, none⟩), .string ⟨#[]⟩] W (WalkOk W T 12 1 []))
 (hdet : ∀ a ∈ T.walkN 12 1 [], ∀ b ∈ T.walkN 12 1 [], a.1 = b.1 -> a = b) (hlive : ∀ a ∈ T.walkN 12 1 [], ∃ x, T.get a.2 = some x) (hmany : (T.walkN 12 1 []).length <= 1048576) :
 Calls Tryz.prog 23 #[.pointer (some ⟨t, 0, none⟩)] w fun e w' => ∃ v Ns, e = .returned v /\ NodesOwn w' w.heap.size v Ns /\ Ns.map NodeIt.nd = T.dump /\ Below w.heap.size w w' := by
 obtain ⟨xr, hxr, _⟩ := h.wf.root
 have hitem := refItem_at h hxr
 have hwalk := hsort w (Below.refl _ _)
 have HDET := Lib.hid hdet
 have HLIVE := Lib.hid hlive
 have HMANY := Lib.hid hmany
 clear hsort hdet hlive hmany h hxr
 go_enter Tryz.func23, Tryz.ntmps23
 go_wp2_with (first
  | (go_at_call 42; refine hitem.mono ?_; rintro e1 w1 ⟨rfl, h1⟩; obtain rfl : w = w1 := h1.symm)
  | (go_at_call 54; refine hwalk.mono ?_; rintro e1 w1 ⟨v, L, rfl, hown, hnd, hb1⟩))
 obtain ⟨A, c, e, _⟩ := own_slice hown.row
 subst e
 obtain ⟨n, hn⟩ : ∃ n, L.length = n := ⟨_, rfl⟩
 have hn2 : n <= 1048576 := by
  have := congrArg List.length hnd
  rw [List.length_map, List.length_map] at this
  rw [<- hn, this]; exact HMANY.out
 rw [hn] at hown ⊢
 have hS0 : SortSt w (.slice A n c) n L L w1 := ⟨hb1, by rw [<- hn]; rw [<- hn] at hown; exact hown.row, hown.data⟩
 have HS0 := Lib.hid hS0
 have HN := Lib.hid hn
 have HND := Lib.hid hnd
 clear hown hnd hb1 hwalk hitem hS0 hn
 go_loopw [4] (fun iv wr => ∃ (i : Nat) (M : List NodeIt), 1 <= i /\ (i <= n \/ i = 1) /\ iv = .int .i64 (i : Int) /\ Hid (InsOut L M i) /\ Hid (SortSt w (.slice A n c) n L M wr)) (fun iv _ => n - (intOf iv).toNat)
 case atStart => exact ⟨1, L, Nat.le_refl _, .inr rfl, rfl, Lib.hid ⟨List.Perm.refl _, by
  cases L with
  | nil => simp
  | cons a l => simp⟩, HS0⟩
 case round =>
  obtain ⟨i, M, hi1, hin, rfl, HI, HS⟩ := hrel
  by_cases hlt : i < n
  · have hML : M.length = n := by rw [HI.out.perm.length_eq]; exact HN.out
    obtain ⟨x, hx⟩ : ∃ x, M[i]? = some x := ⟨_, List.getElem?_eq_getElem (by omega)⟩
    obtain ⟨g, cap, cur, hv, hgB, hgb, _⟩ := nodes_block HS.out.row hlt
    cases hv
    have hlg := hgb.lt
    have HI0 := Lib.hid (HI.out.start hx)
    have HX0 := Lib.hid (And.intro hx hML)
    clear hx hML hgb hgB
    go_upto_region 5 with fail
    go_upto_region 6 with fail
    go_loopw [5] (fun kv W => ∃ (k : Nat) (M' A' C' D' : List NodeIt), k <= i /\ kv = .int .i64 (k : Int) /\ Hid (InsIn L M' i k x A' C' D') /\ Hid (SortSt w (.slice (some ⟨g, 0, none⟩) n c) n L M' W)) (fun kv _ => (intOf kv).toNat)
    case atStart => exact ⟨i, M, _, _, _, Nat.le_refl _, rfl, HI0, HS⟩
    case round =>
     obtain ⟨k, M', A', C', D', hk, rfl, HJ, HT⟩ := hrel
     by_cases hk0 : k = 0
     · subst hk0
       have hA : A' = [] := List.eq_nil_of_length_eq_zero HJ.out.la
       have hst := HJ.out.stop (by rw [hA]; simp)
       have HST := Lib.hid hst
       clear hA hst
       go_wp2_with fail
       go_quiet (fail)
       go_wp2_with fail
       exact ⟨⟨i + 1, M', by omega, .inl (by omega), rfl, HST, Lib.hid (HT.out.below_ (below_drewN (Below.refl _ _) nq))⟩, by simp only [intOf]; omega⟩
     · obtain ⟨k', rfl⟩ : ∃ k', k = k' + 1 := ⟨k - 1, by omega⟩
       have hM'L : M'.length = n := by rw [HJ.out.perm.length_eq]; exact HN.out
       have hxk : M'[k' + 1]? = some x := by
        rw [HJ.out.eq, List.getElem?_append_right (by rw [HJ.out.la]; omega), HJ.out.la]
        simp
       obtain ⟨y, hy⟩ : ∃ y, M'[k']? = some y := ⟨_, List.getElem?_eq_getElem (by omega)⟩
       have rx := nodes_range HT.out.row hxk (by omega)
       have ry := nodes_range HT.out.row hy (by omega)
       have cx : wr.cell? ⟨g, (k' + 1) * 6, none⟩ = some (.string x.path) := rx 0 _ rfl
       have cy : wr.cell? ⟨g, k' * 6, none⟩ = some (.string y.path) := ry 0 _ rfl
       have hlg : g < wr.heap.size := by
        obtain ⟨g', cap', cur', hv, _, hb, _⟩ := nodes_block HT.out.row hlt
        cases hv
        exact hb.lt
       have hk1 : decide ((0 : Int) < ((k' + 1 : Nat) : Int)) = true := decide_eq_true (by omega)
       have hk2 : (0 : Int) <= (k' : Int) := by omega
       have hk3 : (k' : Int) + 1 < (n : Int) := by omega
       have hbl := bytesLess_nlt x.path.toList y.path.toList
       obtain ⟨b, hb⟩ : ∃ b, Abs.nlt x.path.toList y.path.toList = b := ⟨_, rfl⟩
       rw [hb] at hbl
       have hbp : Abs.nlt x.nd.path y.nd.path = b := by
        show Abs.nlt x.path.data.toList y.path.data.toList = b
        rw [<- Lib.toList_data, <- Lib.toList_data]; exact hb
       have HBP := Lib.hid hbp
       have HXK := Lib.hid (And.intro hxk (And.intro hy hM'L))
       have HRX := Lib.hid (And.intro rx ry)
       clear hb hbp hxk hy hM'L rx ry
       cases b with
       | false =>
         have hst := HJ.out.stop (by
          intro a ha
          have hla := HJ.out.la
          rcases List.eq_nil_or_concat A' with e | ⟨A2, l, e⟩
          · rw [e] at ha; simp at ha
          · rw [List.concat_eq_append] at e
            subst e
            simp only [List.length_append, List.length_singleton] at hla
            simp at ha
            subst ha
            have hyl := HXK.out.2.1
            rw [HJ.out.eq, List.append_assoc, List.getElem?_append_right (by omega), show k' - A2.length = 0 by omega] at hyl
            simp at hyl
            subst hyl
            exact HBP.out)
         have HST := Lib.hid hst
         clear hst
         go_wp2_with fail
         go_quiet (fail)
         go_wp2_with fail
         exact ⟨⟨i + 1, M', by omega, .inl (by omega), rfl, HST, Lib.hid (HT.out.below_ (below_drewN (Below.refl _ _) nq))⟩, by simp only [intOf]; omega⟩
       | true =>
         obtain ⟨A2, hdn, _⟩ := HJ.out.down HXK.out.2.1 HBP.out
         have HDN := Lib.hid hdn
         clear hdn
         go_wp2_with fail
         go_quiet (fail)
         go_upto_region 8 with fail
         obtain ⟨V, hV⟩ : ∃ V, wr.drewN nq = V := ⟨_, rfl⟩
         have hSV : SortSt w (.slice (some ⟨g, 0, none⟩) n c) n L M' V := by rw [<- hV]; exact HT.out.below_ (below_drewN (Below.refl _ _) nq)
         rw [hV]
         have HSV := Lib.hid hSV
         have hox : (nodeC x).toArray.all (·.oneCell') = true := by simp [nodeC, NodeIt.dv, Value.oneCell']
         have hoy : (nodeC y).toArray.all (·.oneCell') = true := by simp [nodeC, NodeIt.dv, Value.oneCell']
         have hk4 : k' + 1 < n := by omega
         have hlgV : g < V.heap.size := by rw [<- hV]; exact hlg
         clear hV hSV
         go_upto_region 7 with (first
          | (refine wpList_load_mid rfl _ _ rfl g ((k' + 1) * 6) rfl (nodeC x) _ (nodes_range HSV.out.row HXK.out.1 hk4) Tryz.underlying111 rfl (by kernel_rfl) ?_)
          | (refine wpList_store_blk rfl 111 (.tmp 6) (.tmp 42) rfl V.heap.size 111 #[.string ⟨#[]⟩, .bool false, .int .i64 0, .int .i64 0, .int .i64 0, .slice none 0 0] (nodeC x).toArray rfl rfl (Blk.new V _ _) rfl (by kernel_rfl) hox ?_
             intro w2 b2 gr2
             have hb2 : Below V.heap.size V w2 := (below_one V _).grown gr2 (by simp) (fun j hj => by cases hj; exact Nat.le_refl _)
             have hS2 := HSV.out.below_ hb2
             have hlg2 : g < w2.heap.size := Nat.lt_of_lt_of_le hlgV hb2.size)
          | (refine wpList_load_mid rfl _ _ rfl g (k' * 6) rfl (nodeC y) _ (nodes_range hS2.row HXK.out.2.1 (by omega)) Tryz.underlying111 rfl (by kernel_rfl) ?_)
          | (refine wpList_store_mid rfl 111 (.tmp 50) (.tmp 49) rfl g ((k' + 1) * 6) (nodeC y).toArray rfl rfl (nodes_there hS2.row hk4) (by kernel_rfl) hoy ?_
             obtain ⟨w3, hw3⟩ : ∃ w3, w2.setCells g ((k' + 1) * 6) (nodeC y).toArray.toList = w3 := ⟨_, rfl⟩
             rw [hw3]
             have hS3 : SortSt w (.slice (some ⟨g, 0, none⟩) n c) n L (M'.set (k' + 1) y) w3 := by rw [<- hw3]; exact hS2.set HXK.out.2.2 hk4
             have b3 : Blk w3 V.heap.size 111 (nodeC x).toArray := by
              rw [<- hw3]
              exact (((Turns.refl [g] w2).setMany _ _ (fun _ => List.mem_singleton.2 rfl)).block _ b2.lt (by rw [List.mem_singleton]; omega)).trans b2
             have hlg3 : g < w3.heap.size := by
              obtain ⟨g', cap', cur', hv, _, hb, _⟩ := nodes_block hS3.row hlt
              cases hv
              exact hb.lt
             clear hw3)
          | (refine wpList_load_mid rfl _ _ rfl V.heap.size 0 rfl (nodeC x) _ (blk_range b3) Tryz.underlying111 rfl (by kernel_rfl) ?_)
          | (refine wpList_store_mid rfl 111 (.tmp 55) (.tmp 54) rfl g (k' * 6) (nodeC x).toArray rfl rfl (nodes_there hS3.row (by omega)) (by kernel_rfl) hox ?_
             obtain ⟨w4, hw4⟩ : ∃ w4, w3.setCells g (k' * 6) (nodeC x).toArray.toList = w4 := ⟨_, rfl⟩
             rw [hw4]
             have hS4 : SortSt w (.slice (some ⟨g, 0, none⟩) n c) n L ((M'.set (k' + 1) y).set k' x) w4 := by rw [<- hw4]; exact hS3.set (by rw [List.length_set]; exact HXK.out.2.2) (by omega)
             clear hw4))
         have HS4 := Lib.hid hS4
         clear hS4 hS3 hS2 b3 b2 gr2 hb2
         go_wp2_with fail
         exact ⟨⟨k', _, A2, y :: C', D', by omega, rfl, HDN, HS4⟩, by simp only [intOf]; omega⟩
  · have hsorted : M.map NodeIt.nd = (sortT (T.walkN 12 1 [])).map (Abs.rawOf T) := by
     refine Abs.sorted_eq HDET.out ?_ ?_
     · rw [<- HND.out]; exact HI.out.perm.map _
     · have h1 := HI.out.sorted
       rw [List.take_of_length_le (by rw [HI.out.perm.length_eq, HN.out]; omega)] at h1
       rw [List.pairwise_map]
       exact h1
    have HSO := Lib.hid hsorted
    clear hsorted
    have hLM : M.length = n := by rw [HI.out.perm.length_eq]; exact HN.out
    have hr0 : Reads wr wr.heap.size 6 A n (nodesC M) := by
     obtain ⟨A', c', e, _, _, h⟩ := own_slice HS.out.row
     cases e
     exact h
    obtain ⟨iS, hiS, hS0, hS1, hS2⟩ := info_parts Tryz.infoNode
    have HIs := Lib.hid hiS
    have H0 := Lib.hid hS0
    have H1 := Lib.hid hS1
    have H2 := Lib.hid hS2
    have HRD := Lib.hid hr0
    have HLM := Lib.hid hLM
    have hws := HS.out.below.size
    clear hiS hS0 hS1 hS2 hr0 hLM
    go_upto_region 12 with (at_builtin; refine wpList_append_any _ rfl _ _ 24 rfl wr.heap.size 111 iS (.agg #[.string ⟨#[]⟩, .bool false, .int .i64 0, .int .i64 0, .int .i64 0, .slice none 0 0]) 6 72 Tryz.underlying24 HIs.out H0.out H1.out H2.out rfl (by decide) (.slice none 0 0) 0 [] rfl (World.ownsRow_nil _ _ _ _) wr.heap.size A n c (nodesC M) rfl HRD.out (nodesC_one M) (by simp only [maxLen]; omega) (by omega) (Nat.le_refl _) ?_; intro v2 w2 hown2 hg2 hat2
                            simp only [Nat.zero_add, List.nil_append] at hown2
                            obtain ⟨A2, c2, rfl, _⟩ := own_slice hown2)
    have hb2 : Below wr.heap.size wr w2 := (Below.refl _ wr).grown hg2 (Nat.le_refl _) (fun k hk => by simp [Value.ownBlock] at hk)
    have hap : (Value.slice A n c).ownBlock = none \/ (Value.slice A n c).ownBlock ≠ (Value.slice A2 n c2).ownBlock := by
     cases hA : (Value.slice A n c).ownBlock with
     | none => exact .inl rfl
     | some g =>
       refine .inr fun e => ?_
       have h1 := (HS.out.row.lt g hA).2
       have h2 := (hown2.lt g e.symm).1
       omega
    have hN0 : NumSt w (.slice A n c) (.slice A2 n c2) n L M M T (sortT (T.walkN 12 1 [])) 0 w2 := by
     have h1 := HS.out.below_ hb2
     exact ⟨h1.below, h1.row, h1.data, Joins.ownsRow_le hown2 hws, hap, HLM.out, by simp, rfl, fun y hy => ⟨y, HI.out.perm.subset hy, rfl, rfl⟩⟩
    have HN0 := Lib.hid hN0
    clear hN0 hap hb2 hown2 hg2 hat2
    go_wp2_with fail
    go_loopw [8] (fun iv wr => ∃ (j : Nat) (O : List NodeIt), j <= n /\ iv = .int .i64 (j : Int) /\ Hid (NumSt w (.slice A n c) (.slice A2 n c2) n L M O T (sortT (T.walkN 12 1 [])) j wr)) (fun iv _ => n - (intOf iv).toNat)
    case atStart => exact ⟨0, M, Nat.zero_le _, rfl, HN0⟩
    case round =>
     obtain ⟨j, O, hj, rfl, HO⟩ := hrel
     by_cases hjn : j < n
     · obtain ⟨x, hx⟩ : ∃ x, M[j]? = some x := ⟨_, List.getElem?_eq_getElem (by rw [HLM.out]; exact hjn)⟩
       have hSl : (sortT (T.walkN 12 1 [])).length = n := by
        have := congrArg List.length HSO.out
        rw [List.length_map, List.length_map, HLM.out] at this
        exact this.symm
       obtain ⟨a, ha⟩ : ∃ a, (sortT (T.walkN 12 1 []))[j]? = some a := ⟨_, List.getElem?_eq_getElem (by rw [hSl]; exact hjn)⟩
       have hall : ∀ (q : Nat) (z : NodeIt) (b : List UInt8 × Nat), M[q]? = some z -> (sortT (T.walkN 12 1 []))[q]? = some b -> z.nd = Abs.rawOf T b /\ z.ino = (b.2 : Int) := fun q z b hz hb => by
        have h1 := congrArg (fun l => l[q]?) HSO.out
        simp only [List.getElem?_map, hz, hb, Option.map_some, Option.some.injEq] at h1
        obtain ⟨e, he⟩ := HLIVE.out b (mem_sortT.1 (List.mem_of_getElem? hb))
        refine ⟨h1, ?_⟩
        have h2 := congrArg Abs.Nd.ino h1
        unfold Abs.rawOf at h2
        rw [he] at h2
        exact h2
       obtain ⟨e, he⟩ := HLIVE.out a (mem_sortT.1 (List.mem_of_getElem? ha))
       obtain ⟨hxa, hxi⟩ := hall j x a hx ha
       have hxo : O[j]? = some x := by
        have h1 := congrArg (fun l => l[0]?) HO.out.rest
        simpa [hx] using h1
       have hxd : x.dir = e.dir := by
        have h2 := congrArg Abs.Nd.dir hxa
        unfold Abs.rawOf at h2
        rw [he] at h2
        exact h2
       have hstep : ∀ (z : Int) (W : World), z = (if e.dir then 0 else ((Abs.idx (sortT (T.walkN 12 1 [])) a.2 + 1 : Nat) : Int)) -> NumMid w (.slice A n c) (.slice A2 n c2) n L M (O.set j { x with ino := z }) W -> NumSt w (.slice A n c) (.slice A2 n c2) n L M (O.set j { x with ino := z }) T (sortT (T.walkN 12 1 [])) (j + 1) W := fun z W hz hm => by
        refine ⟨hm.below, hm.row, hm.data, hm.out, hm.apart, by rw [List.length_set]; exact HO.out.len, ?_, ?_, ?_⟩
        · have hjo : j < (O.set j { x with ino := z }).length := by rw [List.length_set, HO.out.len]; exact hjn
          rw [List.take_add_one, List.take_add_one, List.map_append, List.map_append, List.getElem?_set_self (by rw [HO.out.len]; exact hjn), ha, List.take_set_of_le (Nat.le_refl _), HO.out.done]
          congr 1
          simp only [Option.toList_some, List.map_cons, List.map_nil, List.cons.injEq, and_true]
          have hxn : x.nd = ⟨a.1, e.dir, e.mode, e.tick, (a.2 : Int), e.data⟩ := by
           rw [hxa]; unfold Abs.rawOf; rw [he]
          unfold Abs.nodeR
          rw [he, hz]
          unfold NodeIt.nd at hxn ⊢
          simp only [Abs.Nd.mk.injEq] at hxn ⊢
          exact ⟨hxn.1, hxn.2.1, hxn.2.2.1, hxn.2.2.2.1, by trivial, hxn.2.2.2.2.2⟩
        · rw [List.drop_set_of_lt (by omega)]
          have h1 := congrArg (List.drop 1) HO.out.rest
          simpa [List.drop_drop, Nat.add_comm] using h1
        · intro y hy
          rcases List.mem_or_eq_of_mem_set hy with hy | rfl
          · exact HO.out.same y hy
          · exact ⟨x, HI.out.perm.subset (List.mem_of_getElem? hx), rfl, rfl⟩
       obtain ⟨g, cap, cur, hv, hgB, hgb, _⟩ := nodes_block HO.out.row hjn
       cases hv
       obtain ⟨g2, cap2, cur2, hv2, hgB2, hgb2, _⟩ := nodes_block HO.out.out hjn
       cases hv2
       obtain ⟨xd, hxdd⟩ : ∃ xd, x.dir = xd := ⟨_, rfl⟩
       obtain ⟨xi, hxii⟩ : ∃ xi, x.ino = xi := ⟨_, rfl⟩
       have o4 : wr.cell? ⟨g2, j * 6 + 4, none⟩ = some (.int .i64 xi) := by rw [<- hxii]; exact nodes_range HO.out.out hxo hjn 4 _ rfl
       have fo4 : wr.frozen? ⟨g2, j * 6 + 4, none⟩ = false := (nodes_there HO.out.out hjn 4 (by decide)).2
       have lg2 := hgb2.lt
       have hj0 : (0 : Int) <= (j : Int) := by omega
       have hj1 : (j : Int) < (n : Int) := by omega
       have hM1 : NumMid w (.slice (some ⟨g, 0, none⟩) n c) (.slice (some ⟨g2, 0, none⟩) n c2) n L M (O.set j { x with ino := 0 }) (wr.setCell ⟨g2, j * 6 + 4, none⟩ (.int .i64 0)) := NumMid.setIno (x := x) ⟨HO.out.below, HO.out.row, HO.out.data, HO.out.out, HO.out.apart⟩ HO.out.len hxo
       have HM1 := Lib.hid hM1
       have HST := Lib.hid hstep
       have HALL := Lib.hid hall
       have HXX := Lib.hid (And.intro hx (And.intro ha (And.intro hxd (And.intro hxi (And.intro hxo (And.intro hxdd hxii))))))
       have hSl' := Lib.hid hSl
       clear hM1 hstep hall hx ha hxd hxi hxo hxa he hSl hgb hgb2 hgB hgB2 hxdd hxii
       go_upto_region 16 with fail
       obtain ⟨W1, hW1⟩ : ∃ W1, wr.setCell ⟨g2, j * 6 + 4, none⟩ (.int .i64 0) = W1 := ⟨_, rfl⟩
       rw [hW1] at HM1 ⊢
       clear hW1 o4 fo4 lg2
       go_wp2_with fail
       go_loopw [9] (fun kv wr => ∃ (k : Nat), k <= j /\ kv = .int .i64 (k : Int) /\ Hid (NumMid w (.slice (some ⟨g, 0, none⟩) n c) (.slice (some ⟨g2, 0, none⟩) n c2) n L M (O.set j { x with ino := 0 }) wr) /\ Hid (∀ z ∈ M.take k, z.ino ≠ x.ino)) (fun kv _ => j - (intOf kv).toNat)
       case atStart => exact ⟨0, Nat.zero_le _, rfl, HM1, Lib.hid (by simp)⟩
       case round =>
        obtain ⟨k, hk, rfl, HM, HNO⟩ := hrel
        obtain ⟨y, hy⟩ : ∃ y, M[k]? = some y := ⟨_, List.getElem?_eq_getElem (by rw [HLM.out]; omega)⟩
        obtain ⟨yi, hyi⟩ : ∃ yi, y.ino = yi := ⟨_, rfl⟩
        have x1 : wr.cell? ⟨g, j * 6 + 1, none⟩ = some (.bool xd) := by rw [<- HXX.out.2.2.2.2.2.1]; exact nodes_range HM.out.row HXX.out.1 hjn 1 _ rfl
        have x4 : wr.cell? ⟨g, j * 6 + 4, none⟩ = some (.int .i64 xi) := by rw [<- HXX.out.2.2.2.2.2.2]; exact nodes_range HM.out.row HXX.out.1 hjn 4 _ rfl
        have y4 : wr.cell? ⟨g, k * 6 + 4, none⟩ = some (.int .i64 yi) := by rw [<- hyi]; exact nodes_range HM.out.row hy (by omega) 4 _ rfl
        have hx0 : (O.set j { x with ino := 0 })[j]? = some { x with ino := 0 } := List.getElem?_set_self (by rw [HO.out.len]; exact hjn)
        have o4 : wr.cell? ⟨g2, j * 6 + 4, none⟩ = some (.int .i64 0) := nodes_range HM.out.out hx0 hjn 4 _ rfl
        have fo4 : wr.frozen? ⟨g2, j * 6 + 4, none⟩ = false := (nodes_there HM.out.out hjn 4 (by decide)).2
        have lg : g < wr.heap.size := by
         obtain ⟨g', cap', cur', hv, _, hb, _⟩ := nodes_block HM.out.row hjn
         cases hv
         exact hb.lt
        have lg2 : g2 < wr.heap.size := by
         obtain ⟨g', cap', cur', hv, _, hb, _⟩ := nodes_block HM.out.out hjn
         cases hv
         exact hb.lt
        have hk0 : (0 : Int) <= (k : Int) := by omega
        have hk1 : (k : Int) <= (j : Int) := by omega
        have hk2 : (k : Int) < (n : Int) := by omega
        have HY := Lib.hid (And.intro hy (And.intro hyi hx0))
        clear hy hyi hx0
        cases xd with
        | true =>
          go_wp2_with fail
          exact ⟨⟨j + 1, _, by omega, rfl, Lib.hid (HST.out 0 _ (by rw [<- HXX.out.2.2.1, HXX.out.2.2.2.2.2.1]; rfl) HM.out)⟩, by simp only [intOf]; omega⟩
        | false =>
          by_cases hei : yi = xi
          · have hbe : (yi == xi) = true := by simpa using hei
            have hde : decide (yi = xi) = true := decide_eq_true hei
            obtain ⟨b, hb⟩ : ∃ b, (sortT (T.walkN 12 1 []))[k]? = some b := ⟨_, List.getElem?_eq_getElem (by rw [hSl'.out]; omega)⟩
            have hb2 : b.2 = a.2 := by
             have h1 := (HALL.out k y b HY.out.1 hb).2
             have h2 := HXX.out.2.2.2.1
             have h3 := HY.out.2.1
             have h4 := HXX.out.2.2.2.2.2.2
             omega
            have hidx : Abs.idx (sortT (T.walkN 12 1 [])) a.2 = k := by
             refine Abs.idx_is hb hb2 fun q hq e => ?_
             obtain ⟨p, hp1, hp2⟩ := List.getElem_of_mem hq
             rw [List.length_take] at hp1
             have hqq : (sortT (T.walkN 12 1 []))[p]? = some q := by
              rw [List.getElem_take] at hp2
              rw [List.getElem?_eq_getElem (by omega), hp2]
             obtain ⟨z, hz⟩ : ∃ z, M[p]? = some z := ⟨_, List.getElem?_eq_getElem (by rw [HLM.out]; omega)⟩
             have h1 := (HALL.out p z q hz hqq).2
             refine HNO.out z ?_ (by rw [h1, e, HXX.out.2.2.2.1])
             exact List.mem_of_getElem? (i := p) (by rw [List.getElem?_take_of_lt (by omega)]; exact hz)
            have HID := Lib.hid hidx
            clear hb hb2 hidx hei
            go_wp2_with fail
            go_quiet (fail)
            go_wp2_with fail
            have hm2 := (HM.out.below_ (below_drewN (Below.refl _ _) nq)).setIno (z := (k : Int) + 1) (by rw [List.length_set]; exact HO.out.len) HY.out.2.2
            rw [List.set_set] at hm2
            refine ⟨⟨j + 1, _, by omega, rfl, Lib.hid (HST.out ((k : Int) + 1) _ ?_ hm2)⟩, by simp only [intOf]; omega⟩
            rw [<- HXX.out.2.2.1, HXX.out.2.2.2.2.2.1, HID.out]
            simp
          · have hbe : (yi == xi) = false := by simpa using hei
            have hde : decide (yi = xi) = false := decide_eq_false hei
            have hkj : k < j := by
             rcases Nat.lt_or_ge k j with h | h
             · exact h
             · exfalso
               obtain rfl : k = j := by omega
               have h1 := HY.out.1
               rw [HXX.out.1] at h1
               cases h1
               exact hei (HY.out.2.1.symm.trans HXX.out.2.2.2.2.2.2)
            have hnx : ∀ z ∈ M.take (k + 1), z.ino ≠ x.ino := by
             intro z hz
             rw [List.take_add_one, HY.out.1, List.mem_append] at hz
             rcases hz with hz | hz
             · exact HNO.out z hz
             · simp at hz
               subst hz
               rw [HY.out.2.1, HXX.out.2.2.2.2.2.2]
               exact hei
            have HNX := Lib.hid hnx
            clear hnx hei
            go_wp2_with fail
            go_quiet (fail)
            go_wp2_with fail
            exact ⟨⟨k + 1, by omega, rfl, Lib.hid (HM.out.below_ (below_drewN (Below.refl _ _) nq)), HNX⟩, by simp only [intOf]; omega⟩
     · obtain rfl : j = n := by omega
       have hfin : O.map NodeIt.nd = T.dump := by
        have h1 := HO.out.done
        have hSl : (sortT (T.walkN 12 1 [])).length = j := by
         have := congrArg List.length HSO.out
         rw [List.length_map, List.length_map, HLM.out] at this
         exact this.symm
        rw [List.take_of_length_le (by rw [HO.out.len]; exact Nat.le_refl _), List.take_of_length_le (by rw [hSl]; exact Nat.le_refl _)] at h1
        rw [h1, Abs.T.dump_eq]
       have HFIN := Lib.hid hfin
       clear hfin
       go_wp2_with fail
       go_returns
       refine ⟨_, O, rfl, ⟨by rw [HO.out.len]; exact HO.out.out, fun z hz => ?_⟩, HFIN.out, HO.out.below⟩
       obtain ⟨y, hy, e1, e2⟩ := HO.out.same z hz
       rw [e1, e2]
       exact HO.out.data y hy
end
end Go.Proofs.YtffffjngodinnaaGreatDoor
