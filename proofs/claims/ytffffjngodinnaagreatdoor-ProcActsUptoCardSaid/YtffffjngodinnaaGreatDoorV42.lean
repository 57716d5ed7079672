/-
  Parts of the proof.
-/
import Derived.Test.YtffffjngodinnaaGreatDoorV41
import Derived.Test.YtffffjngodinnaaGreatDoorV36
namespace Go.Proofs.YtffffjngodinnaaGreatDoor
section
set_option maxRecDepth 100000
open Go.RowKit Go.Maps Go.Shelf
noncomputable def rwalkReg (k : Nat) : Code := (Tryz.f54.body.bind (fun c => (regsOf c).find? (isReg k))).getD .skip
theorem ref_stored {q R n : Nat} {w V w3 : World} {bs : List UInt8} {s : ByteArray} {dir : Bool} {mode tick ino : Int} {u : Value} (hb : Below q w V) (hqV : q <= V.heap.size) (hz : Blk V R 111 nodeZ) (hR : q <= R) (ho : w3.ownsRow V.heap.size 5 1 u n (bytesC bs)) (hb3 : Below V.heap.size V w3) :
 ∃ A cap w5, u = .slice A n cap /\ (storeHere 111 (.pointer (some ⟨R, 0, none⟩)) (.agg #[.string s, .bool dir, .int .i64 mode, .int .i64 tick, .int .i64 ino, .slice A n cap])).run Tryz.prog w3 = .ok () w5 /\ Below q w w3 /\ Below q w w5 /\ Blk w5 R 111 #[.string s, .bool dir, .int .i64 mode, .int .i64 tick, .int .i64 ino, .slice A n cap] /\ w5.ownsRow q 5 1 (.slice A n cap) n (bytesC bs) := by
 have b3 : Below q w w3 := hb.trans (hb3.mono hqV)
 obtain ⟨A, cap, rfl, _⟩ := own_slice ho
 have z3 := Blk.on hz hb3
 obtain ⟨w5, h1, h2, h3⟩ := run_storeHere (P := Tryz.prog) 111 #[.string s, .bool dir, .int .i64 mode, .int .i64 tick, .int .i64 ino, .slice A n cap] z3 (by rfl) (by kernel_rfl) (by kernel_rfl)
 have hRV := hz.lt
 have ho5 := ownsRow_same ho fun j hj => h3.block j (ho.lt j hj).2 (by intro e; cases e; have := (ho.lt _ hj).1; omega)
 exact ⟨A, cap, w5, rfl, h1, b3, b3.grown h3 (Nat.le_trans hqV hb3.size) (fun j hj => by cases hj; exact hR), h2, Joins.ownsRow_le ho5 hqV⟩
theorem ref_stored_last {q n : Nat} {w V w3 : World} {bs : List UInt8} {s : ByteArray} {dir : Bool} {mode tick ino : Int} {u : Value} (hb : Below q w V) (hqV : q <= V.heap.size) (ho : w3.ownsRow V.heap.size 5 1 u n (bytesC bs)) (hb3 : Below V.heap.size V w3) :
 ∃ A cap w5, u = .slice A n cap /\ (storeHere 111 (.pointer (some ⟨w3.heap.size, 0, none⟩)) (.agg #[.string s, .bool dir, .int .i64 mode, .int .i64 tick, .int .i64 ino, .slice A n cap])).run Tryz.prog (w3.alloc (.cells #[.string ⟨#[]⟩, .bool false, .int .i64 0, .int .i64 0, .int .i64 0, .slice none 0 0] 111)) = .ok () w5 /\ Below q w w3 /\ Below q w (w3.alloc (.cells #[.string ⟨#[]⟩, .bool false, .int .i64 0, .int .i64 0, .int .i64 0, .slice none 0 0] 111)) /\ Below q w w5 /\ q <= w3.heap.size /\ Blk w5 w3.heap.size 111 #[.string s, .bool dir, .int .i64 mode, .int .i64 tick, .int .i64 ino, .slice A n cap] /\ w5.ownsRow q 5 1 (.slice A n cap) n (bytesC bs) := by
 have b3 : Below q w w3 := hb.trans (hb3.mono hqV)
 have hq3 := Nat.le_trans hqV hb3.size
 obtain ⟨A, cap, rfl, _⟩ := own_slice ho
 have b4 : Below q w (w3.alloc (.cells #[.string ⟨#[]⟩, .bool false, .int .i64 0, .int .i64 0, .int .i64 0, .slice none 0 0] 111)) := b3.alloc hq3 _
 obtain ⟨w5, h1, h2, h3⟩ := run_storeHere (P := Tryz.prog) (w := w3.alloc (.cells #[.string ⟨#[]⟩, .bool false, .int .i64 0, .int .i64 0, .int .i64 0, .slice none 0 0] 111)) (g := w3.heap.size) 111 #[.string s, .bool dir, .int .i64 mode, .int .i64 tick, .int .i64 ino, .slice A n cap] (Blk.new w3 111 #[.string ⟨#[]⟩, .bool false, .int .i64 0, .int .i64 0, .int .i64 0, .slice none 0 0]) (by rfl) (by kernel_rfl) (by kernel_rfl)
 have h5 : Below w3.heap.size w3 w5 := (below_one w3 _).grown h3 (by simp) (fun j hj => by cases hj; exact Nat.le_refl _)
 exact ⟨A, cap, w5, rfl, h1, b3, b4, b4.grown h3 (Nat.le_trans hq3 (by simp)) (fun j hj => by cases hj; exact hq3), hq3, h2, Joins.ownsRow_le (own_on ho h5) hqV⟩
section
attribute [local go_sem ↓ high] storeHere_eq
set_option maxHeartbeats 4000000 in
theorem rwalk_r6 (w : World) (db yb gb off j m nc : Nat) (pa nm s : ByteArray) (hj0 : (0 : Int) <= (j : Int)) (hj1 : (j : Int) < (m : Int)) (hcat : pa ++ ({ data := #[47] } : ByteArray) ++ nm = s) (hsz : pa.size <= 1048576 /\ nm.size <= 1048576) (dir : Bool) (mode tick jj : Int) (DA : Option Addr) (dc : Nat) (bs : List UInt8) (n : Nat) (hl : n <= 1048576) (hrd : ∀ V, Below w.heap.size w V -> Reads V w.heap.size 1 DA n (bytesC bs))
 (hS : ∀ W, Below w.heap.size w W -> W.cell? ⟨db, 5, none⟩ = some (.slice (some ⟨gb, off, none⟩) m nc) /\ W.cell? ⟨gb, off + j * 2, none⟩ = some (.string nm) /\ W.cell? ⟨yb, 1, none⟩ = some (.bool dir) /\ W.cell? ⟨yb, 2, none⟩ = some (.int .i64 mode) /\ W.cell? ⟨yb, 3, none⟩ = some (.int .i64 tick) /\ W.cell? ⟨yb, 0, none⟩ = some (.int .i64 jj) /\ W.cell? ⟨yb, 4, none⟩ = some (.slice DA n dc)) (_ldb : db < w.heap.size) (_lyb : yb < w.heap.size) (_lgb : gb < w.heap.size)
 {e0 e3 e4 e5 e6 e7 e10 e11 e12 e13 e14 e15 e16 e17 e18 e19 e20 e21 e22 e23 e24 e25 e26 e27 e28 e29 e30 e31 e32 e33 e34 e35 e36 e37 e38 e39 e40 e41 e42 e43 e44 e45 e46 e47 e48 e49 e50 e51 e52 e53 e54 e55 e56 e57 e58 e59 e60 e61 e62 e63 e64 e65 e66 e67 e68 e69 e70 e71 e72 e73 e74 e75 e76 e77 e78 : Value} {ds : List Deferred} {Q0 : Exit -> Act -> World -> Prop}
 (hexit : ∀ (u30 u31 u32 u33 u34 u35 u36 u37 u38 u39 u40 u41 u42 u43 u44 u45 u46 u47 u48 u49 u50 u51 u52 u53 u54 u55 u56 u57 u58 u59 u60 u61 u62 : Value) (w1 : World) (R : Nat) (A : Option Addr) (cap : Nat), Below w.heap.size w w1 -> w.heap.size <= R -> Blk w1 R 111 #[.string s, .bool dir, .int .i64 mode, .int .i64 tick, .int .i64 jj, .slice A n cap] -> w1.ownsRow w.heap.size 5 1 (.slice A n cap) n (bytesC bs) -> Q0 .normal ⟨#[e0, .pointer (some ⟨db, 0, none⟩), .string pa, e3, e4, e5, e6, e7, .int .i64 (j : Int), .pointer (some ⟨yb, 0, none⟩), .pointer (some ⟨R, 0, none⟩), e11, e12, e13, e14, e15, e16, e17, e18, e19, e20, e21, e22, e23, e24, e25, e26, e27, e28, e29, u30, u31, u32, u33, u34, u35, u36, u37, u38, u39, u40, u41, u42, u43, u44, u45, u46, u47, u48, u49, u50, u51, u52, u53, u54, u55, u56, u57, u58, u59, u60, u61, u62, e63, e64, e65, e66, e67, e68, e69, e70, e71, e72, e73, e74, e75, e76, e77, e78], ds⟩ w1) :
 Code.wp Tryz.prog (rwalkReg 6) Q0 ⟨#[e0, .pointer (some ⟨db, 0, none⟩), .string pa, e3, e4, e5, e6, e7, .int .i64 (j : Int), .pointer (some ⟨yb, 0, none⟩), e10, e11, e12, e13, e14, e15, e16, e17, e18, e19, e20, e21, e22, e23, e24, e25, e26, e27, e28, e29, e30, e31, e32, e33, e34, e35, e36, e37, e38, e39, e40, e41, e42, e43, e44, e45, e46, e47, e48, e49, e50, e51, e52, e53, e54, e55, e56, e57, e58, e59, e60, e61, e62, e63, e64, e65, e66, e67, e68, e69, e70, e71, e72, e73, e74, e75, e76, e77, e78], ds⟩ w := by
 dsimp only at hexit ⊢
 obtain ⟨iB, hiB, hB0, hB1, hB2⟩ := info_parts Tryz.infoByte
 have HI := Lib.hid hiB
 have H0 := Lib.hid hB0
 have H1 := Lib.hid hB1
 have H2 := Lib.hid hB2
 have HX := Lib.hid hexit
 have HR := Lib.hid hrd
 have HS := Lib.hid hS
 have b0 : Below w.heap.size w w.drew := below_drew w 1
 have b0a : Below w.heap.size w (w.alloc (.cells #[.string ⟨#[]⟩, .bool false, .int .i64 0, .int .i64 0, .int .i64 0, .slice none 0 0] 111)).drew := (below_one w _).trans (below_drew _ 1)
 have hw0 : Below w.heap.size w w := Below.refl _ _
 have HZ := Lib.hid (show Blk (w.alloc (.cells #[.string ⟨#[]⟩, .bool false, .int .i64 0, .int .i64 0, .int .i64 0, .slice none 0 0] 111)).drew w.heap.size 111 nodeZ from (Blk.new w _ _).drewN 1)
 obtain ⟨k5, kn, k1, k2, k3, k0, k4⟩ := hS w hw0
 have z1 := hsz.1
 have z2 := hsz.2
 have e2 : (pa ++ ({ data := #[47] } : ByteArray)).size = pa.size + 1 := by rw [ByteArray.size_append]; rfl
 have no1 : ¬ 9223372036854775807 < pa.size + 1 := by omega
 have no2 : ¬ 9223372036854775807 < pa.size + 1 + nm.size := by omega
 have no3 : ¬ 9223372036854775807 < (pa ++ ({ data := #[47] } : ByteArray)).size + nm.size := by omega
 clear hexit hrd hS hiB hB0 hB1 hB2 hsz
 conv => arg 2; whnf
 go_region_held3 (fun W => W.cell? ⟨db, 5, none⟩ = some (.slice (some ⟨gb, off, none⟩) m nc) /\ W.cell? ⟨gb, off + j * 2, none⟩ = some (.string nm) /\ W.cell? ⟨yb, 1, none⟩ = some (.bool dir) /\ W.cell? ⟨yb, 2, none⟩ = some (.int .i64 mode) /\ W.cell? ⟨yb, 3, none⟩ = some (.int .i64 tick) /\ W.cell? ⟨yb, 0, none⟩ = some (.int .i64 jj) /\ W.cell? ⟨yb, 4, none⟩ = some (.slice DA n dc))
  (exact HS.out _ (by assumption))
  (first
  | (refine step_append_any _ rfl _ _ 23 rfl w.heap.size 5 iB (.int .u8 0) 1 1 Tryz.underlying23 HI.out H0.out H1.out H2.out rfl (by decide) (.slice none 0 0) 0 [] (by rfl) (World.ownsRow_nil w.drew _ _ _) w.heap.size DA n dc (bytesC bs) (by rfl) (HR.out w.drew b0) (bytesC_oneCell bs) (by simp only [maxLen]; omega) (by omega) (Nat.le_refl _) ?_; intro v3 w3 hown3 hg3 hat3
     simp only [Nat.zero_add, List.nil_append] at hown3
     have hb3 : Below w.drew.heap.size w.drew w3 := (Below.refl _ _).grown hg3 (Nat.le_refl _) (fun k hk => by simp [Value.ownBlock] at hk)
     obtain ⟨A, cap, w5, rfl, hst5, b3, b4, b5, hR, k5', o5⟩ := ref_stored_last (s := s) (dir := dir) (mode := mode) (tick := tick) (ino := jj) b0 (Nat.le_refl _) hown3 hb3)
  | (refine step_append_any _ rfl _ _ 23 rfl (w.alloc (.cells #[.string ⟨#[]⟩, .bool false, .int .i64 0, .int .i64 0, .int .i64 0, .slice none 0 0] 111)).drew.heap.size 5 iB (.int .u8 0) 1 1 Tryz.underlying23 HI.out H0.out H1.out H2.out rfl (by decide) (.slice none 0 0) 0 [] (by rfl) (World.ownsRow_nil (w.alloc (.cells #[.string ⟨#[]⟩, .bool false, .int .i64 0, .int .i64 0, .int .i64 0, .slice none 0 0] 111)).drew _ _ _) w.heap.size DA n dc (bytesC bs) (by rfl) (HR.out _ b0a) (bytesC_oneCell bs) (by simp only [maxLen]; omega) (by omega) (Nat.le_refl _) ?_; intro v3 w3 hown3 hg3 hat3
     simp only [Nat.zero_add, List.nil_append] at hown3
     have hb3 : Below (w.alloc (.cells #[.string ⟨#[]⟩, .bool false, .int .i64 0, .int .i64 0, .int .i64 0, .slice none 0 0] 111)).drew.heap.size (w.alloc (.cells #[.string ⟨#[]⟩, .bool false, .int .i64 0, .int .i64 0, .int .i64 0, .slice none 0 0] 111)).drew w3 := (Below.refl _ _).grown hg3 (Nat.le_refl _) (fun k hk => by simp [Value.ownBlock] at hk)
     obtain ⟨A, cap, w5, rfl, hst5, b3, b5, k5', o5⟩ := ref_stored (s := s) (dir := dir) (mode := mode) (tick := tick) (ino := jj) b0a b0a.size HZ.out (Nat.le_refl _) hown3 hb3
     have hR := Nat.le_refl w.heap.size))
 all_goals exact HX.out _ _ _ _ _ _ _ _ _ _ _ _ _ _ _ _ _ _ _ _ _ _ _ _ _ _ _ _ _ _ _ _ _ w5 _ A cap b5 hR k5' o5
end
end
section
set_option maxRecDepth 100000
open Go.RowKit Go.Maps Go.Shelf
def WalkOk (w : World) (T : Abs.T) (k i : Nat) (p : List UInt8) (e : Ending) (w' : World) : Prop := ∃ v Ns, e = .returned v /\ NodesOwn w' w.heap.size v Ns /\ Ns.map NodeIt.nd = (T.walkN k i p).map (Abs.rawOf T) /\ Below w.heap.size w w'
structure WalkSt (w : World) (T : Abs.T) (k : Nat) (p : List UInt8) (names : List (Abs.Name × Nat)) (j : Nat) (v : Value) (Ns : List NodeIt) (wr : World) : Prop where
 below : Below w.heap.size w wr
 own : NodesOwn wr w.heap.size v Ns
 told : Ns.map NodeIt.nd = ((names.take j).flatMap fun q => (p ++ 47 :: q.1, q.2) :: T.walkN k q.2 (p ++ 47 :: q.1)).map (Abs.rawOf T)
theorem NodesOwn.snoc {w5 w6 : World} {q : Nat} {v v' : Value} {Ns : List NodeIt} {node : NodeIt} {X : Obj} (h : NodesOwn w5 q v Ns) (hd : w5.ownsRow q 5 1 node.dv node.data.length (bytesC node.data)) (hr : w6.ownsRow q 111 6 v' (Ns.length + 1) (nodesC Ns ++ nodeC node)) (hg : (w5.alloc X).grownBy w6 v.ownBlock) : NodesOwn w6 q v' (Ns ++ [node]) := by
 have hrow := h.row.alloc X
 have hap : ∀ {d : Value} {n : Nat} {l : List Value}, w5.ownsRow q 5 1 d n l -> w6.ownsRow q 5 1 d n l := fun ho => own_grown (ho.alloc X) hg fun r hr => own_apart (ho.alloc X) hrow (by decide) r hr.symm.symm
 refine ⟨by rw [List.length_append, List.length_singleton, nodesC_snoc]; exact hr, fun n hn => ?_⟩
 rcases List.mem_append.1 hn with hn | hn
 · exact hap (h.data n hn)
 · rw [List.mem_singleton.1 hn]; exact hap hd
theorem NodesOwn.more {w5 w6 : World} {q : Nat} {v v' v2 : Value} {Ns Ms : List NodeIt} (h : NodesOwn w5 q v Ns) (h2 : NodesOwn w5 q v2 Ms) (hr : w6.ownsRow q 111 6 v' (Ns.length + Ms.length) (nodesC Ns ++ nodesC Ms)) (hg : w5.grownBy w6 v.ownBlock) : NodesOwn w6 q v' (Ns ++ Ms) := by
 have hap : ∀ {d : Value} {n : Nat} {l : List Value}, w5.ownsRow q 5 1 d n l -> w6.ownsRow q 5 1 d n l := fun ho => own_grown ho hg fun r hr => own_apart ho h.row (by decide) r hr.symm.symm
 refine ⟨by rw [List.length_append, show nodesC (Ns ++ Ms) = nodesC Ns ++ nodesC Ms by simp [nodesC]]; exact hr, fun n hn => ?_⟩
 rcases List.mem_append.1 hn with hn | hn
 · exact hap (h.data n hn)
 · exact hap (h2.data n hn)
theorem nodesC_one (l : List NodeIt) : ∀ u ∈ nodesC l, u.oneCell' = true := by
 intro u hu
 obtain ⟨n, _, hn⟩ := List.mem_flatMap.1 hu
 simp only [nodeC, List.mem_cons, List.not_mem_nil, or_false] at hn
 rcases hn with rfl | rfl | rfl | rfl | rfl | rfl <;> rfl
theorem strB_data (l : List UInt8) : (strB l).data.toList = l := by simp [strB]
theorem flat_ge {α β : Type} (a : α -> β) (f : α -> List β) : ∀ l : List α, l.length <= (l.flatMap fun q => a q :: f q).length
 | [] => Nat.le_refl _
 | q :: l => by
   have := flat_ge a f l
   rw [List.flatMap_cons, List.length_append, List.length_cons, List.length_cons]
   omega
theorem names_walk {T : Abs.T} {k i : Nat} {p : List UInt8} {x : Abs.Ent} (hx : T.get i = some x) : x.names.length <= (T.walkN (k + 1) i p).length := by
 conv => rhs; unfold Abs.T.walkN
 rw [hx]
 exact flat_ge _ _ _
theorem walk_total {T : Abs.T} {k i : Nat} {p : List UInt8} {x : Abs.Ent} (hx : T.get i = some x) {j jj : Nat} {nm : Abs.Name} (hq : x.names[j]? = some (nm, jj)) : ((x.names.take j).flatMap fun q => (p ++ 47 :: q.1, q.2) :: T.walkN k q.2 (p ++ 47 :: q.1)).length + 1 + (T.walkN k jj (p ++ 47 :: nm)).length <= (T.walkN (k + 1) i p).length := by
 have hl : j < x.names.length := (List.getElem?_eq_some_iff.1 hq).1
 have e : x.names = x.names.take j ++ (nm, jj) :: x.names.drop (j + 1) := by
  rw [List.getElem?_eq_getElem hl] at hq
  rw [<- Option.some.inj hq, <- List.drop_eq_getElem_cons hl, List.take_append_drop]
 conv => rhs; unfold Abs.T.walkN
 rw [hx]
 simp only
 conv => rhs; rw [e]
 rw [List.flatMap_append, List.length_append, List.flatMap_cons, List.length_append, List.length_cons]
 dsimp only
 omega
section
set_option maxHeartbeats 8000000 in
theorem refWalk_step (B t : Nat) (T : Abs.T) (bs : List Nat) (Bd : Nat) (hBd : Bd <= 1048576) (hfd : T.Fine Bd) (k i : Nat) (p : List UInt8) (hp : p.length <= 1048576) (x : Abs.Ent) (hx : T.get i = some x) (hmany : (T.walkN (k + 1) i p).length <= 1048576)
 (IH : ∀ (j : Nat) (y : Abs.Ent) (q : List UInt8) (W : World), RTree W B t T bs -> (∃ n, Abs.lk x.names n = some j) -> T.get j = some y -> y.dir = true -> q.length <= p.length + 33 -> (T.walkN k j q).length <= 1048576 -> Calls Tryz.prog 54 #[.pointer (some ⟨t, 0, none⟩), .pointer (some ⟨bAt T.ents bs j, 0, none⟩), .string (strB q)] W (WalkOk W T k j q))
 (w : World) (h : RTree w B t T bs) : Calls Tryz.prog 54 #[.pointer (some ⟨t, 0, none⟩), .pointer (some ⟨bAt T.ents bs i, 0, none⟩), .string (strB p)] w (WalkOk w T (k + 1) i p) := by
 obtain ⟨db, hdb⟩ : ∃ db, bAt T.ents bs i = db := ⟨_, rfl⟩
 have hcells : ∀ W, Below w.heap.size w W -> ∃ up dv nv, Blk W db 106 (ritemC i x up dv nv) /\ W.ownsRow B 194 2 nv x.names.length (namesE x.names) := fun W hW => by
  obtain ⟨up, dv, nv, h1, h2, h3, h4⟩ := (h.below hW).at_ hx
  rw [hdb] at h1
  exact ⟨up, dv, nv, h1, h4⟩
 obtain ⟨up, dv, nv, hd0, hn0⟩ := hcells w (Below.refl _ _)
 obtain ⟨NA, nc, rfl, _⟩ := own_slice hn0
 obtain ⟨m, hm⟩ : ∃ m, x.names.length = m := ⟨_, rfl⟩
 rw [hm] at hd0 hn0
 rw [hdb]
 have hm2 : m <= 1048576 := by rw [<- hm]; exact Nat.le_trans (names_walk hx) hmany
 have HH := Lib.hid h
 have HX := Lib.hid hx
 have HM := Lib.hid hm
 have HIH := Lib.hid IH
 have HD := Lib.hid hd0
 have HNO := Lib.hid hn0
 have HMANY := Lib.hid hmany
 have HF := Lib.hid hfd
 have ldb := hd0.lt
 obtain ⟨iS, hiS, hS0, hS1, hS2⟩ := info_parts Tryz.infoNode
 have HI := Lib.hid hiS
 have H0 := Lib.hid hS0
 have H1 := Lib.hid hS1
 have H2 := Lib.hid hS2
 obtain ⟨iB, hiB, hB0, hB1, hB2⟩ := info_parts Tryz.infoByte
 have HIb := Lib.hid hiB
 have H0b := Lib.hid hB0
 have H1b := Lib.hid hB1
 have H2b := Lib.hid hB2
 clear h hx hm IH hd0 hn0 hcells hmany hfd hdb hiS hS0 hS1 hS2 hiB hB0 hB1 hB2
 go_enter Tryz.func54, Tryz.ntmps54
 go_wp2_with fail
 go_loopw [7, 8] (fun v iv wr => ∃ (j : Nat) (Ns : List NodeIt), j <= m /\ iv = .int .i64 (j : Int) /\ Hid (WalkSt w T k p x.names j v Ns wr)) (fun _ iv _ => m - (intOf iv).toNat)
 case atStart => exact ⟨0, [], Nat.zero_le _, rfl, Lib.hid ⟨Below.refl _ _, NodesOwn.nil _ _, by simp⟩⟩
 case round =>
  obtain ⟨j, Ns, hj, rfl, HS⟩ := hrel
  obtain ⟨OA, oc, e, _⟩ := own_slice HS.out.own.row
  subst e
  obtain ⟨o, ho⟩ : ∃ o, Ns.length = o := ⟨_, rfl⟩
  rw [ho] at HS ⊢
  have HO := Lib.hid ho
  have hD := Blk.on HD.out HS.out.below
  have d5 : wr.cell? ⟨db, 5, none⟩ = some (.slice NA m nc) := hD.cell 5
  have ld := hD.lt
  by_cases hlt : j < m
  · obtain ⟨⟨nm, jj⟩, hq⟩ : ∃ q, x.names[j]? = some q := ⟨_, List.getElem?_eq_getElem (by rw [HM.out]; exact hlt)⟩
    have hlk := Abs.lk_of_mem (HH.out.wf.sorted _ _ HX.out) (List.mem_of_getElem? hq)
    obtain ⟨_, y, hy⟩ := HH.out.wf.live _ _ _ _ HX.out hlk
    have hnmd := HF.out.named _ _ _ _ HX.out hlk
    have hnl : nm.length <= 32 := by
     unfold Abs.named at hnmd
     simp only [Bool.and_eq_true, decide_eq_true_eq] at hnmd
     exact hnmd.1.1.1.2
    have hdl := HF.out.data _ _ hy
    obtain ⟨gb, off, hA, hgb, hc⟩ := reads_flat (Reads.of_own (own_on HNO.out HS.out.below)) (by intro e; have := HNO.out.1; rw [e] at this; simp at this; omega)
    have n0 : wr.cell? ⟨gb, off + j * 2, none⟩ = some (.string (strB nm)) := hc _ _ (namesE_at hq).1
    have n1 : wr.cell? ⟨gb, off + j * 2 + 1, none⟩ = some (.int .i64 (jj : Int)) := hc _ _ (namesE_at hq).2
    subst hA
    have hTr := HH.out.below HS.out.below
    have hitem := refItem_at hTr hy
    obtain ⟨yb, hyb⟩ : ∃ yb, bAt T.ents bs jj = yb := ⟨_, rfl⟩
    obtain ⟨up2, dv2, nv2, hY, _, hdv, _⟩ := hTr.at_ hy
    rw [hyb] at hitem hY
    obtain ⟨DA, dc, rfl, _⟩ := own_slice hdv
    obtain ⟨n, hn⟩ : ∃ n, y.data.length = n := ⟨_, rfl⟩
    obtain ⟨yd, hyd⟩ : ∃ yd, y.dir = yd := ⟨_, rfl⟩
    rw [hn] at hY hdv hdl
    unfold ritemC at hY
    rw [hyd] at hY
    have y0 : wr.cell? ⟨yb, 0, none⟩ = some (.int .i64 (jj : Int)) := hY.cell 0
    have y1 : wr.cell? ⟨yb, 1, none⟩ = some (.bool yd) := hY.cell 1
    have y2 : wr.cell? ⟨yb, 2, none⟩ = some (.int .i64 y.mode) := hY.cell 2
    have y3 : wr.cell? ⟨yb, 3, none⟩ = some (.int .i64 y.tick) := hY.cell 3
    have y4 : wr.cell? ⟨yb, 4, none⟩ = some (.slice DA n dc) := hY.cell 4
    have ly := hY.lt
    have hfl : x.names.take (j + 1) = x.names.take j ++ [(nm, jj)] := by rw [List.take_add_one, hq]; rfl
    have hcat : strB p ++ ({ data := #[47] } : ByteArray) ++ strB nm = strB (p ++ 47 :: nm) := by
     rw [show p ++ 47 :: nm = p ++ ([47] ++ nm) by simp, <- strB_append, <- strB_append, <- ByteArray.append_assoc]; rfl
    have e1 : (strB p).size = p.length := strB_size p
    have e2 : (strB p ++ ({ data := #[47] } : ByteArray)).size = p.length + 1 := by rw [ByteArray.size_append, strB_size]; rfl
    have e3 : (strB nm).size = nm.length := strB_size nm
    have hj0 : (0 : Int) <= (j : Int) := by omega
    have hj1 : (j : Int) < (m : Int) := by omega
    have HQ := Lib.hid (And.intro hq (And.intro hlk (And.intro hy hfl)))
    have HY := Lib.hid hY
    have HDV := Lib.hid hdv
    have HN := Lib.hid (And.intro hyb (And.intro hn hyd))
    have HCAT := Lib.hid hcat
    have htot := walk_total (p := p) (k := k) HX.out hq
    have ho2 : o <= 1048576 := by
     have h1 := congrArg List.length HS.out.told
     rw [List.length_map, List.length_map] at h1
     have h2 := HMANY.out
     have h3 := HO.out
     omega
    have hms : (T.walkN k jj (p ++ 47 :: nm)).length <= 1048576 := by have h2 := HMANY.out; omega
    have HMS := Lib.hid hms
    have HDD := Lib.hid hD
    have hglb : gb < wr.heap.size := hgb
    have hrd : ∀ V, Below wr.heap.size wr V -> Reads V wr.heap.size 1 DA n (bytesC y.data) := fun V hV => by
     exact (Reads.of_own hdv).below hV
    have HRD := Lib.hid hrd
    clear hq hlk hy hnmd hc hTr hY hdv hyb hn hfl hD hrd hyd hcat htot hms
    go_upto_region 6 with (go_at_call 42; refine hitem.mono ?_; rintro e1 w1 ⟨rfl, h1⟩; obtain rfl : wr = w1 := h1.symm)
    clear hitem
    refine rwalk_r6 wr db yb gb off j m nc (strB p) (strB nm) (strB (p ++ 47 :: nm)) hj0 hj1 HCAT.out ⟨by omega, by omega⟩ yd y.mode y.tick (jj : Int) DA dc y.data n (by omega) HRD.out (fun W hW => ⟨(Blk.on HDD.out hW).cell 5, (hW.cell (p := ⟨gb, off + j * 2, none⟩) hglb).trans n0, (Blk.on HY.out hW).cell 1, (Blk.on HY.out hW).cell 2, (Blk.on HY.out hW).cell 3, (Blk.on HY.out hW).cell 0, (Blk.on HY.out hW).cell 4⟩) ld ly hglb ?_
    intro u30 u31 u32 u33 u34 u35 u36 u37 u38 u39 u40 u41 u42 u43 u44 u45 u46 u47 u48 u49 u50 u51 u52 u53 u54 u55 u56 u57 u58 u59 u60 u61 u62 w1 R A1 cap1 hb1 hR hk1 ho1
    dsimp only
    have hW1 : Below w.heap.size w w1 := HS.out.below.trans (hb1.mono HS.out.below.size)
    have hown1 := HS.out.own.below hb1
    have hrow1 : w1.ownsRow w.heap.size 111 6 (.slice OA o oc) o (nodesC Ns) := by have h := hown1.row; rw [HO.out] at h; exact h
    have hOR : (Value.slice OA o oc).ownBlock ≠ some R := fun e => by
     have h1 := HS.out.own.row
     rw [HO.out] at h1
     have := (h1.lt R e).2
     omega
    have hYO : (Value.slice OA o oc).ownBlock ≠ some yb := own_ne hrow1 (Blk.on HY.out hb1) (by decide)
    have ho1' : w1.ownsRow w.heap.size 5 1 (.slice A1 n cap1) n (bytesC y.data) := Joins.ownsRow_le ho1 HS.out.below.size
    have y1 : w1.cell? ⟨yb, 1, none⟩ = some (.bool yd) := (Blk.on HY.out hb1).cell 1
    have ly : yb < w1.heap.size := (Blk.on HY.out hb1).lt
    have hs1 := hW1.size
    have HR1 := Lib.hid hrow1
    have HO1 := Lib.hid hown1
    have HK1 := Lib.hid hk1
    have HW1 := Lib.hid (And.intro hW1 (And.intro hb1 ho1'))
    clear hW1 hown1 hrow1 ho1 ho1' hk1 hb1 d5 n0 n1 y0 y2 y3 y4
    go_upto_region 8 with (first
     | (refine wpList_load_mid rfl _ _ rfl R 0 rfl [.string (strB (p ++ 47 :: nm)), .bool yd, .int .i64 y.mode, .int .i64 y.tick, .int .i64 (jj : Int), .slice A1 n cap1] _ (blk_range HK1.out) Tryz.underlying111 rfl (by kernel_rfl) ?_)
     | (at_builtin; refine wpList_append_any _ rfl _ _ 24 rfl w.heap.size 111 iS (.agg #[.string ⟨#[]⟩, .bool false, .int .i64 0, .int .i64 0, .int .i64 0, .slice none 0 0]) 6 72 Tryz.underlying24 HI.out H0.out H1.out H2.out rfl (by decide) (.slice OA o oc) o (nodesC Ns) rfl (HR1.out.alloc _) (w1.heap.size + 1) (some ⟨w1.heap.size, 0, none⟩) 1 1 [.string (strB (p ++ 47 :: nm)), .bool yd, .int .i64 y.mode, .int .i64 y.tick, .int .i64 (jj : Int), .slice A1 n cap1] rfl (blk_reads (Blk.new w1 111 #[.string (strB (p ++ 47 :: nm)), .bool yd, .int .i64 y.mode, .int .i64 y.tick, .int .i64 (jj : Int), .slice A1 n cap1]) rfl) (by simp [Value.oneCell']) (by simp only [maxLen]; omega) (by omega) (by simp; omega) ?_; intro v2 w2 hown2 hg2 hat2
        obtain ⟨A2, c2, rfl, _⟩ := own_slice hown2
        have bY := ((Blk.on HY.out HW1.out.2.1).alloc (.cells #[.string (strB (p ++ 47 :: nm)), .bool yd, .int .i64 y.mode, .int .i64 y.tick, .int .i64 (jj : Int), .slice A1 n cap1] 111)).grown hg2 (fun e => hYO e.symm)
        have bR := (HK1.out.alloc (.cells #[.string (strB (p ++ 47 :: nm)), .bool yd, .int .i64 y.mode, .int .i64 y.tick, .int .i64 (jj : Int), .slice A1 n cap1] 111)).grown hg2 (fun e => hOR e.symm)
        have y1 : w2.cell? ⟨yb, 1, none⟩ = some (.bool yd) := bY.cell 1
        have ly := bY.lt
        have r0 : w2.cell? ⟨R, 0, none⟩ = some (.string (strB (p ++ 47 :: nm))) := bR.cell 0
        have lr := bR.lt))
    obtain ⟨node, hnode⟩ : ∃ node : NodeIt, (⟨strB (p ++ 47 :: nm), yd, y.mode, y.tick, (jj : Int), A1, cap1, y.data⟩ : NodeIt) = node := ⟨_, rfl⟩
    have hnc : nodeC node = [.string (strB (p ++ 47 :: nm)), .bool yd, .int .i64 y.mode, .int .i64 y.tick, .int .i64 (jj : Int), .slice A1 n cap1] := by rw [<- hnode, <- HN.out.2.1]; rfl
    have hnd : node.nd = Abs.rawOf T (p ++ 47 :: nm, jj) := by
     rw [<- hnode]
     unfold Abs.rawOf NodeIt.nd
     simp only [HQ.out.2.2.1, strB_data, HN.out.2.2]
    have hb2 : Below w.heap.size w w2 := (HW1.out.1.alloc hs1 _).grown hg2 (by simp; omega) (fun g hg => (HR1.out.lt g hg).1)
    have hN2 : NodesOwn w2 w.heap.size (.slice A2 (o + 1) c2) (Ns ++ [node]) := by
     refine NodesOwn.snoc HO1.out (node := node) ?_ (by rw [HO.out, hnc]; exact hown2) hg2
     rw [<- hnode]
     show w1.ownsRow w.heap.size 5 1 (.slice A1 y.data.length cap1) y.data.length (bytesC y.data)
     rw [HN.out.2.1]
     exact HW1.out.2.2
    have htold : (Ns ++ [node]).map NodeIt.nd = (((x.names.take j).flatMap fun q => (p ++ 47 :: q.1, q.2) :: T.walkN k q.2 (p ++ 47 :: q.1)) ++ [(p ++ 47 :: nm, jj)]).map (Abs.rawOf T) := by
     rw [List.map_append, List.map_append, HS.out.told, List.map_singleton, List.map_singleton, hnd]
    have hnext : (x.names.take (j + 1)).flatMap (fun q => (p ++ 47 :: q.1, q.2) :: T.walkN k q.2 (p ++ 47 :: q.1)) = ((x.names.take j).flatMap fun q => (p ++ 47 :: q.1, q.2) :: T.walkN k q.2 (p ++ 47 :: q.1)) ++ ((p ++ 47 :: nm, jj) :: T.walkN k jj (p ++ 47 :: nm)) := by
     rw [HQ.out.2.2.2, List.flatMap_append, List.flatMap_singleton]
    have hl2 : (Ns ++ [node]).length = o + 1 := by rw [List.length_append, HO.out]; rfl
    have HN2 := Lib.hid (And.intro hN2 (And.intro hb2 (And.intro htold (And.intro hnext hl2))))
    clear hN2 hb2 htold hnext hl2 hnd hnc hnode hown2 hg2 hat2 bY bR
    cases yd with
    | false =>
      go_wp2_with fail
      refine ⟨⟨j + 1, Ns ++ [node], by omega, rfl, Lib.hid ⟨HN2.out.2.1, ?_, ?_⟩⟩, by simp only [intOf]; omega⟩
      · have := HN2.out.1
        exact this
      · rw [HN2.out.2.2.1, HN2.out.2.2.2.1, HH.out.wf.walk_file HQ.out.2.2.1 HN.out.2.2]
    | true =>
      have hcall := HIH.out jj y (p ++ 47 :: nm) w2 (HH.out.below HN2.out.2.1) ⟨nm, HQ.out.2.1⟩ HQ.out.2.2.1 HN.out.2.2 (by rw [List.length_append, List.length_cons]; omega) HMS.out
      rw [HN.out.1] at hcall
      have HC := Lib.hid hcall
      clear hcall
      have hro : w2.ownsRow w.heap.size 111 6 (.slice A2 (o + 1) c2) (o + 1) (nodesC (Ns ++ [node])) := by
       have h := HN2.out.1.row
       rw [HN2.out.2.2.2.2] at h
       exact h
      have HRO := Lib.hid hro
      clear hro
      have hfin : ∀ (w3 w4 : World) (Ms : List NodeIt) (v3 v4 : Value), NodesOwn w3 w2.heap.size v3 Ms -> Ms.map NodeIt.nd = (T.walkN k jj (p ++ 47 :: nm)).map (Abs.rawOf T) -> Below w2.heap.size w2 w3 -> w4.ownsRow w.heap.size 111 6 v4 (o + 1 + Ms.length) (nodesC (Ns ++ [node]) ++ nodesC Ms) -> w3.grownBy w4 (Value.slice A2 (o + 1) c2).ownBlock -> WalkSt w T k p x.names (j + 1) v4 (Ns ++ [node] ++ Ms) w4 := by
       intro w3 w4 Ms v3 v4 g1 g2 g3 g4 g5
       have hb2 := HN2.out.2.1
       refine ⟨(hb2.trans (g3.mono hb2.size)).grown g5 (Nat.le_trans hb2.size g3.size) (fun g hg => (HRO.out.lt g hg).1), NodesOwn.more (HN2.out.1.below g3) (g1.le hb2.size) (by rw [HN2.out.2.2.2.2]; exact g4) g5, ?_⟩
       rw [List.map_append, HN2.out.2.2.1, g2, HN2.out.2.2.2.1, <- List.map_append]
       simp
      have HFI := Lib.hid hfin
      clear hfin
      have hml : ∀ Ms : List NodeIt, Ms.map NodeIt.nd = (T.walkN k jj (p ++ 47 :: nm)).map (Abs.rawOf T) -> Ms.length <= 1048576 := fun Ms h => by
       have := congrArg List.length h
       rw [List.length_map, List.length_map] at this
       rw [this]; exact HMS.out
      have HML := Lib.hid hml
      have hw2s : w.heap.size <= w2.heap.size := HN2.out.2.1.size
      clear hml
      go_wp2_with (first
       | (go_at_call 54; refine HC.out.mono ?_; rintro e3 w3 ⟨v3, Ms, rfl, hN3, hT3, hb3⟩
          obtain ⟨A3, c3, hv3, _⟩ := own_slice hN3.row
          have hr3 := Reads.of_own (hv3 ▸ hN3.row)
          subst hv3
          have hm3 := HML.out Ms hT3
          have hro3 := own_on HRO.out hb3
          have hs3 : w.heap.size <= w3.heap.size := Nat.le_trans hw2s hb3.size
          obtain ⟨lm, hlm⟩ : ∃ lm, Ms.length = lm := ⟨_, rfl⟩
          rw [hlm] at hm3 hr3 ⊢
          have HLM := Lib.hid hlm
          clear hlm)
       | (at_builtin; refine wpList_append_any _ rfl _ _ 24 rfl w.heap.size 111 iS (.agg #[.string ⟨#[]⟩, .bool false, .int .i64 0, .int .i64 0, .int .i64 0, .slice none 0 0]) 6 72 Tryz.underlying24 HI.out H0.out H1.out H2.out rfl (by decide) (.slice A2 (o + 1) c2) (o + 1) (nodesC (Ns ++ [node])) rfl hro3 w3.heap.size A3 lm c3 (nodesC Ms) rfl hr3 (nodesC_one Ms) (by simp only [maxLen]; omega) (by omega) hs3 ?_; intro v4 w4 hown4 hg4 hat4))
      refine ⟨⟨j + 1, Ns ++ [node] ++ Ms, by omega, rfl, Lib.hid (HFI.out w3 w4 Ms _ v4 hN3 hT3 hb3 (by rw [HLM.out]; exact hown4) hg4)⟩, by simp only [intOf]; omega⟩
  · obtain rfl : j = m := by omega
    have hres : Ns.map NodeIt.nd = (T.walkN (k + 1) i p).map (Abs.rawOf T) := by
     rw [HS.out.told, List.take_of_length_le (by rw [HM.out]; exact Nat.le_refl _)]
     conv => rhs; unfold Abs.T.walkN
     rw [HX.out]
    have HR := Lib.hid hres
    clear hres
    go_wp2_with fail
    go_returns
    exact ⟨_, Ns, rfl, HS.out.own, HR.out, HS.out.below⟩
end
end
end Go.Proofs.YtffffjngodinnaaGreatDoor
