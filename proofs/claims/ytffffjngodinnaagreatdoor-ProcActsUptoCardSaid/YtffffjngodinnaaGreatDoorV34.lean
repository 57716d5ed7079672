/-
  Parts of the proof.
-/
import Derived.Test.YtffffjngodinnaaGreatDoorV33
import Derived.Test.YtffffjngodinnaaGreatDoorV13
namespace Go.Proofs.YtffffjngodinnaaGreatDoor
section
set_option maxRecDepth 100000
open Go.RowKit Go.Maps
theorem firstF_none : firstF (fun _ => none) = fun _ => none := by
 funext l
 unfold firstF
 split <;> rfl
set_option maxHeartbeats 4000000 in
theorem load_any (w : World) (NA : Option Addr) (nc n : Nat) (L : List NodeIt) (hn : L.length = n) (hn2 : n <= 1048576) (hr : Reads w w.heap.size 6 NA n (nodesC L)) (hL : ∀ x ∈ L, NodeOk w w.heap.size x) (R : Option Abs.LS) (hR : Abs.LS.init.run (L.map NodeIt.nd) = R) :
 Calls Tryz.prog 55 #[.slice NA n nc] w fun e w' => (R = none /\ e = .returned (.tuple #[.pointer none, .int .i64 17]) /\ Below w.heap.size w w') \/
  ∃ (s : Abs.LS) (t : Nat) (S : TS) (β : Nat -> Nat), R = some s /\ e = .returned (.tuple #[.pointer (some ⟨t, 0, none⟩), .int .i64 0]) /\ TreeIs w' t S s.T β /\ S.within n /\ s.Ok n 1048576 /\ (∀ b, S.foot t b -> w.heap.size <= b) /\ Below w.heap.size w w' := by
 have hmm := @run_makeMap Tryz.prog
 have HN := Lib.hid hn
 have HR := Lib.hid hr
 have HL := Lib.hid hL
 have HRR := Lib.hid hR
 clear hn hr hL hR
 obtain ⟨B, hB⟩ : ∃ B, w.heap.size = B := ⟨_, rfl⟩
 have hnew := treeNew w
 unfold ptrV at hnew
 rw [hB] at hnew ⊢
 have HB := Lib.hid hB
 clear hB
 go_enter Tryz.func55, Tryz.ntmps55
 go_wp2_with (go_at_call 90; refine hnew.mono ?_; rintro e w1 ⟨rfl, hT, hb⟩)
 have hsz := hb.size
 have hT1 := hT.below (below_one w1 (.map #[] 0))
 have h0 : LoadSt w B (B + 1 + 1 + 1) w1.heap.size L R 0 Abs.LS.init (emptyT B) (fun _ => B + 1) (fun _ => none) (w1.alloc (.map #[] 0)) := by
  have hfoot : ∀ b, (emptyT B).foot (B + 1 + 1 + 1) b -> B <= b := by
   rintro b (rfl | hb | ⟨i, y, hy, hb⟩)
   · omega
   · rw [hb]; show B <= B + 1 + 1; omega
   · simp only [emptyT] at hy
     split at hy
     · rename_i hi
       cases hy
       rcases hb with rfl | ⟨_, rfl⟩ | hb
       · omega
       · exact Nat.le_refl _
       · simp [rootItem, Value.ownBlock] at hb
     · cases hy
  refine ⟨hb.alloc (by rw [<- HB.out]; exact hsz) _, emptyT_is hT1, ⟨fun b y hy => ?_, Nat.le_refl _⟩, hfoot, Abs.LS.init_ok _, fun _ => rfl, fun _ _ h => (by cases h), ?_, ⟨by rw [<- HB.out]; exact hsz, fun hf => ?_⟩, ?_⟩
  · simp only [emptyT] at hy
    split at hy
    · cases hy; exact Nat.le_refl _
    · cases hy
  · rw [firstF_none]; exact MapOf.made w1 Tryz.prog 3
  · have := hT.foot_lt hf; omega
  · exact HRR.out
 clear hT hT1 hb
 refine load_loop w (w1.alloc (.map #[] 0)) B (B + 1 + 1 + 1) w1.heap.size L n HN.out hn2 NA nc (by rw [<- HB.out]; exact HR.out) HB.out (fun x hx => by rw [<- HB.out]; exact HL.out x hx) R (emptyT B) (fun _ => B + 1) h0 ?_ ?_
 · intro x2 x3 x7 x8 x9 x10 x11 x17 x18 x19 x20 x21 x22 x23 x24 x25 x26 x27 x28 x29 x30 x31 x32 x33 x34 x35 x36 x37 x38 x39 x40 x41 x42 x43 x44 x45 x46 x47 x48 x49 x50 x51 x52 x53 x54 x55 x56 x57 x58 x59 x60 x61 x62 x63 x64 x65 x66 x67 x68 x69 x70 x71 x72 x73 x74 x75 x76 x77 x78 x79 x80 x81 x82 x83 x84 x85 x86 x87 x88 x89 x90 x91 x92 x93 x94 x95 x96 x97 x98 x99 x100 x101 x102 x103 x104 x105 x106 x107 x108 x109 x110 x111 x112 x113 x114 x115 x116 x117 x118 x119 x120 x121 x122 x123 s S β fi w2 h2
   dsimp only
   have hRs : R = some s := by
    rw [<- h2.rest, List.drop_eq_nil_of_le (by rw [HN.out]; exact Nat.le_refl _)]
    rfl
   have H2 := Lib.hid h2
   have HRS := Lib.hid hRs
   clear h2 hRs h0
   go_wp2_with fail
   go_returns
   exact .inr ⟨s, _, S, β, HRS.out, rfl, H2.out.tree, H2.out.within, H2.out.ok, H2.out.foot, H2.out.below⟩
 · intro x7 x8 x9 x10 x11 x16 x17 x18 x19 x20 x21 x22 x23 x24 x25 x26 x27 x28 x29 x30 x31 x32 x33 x34 x35 x36 x37 x38 x39 x40 x41 x42 x43 x44 x45 x46 x47 x48 x49 x50 x51 x52 x53 x54 x55 x56 x57 x58 x59 x60 x61 x62 x63 x64 x65 x66 x67 x68 x69 x70 x71 x72 x73 x74 x75 x76 x77 x78 x79 x80 x81 x82 x83 x84 x85 x86 x87 x88 x89 x90 x91 x92 x93 x94 x95 x96 x97 x98 x99 x100 x101 x102 x103 x104 x105 x106 x107 x108 x109 x110 x111 x112 x113 x114 x115 x116 x117 x118 x119 x120 x121 x122 x123 w2 hRn hb2
   dsimp only
   have HRS := Lib.hid hRn
   clear hRn h0
   go_returns
   exact .inl ⟨HRS.out, rfl, hb2⟩
end
section
set_option maxRecDepth 100000
open Go.RowKit Go.Maps
noncomputable def dumpLoop (k : Nat) : Code := (Tryz.f34.body.bind (fun c => (loopsAt c)[k]?)).getD .skip
def numsV (β : Nat -> Nat) (m : List (Nat × Nat)) : List (Nat × Value) := m.map fun q => (β q.1, .int .i64 (q.2 : Int))
theorem lkP_nums {T : Abs.T} {β : Nat -> Nat} (hinj : ∀ i j x y, T.get i = some x -> T.get j = some y -> β i = β j -> i = j) : ∀ {m : List (Nat × Nat)} {j : Nat}, (∀ q ∈ m, ∃ x, T.get q.1 = some x) -> (∃ x, T.get j = some x) -> lkP (numsV β m) (β j) = (Abs.lkN m j).map fun (v : Nat) => Value.int .i64 (v : Int)
 | [], _, _, _ => rfl
 | (i, v) :: m, j, hm, ⟨x, hx⟩ => by
   obtain ⟨y, hy⟩ := hm (i, v) (by simp)
   have ih := lkP_nums hinj (m := m) (j := j) (fun q hq => hm q (List.mem_cons_of_mem _ hq)) ⟨x, hx⟩
   unfold Abs.lkN
   by_cases e : j = i
   · subst e
     rw [if_pos rfl]
     simp [lkP, numsV]
   · have hne : β i ≠ β j := fun e2 => e (hinj _ _ _ _ hy hx e2).symm
     rw [if_neg e, <- ih]
     unfold lkP numsV
     rw [List.map_cons, List.find?_cons_of_neg (by simpa using hne)]
def Keeps0 (w0 : World) (bm : Nat) (wr : World) : Prop := ∀ (k : Nat) (o : Obj), w0.heap[k]? = some o -> o.isCells = false -> k ≠ bm -> wr.heap[k]? = some o
theorem Keeps0.grown {w0 w w' : World} {bm : Nat} (h : Keeps0 w0 bm w) {row : Option Nat} (hg : w.grownBy w' row) (hr : ∀ r, row = some r -> r = bm \/ ∃ t c, Blk w r t c) : Keeps0 w0 bm w' := by
 intro k o hk ho hne
 have h1 := h k o hk ho hne
 refine (hg.block k (Array.getElem?_eq_some_iff.1 h1).1 fun e => ?_).trans h1
 rcases hr k e.symm with h2 | ⟨t, c, h2⟩
 · exact hne h2
 · rw [show w.heap[k]? = _ from h2] at h1
   cases h1
   cases ho
structure DumpSt (w w0 : World) (B bm : Nat) (T : Abs.T) (β : Nat -> Nat) (rv : Value) (L : List (List UInt8 × Nat)) (i : Nat) (v : Value) (m : List (Nat × Nat)) (Ns : List NodeIt) (wr : World) : Prop where
 below : Below B w wr
 keep : Keeps0 w0 bm wr
 row : wr.ownsRow B 172 2 rv L.length (L.flatMap (toldC β))
 map : PtrMap wr bm (numsV β m)
 out : NodesOwn wr B v Ns
 len : Ns.length = i
 nums : Abs.NumsOk T i m
 rest : Ns.map NodeIt.nd ++ Abs.dumpGo T i m (L.drop i) = Abs.dumpGo T 0 [] L
theorem own_apart {w : World} {B B' n n' size size' : Nat} {e e' : TypeId} {v v' : Value} {xs xs' : List Value} (h : w.ownsRow B e size v n xs) (h' : w.ownsRow B' e' size' v' n' xs') (hne : e ≠ e') : ∀ g, v'.ownBlock = some g -> v.ownBlock ≠ some g := by
 intro g hg
 rcases h'.2 with ⟨rfl, _⟩ | ⟨g', cap, cur, rfl, _, hb, _⟩
 · simp [Value.ownBlock] at hg
 · obtain rfl : g' = g := by simpa [Value.ownBlock] using hg
   exact own_ne h hb hne
theorem own_blk {w : World} {B n size : Nat} {e : TypeId} {v : Value} {xs : List Value} (h : w.ownsRow B e size v n xs) (r : Nat) (hr : v.ownBlock = some r) : ∃ t c, Blk w r t c := by
 rcases h.2 with ⟨rfl, _⟩ | ⟨g', cap, cur, rfl, _, hb, _⟩
 · simp [Value.ownBlock] at hr
 · obtain rfl : g' = r := by simpa [Value.ownBlock] using hr
   exact ⟨_, _, hb⟩
theorem own_map {w : World} {B n size b : Nat} {e : TypeId} {v : Value} {xs : List Value} {L : List (Nat × Value)} (h : w.ownsRow B e size v n xs) (hm : PtrMap w b L) : v.ownBlock ≠ some b := by
 obtain ⟨es, clock, hb, _⟩ := hm
 rcases h.2 with ⟨rfl, _⟩ | ⟨g', cap, cur, rfl, _, hg, _⟩
 · simp [Value.ownBlock]
 · intro e1
   have : g' = b := by simpa [Value.ownBlock] using e1
   subst this
   rw [show w.heap[g']? = _ from hg] at hb
   cases hb
theorem PtrMap.on {w w' : World} {b : Nat} {L : List (Nat × Value)} (h : PtrMap w b L) {row : Option Nat} (hg : w.grownBy w' row) (hr : row ≠ some b) : PtrMap w' b L := by
 obtain ⟨es, clock, hb, he⟩ := h
 exact ⟨es, clock, (hg.block b (Array.getElem?_eq_some_iff.1 hb).1 (fun e => hr e.symm)).trans hb, he⟩
theorem blk_ne_map {w : World} {b g : Nat} {L : List (Nat × Value)} {t : TypeId} {c : Array Value} (h : PtrMap w b L) (hg : Blk w g t c) : g ≠ b := by
 rintro rfl
 obtain ⟨es, clock, hb, _⟩ := h
 rw [show w.heap[g]? = _ from hg] at hb
 cases hb
theorem blk_reads {w : World} {g size n : Nat} {t : TypeId} {xs : List Value} (h : Blk w g t xs.toArray) (hl : xs.length = n * size) : Reads w (g + 1) size (some ⟨g, 0, none⟩) n xs := by
 refine ⟨hl, fun _ => ⟨_, rfl, Nat.lt_succ_self _, fun j u hu => ?_⟩⟩
 have e : (⟨g, 0, none⟩ : Addr).add j = ⟨g, j, none⟩ := by unfold Addr.add; split <;> simp_all
 rw [e, h.cell j]
 simpa using hu
theorem grown_below {w w' : World} (h : Below w.heap.size w w') : w.grownBy w' none := only_of_below h none
theorem blk_range {w : World} {g : Nat} {t : TypeId} {cs : Array Value} (h : Blk w g t cs) : w.rangeAt g 0 cs.toList := fun j u hu => by
 rw [Nat.zero_add, h.cell j, <- hu, Array.getElem?_toList]
theorem DumpSt.next {w w0 wr w1 : World} {B bm : Nat} {T : Abs.T} {β : Nat -> Nat} {rv : Value} {L : List (List UInt8 × Nat)} {i : Nat} {v v' : Value} {m : List (Nat × Nat)} {Ns : List NodeIt} (h : DumpSt w w0 B bm T β rv L i v m Ns wr) {a : List UInt8 × Nat} (ha : L[i]? = some a) (hx : ∃ x, T.get a.2 = some x) {node : NodeIt} (hnd : node.nd = Abs.nodeOf T (Abs.nums T i m a.2) a)
 (hb : Below B w w1) (hkeep : Keeps0 w0 bm w1) (hrow : w1.ownsRow B 172 2 rv L.length (L.flatMap (toldC β))) (hmap : PtrMap w1 bm (numsV β (Abs.nums T i m a.2))) (hown : w1.ownsRow B 111 6 v' (i + 1) (nodesC Ns ++ nodeC node)) (hdata : ∀ n ∈ Ns, w1.ownsRow B 5 1 n.dv n.data.length (bytesC n.data)) (hd1 : w1.ownsRow B 5 1 node.dv node.data.length (bytesC node.data)) :
 DumpSt w w0 B bm T β rv L (i + 1) v' (Abs.nums T i m a.2) (Ns ++ [node]) w1 := by
 refine ⟨hb, hkeep, hrow, hmap, ⟨?_, fun n hn => ?_⟩, ?_, h.nums.step hx, ?_⟩
 · rw [List.length_append, List.length_singleton, h.len, nodesC_snoc]; exact hown
 · rcases List.mem_append.1 hn with hn | hn
   · exact hdata n hn
   · rw [List.mem_singleton] at hn; subst hn; exact hd1
 · rw [List.length_append, List.length_singleton, h.len]
 · rw [<- h.rest]
   have hd : L.drop i = a :: L.drop (i + 1) := by
    have hlt : i < L.length := (List.getElem?_eq_some_iff.1 ha).1
    rw [List.drop_eq_getElem_cons hlt]
    rw [List.getElem?_eq_getElem hlt] at ha
    rw [Option.some.inj ha]
   rw [hd]
   show _ = Ns.map NodeIt.nd ++ (Abs.nodeOf T (Abs.nums T i m a.2) a :: Abs.dumpGo T (i + 1) (Abs.nums T i m a.2) (L.drop (i + 1)))
   rw [List.map_append, List.map_singleton, hnd, List.append_assoc]
   rfl
set_option maxHeartbeats 8000000 in
theorem dump_loop (w w0 : World) (B bm t : Nat) (S : TS) (T : Abs.T) (β : Nat -> Nat) (hT : TreeIs w t S T β) (hBw : w.heap.size = B) (hbm : B <= bm) (Bd : Nat) (hBd : Bd <= 1073741824) (hfd : T.Fine Bd) (L : List (List UInt8 × Nat)) (n : Nat) (hn : L.length = n) (hn2 : n <= 1048576) (hlive : ∀ a ∈ L, ∃ x, T.get a.2 = some x) (RA : Option Addr) (rc : Nat) (h0 : DumpSt w w0 B bm T β (.slice RA n rc) L 0 (.slice none 0 0) [] [] w0)
 {e0 e1 e2 e3 e4 e5 e8 e9 e10 e11 e12 e13 e14 e15 e16 e17 e18 e19 e20 e21 e22 e23 e24 e25 e26 e27 e31 e32 e33 e34 e35 e36 e37 e38 e39 e40 e41 e42 e43 e44 e45 e46 e47 e48 e49 e50 e51 e52 e53 e54 e55 e56 e57 e58 e59 e60 e61 e62 e63 e64 e65 e66 e67 e68 e69 e70 e71 e72 e73 e74 e75 e76 e77 e78 e79 : Value} {ds : List Deferred} {Q0 : Exit -> Act -> World -> Prop}
 (hexit : ∀ (u8 u9 u10 u11 u31 u32 u33 u34 u35 u36 u37 u38 u39 u40 u41 u42 u43 u44 u45 u46 u47 u48 u49 u50 u51 u52 u53 u54 u55 u56 u57 u58 u59 u60 u61 u62 u63 u64 u65 u66 u67 u68 u69 u70 u71 u72 u73 u74 u75 u76 u77 u78 v : Value) (Ns : List NodeIt) (w1 : World), Below B w w1 -> Keeps0 w0 bm w1 -> NodesOwn w1 B v Ns -> Ns.map NodeIt.nd = Abs.dumpGo T 0 [] L -> Q0 (.exit 2) ⟨#[e0, e1, e2, e3, e4, e5, .map (some bm), v, u8, u9, u10, u11, e12, e13, e14, e15, e16, e17, e18, e19, e20, e21, e22, e23, e24, e25, e26, e27, .slice RA n rc, .int .i64 (n : Int), .int .i64 (n : Int), u31, u32, u33, u34, u35, u36, u37, u38, u39, u40, u41, u42, u43, u44, u45, u46, u47, u48, u49, u50, u51, u52, u53, u54, u55, u56, u57, u58, u59, u60, u61, u62, u63, u64, u65, u66, u67, u68, u69, u70, u71, u72, u73, u74, u75, u76, u77, u78, e79], ds⟩ w1) :
 Code.wp Tryz.prog (Code.loop (dumpLoop 0)) Q0 ⟨#[e0, e1, e2, e3, e4, e5, .map (some bm), .slice none 0 0, e8, e9, e10, e11, e12, e13, e14, e15, e16, e17, e18, e19, e20, e21, e22, e23, e24, e25, e26, e27, .slice RA n rc, .int .i64 (n : Int), .int .i64 0, e31, e32, e33, e34, e35, e36, e37, e38, e39, e40, e41, e42, e43, e44, e45, e46, e47, e48, e49, e50, e51, e52, e53, e54, e55, e56, e57, e58, e59, e60, e61, e62, e63, e64, e65, e66, e67, e68, e69, e70, e71, e72, e73, e74, e75, e76, e77, e78, e79], ds⟩ w0 := by
 dsimp only at hexit ⊢
 obtain ⟨iS, hiS, hS0, hS1, hS2⟩ := info_parts Tryz.infoNode
 have HI := Lib.hid hiS
 have H0 := Lib.hid hS0
 have H1 := Lib.hid hS1
 have H2 := Lib.hid hS2
 have HX := Lib.hid hexit
 have HN := Lib.hid hn
 have HT := Lib.hid hT
 have HB := Lib.hid hBw
 have HF := Lib.hid hfd
 have HL := Lib.hid hlive
 have HS0 := Lib.hid h0
 clear hiS hS0 hS1 hS2 hexit hn hT hBw hfd hlive h0
 conv => arg 2; arg 1; whnf
 go_loopw [7, 30] (fun v iv wr => ∃ (i : Nat) (m : List (Nat × Nat)) (Ns : List NodeIt), i <= n /\ iv = .int .i64 (i : Int) /\ Hid (DumpSt w w0 B bm T β (.slice RA n rc) L i v m Ns wr)) (fun _ iv _ => n - (intOf iv).toNat)
 case atStart => exact ⟨0, [], [], Nat.zero_le _, rfl, HS0⟩
 case round =>
  obtain ⟨i, m, Ns, hi, rfl, HS⟩ := hrel
  obtain ⟨OA, oc, e, hoc, _⟩ := own_slice HS.out.out.row
  rw [HS.out.len] at e
  subst e
  by_cases hlt : i < n
  · obtain ⟨a, ha⟩ : ∃ a, L[i]? = some a := ⟨_, List.getElem?_eq_getElem (by rw [HN.out]; exact hlt)⟩
    obtain ⟨x, hx⟩ := HL.out a (List.mem_of_getElem? ha)
    have hTr := HT.out.below (HS.out.below.mono (by rw [HB.out]; exact Nat.le_refl _))
    obtain ⟨y, hy, by0, hin, hmo, hti, hdi, hda, hdr, hli, hhe⟩ := hTr.at_ hx
    have hyb := (hTr.mem.item _ _ hy).2.1
    obtain ⟨g, hRA, hra⟩ : ∃ g, RA = some ⟨g, 0, none⟩ /\ wr.rangeAt g (i * 2) (toldC β a) := by
     have hr := HS.out.row
     rcases hr.2 with ⟨h1, h2⟩ | ⟨g, cap, cur, h1, _, hg, r1, r2, r3, r4⟩
     · rw [HN.out] at h2; omega
     · injection h1 with h1
       refine ⟨g, h1, fun j u hu => ?_⟩
       have hj : j < 2 := by
        by_cases hj : j < 2
        · exact hj
        · rw [List.getElem?_eq_none (by show 2 <= j; omega)] at hu; cases hu
       have h3 := (flatMap_at (enc := toldC β) (k := 2) (fun _ => rfl) L i j a ha hj).trans hu
       have h4 : cur.toList[i * 2 + j]? = some u := by
        rw [<- r4, List.getElem?_take_of_lt (by rw [HN.out]; omega)] at h3
        exact h3
       simp only [World.cell?, hg]
       simp only [Option.isSome_none, Bool.false_eq_true, if_false]
       rw [<- Array.getElem?_toList]
       exact h4
    subst hRA
    have q0 := hra 0 _ rfl
    have q1 := hra 1 _ rfl
    obtain ⟨p, j⟩ := a
    have hra' : wr.rangeAt g (i * 2) [.string ⟨p.toArray⟩, .pointer (some ⟨β j, 0, none⟩)] := hra
    have hone : (#[.string ⟨p.toArray⟩, .pointer (some ⟨β j, 0, none⟩)] : Array Value).all (·.oneCell') = true := by simp [Value.oneCell']
    obtain ⟨q, hq⟩ : ∃ q, x.data.length = q := ⟨_, rfl⟩
    have hql : q <= 1073741824 := by rw [<- hq]; exact Nat.le_trans (HF.out.data _ _ hx) hBd
    have hBwr : B <= wr.heap.size := by rw [<- HB.out]; exact HS.out.below.size
    have hi0 : (0 : Int) <= (i : Int) := by omega
    have hi1 : (i : Int) < (n : Int) := by omega
    have hgl : g < wr.heap.size := World.block_lt_of_cell? wr _ (hra 0 _ rfl)
    clear hra hli hhe hdr hin
    go_wp2_with (first
     | (refine wpList_load_mid rfl _ _ rfl g (i * 2) rfl [.string ⟨p.toArray⟩, .pointer (some ⟨β j, 0, none⟩)] _ hra' Tryz.underlying172 rfl (by kernel_rfl) ?_)
     | (refine wpList_store_blk rfl 172 (.tmp 9) (.tmp 34) rfl wr.heap.size 172 #[.string ⟨#[]⟩, .pointer none] #[.string ⟨p.toArray⟩, .pointer (some ⟨β j, 0, none⟩)] rfl rfl (Blk.new wr _ _) rfl (by kernel_rfl) hone ?_; intro w2 b2 g2
        have k1 : w2.cell? ⟨wr.heap.size, 1, none⟩ = some (.pointer (some ⟨β j, 0, none⟩)) := b2.cell 1
        have lk := b2.lt))
    have hb2 : Below wr.heap.size wr w2 := (below_one wr _).grown g2 (by simp) (fun j hj => by cases hj; exact Nat.le_refl _)
    have hT2 := hTr.below hb2
    obtain ⟨y', hy', by2, _⟩ := hT2.at_ hx
    rw [hy] at hy'
    cases hy'
    have hyb2 := (hT2.mem.item _ _ hy).2.1
    have hbI : Blk w2 (β j) 179 #[.int .i64 (y.ino : Int), .int .i64 x.mode, .int .i64 x.tick, .bool x.dir, y.dv, .map (if y.dir then some y.nb else none), .pointer (if y.dir then some ⟨y.up, 0, none⟩ else none), .int .i64 y.links, .int .i64 y.held] := by rw [<- hmo, <- hti, <- hdi]; exact by2
    have hby : Bytes w2 w2.heap.size y.dv x.data := by rw [<- hda]; exact Bytes.of_off hyb2
    refine dump_r13 w2 wr.heap.size (β j) ⟨p.toArray⟩ x.dir x.mode x.tick y.dv x.data q hq _ _ _ _ _ _ b2 hbI hby (by rw [hq]; exact hql) ?_
    intro x37 x38 x39 x40 x41 x42 x43 x44 x45 x46 x47 x48 x49 x50 x51 x52 x53 x54 x55 x56 w3 R A cap hb3 hR hk5 ho5
    dsimp only
    have hb13 : Below wr.heap.size wr w3 := hb2.trans (hb3.mono hb2.size)
    have hT3 := hTr.below hb13
    obtain ⟨y', hy', by3, _⟩ := hT3.at_ hx
    rw [hy] at hy'
    cases hy'
    have hBw3 : Below B w w3 := HS.out.below.trans (hb13.mono hBwr)
    have hke3 := HS.out.keep.grown (grown_below hb13) (fun r e => by cases e)
    have hrow3 := own_on HS.out.row hb13
    have hmap3 := HS.out.map.on (grown_below hb13) (by simp)
    have hout3 := HS.out.out.below hb13
    have hkeys : ∀ z ∈ numsV β m, ∃ c t, Blk w3 z.1 t c := by
     intro z hz
     obtain ⟨q', hq', rfl⟩ := List.mem_map.1 hz
     obtain ⟨u, hu⟩ := HS.out.nums.live q' hq'
     obtain ⟨_, _, hbu, _⟩ := hT3.at_ hu
     exact ⟨_, _, hbu⟩
    have hlk3 := hmap3.look by3 hkeys
    rw [lkP_nums hT3.rep.inj (fun q' hq' => HS.out.nums.live q' hq') ⟨x, hx⟩] at hlk3
    have hdir3 : w3.cell? ⟨β j, 3, none⟩ = some (.bool x.dir) := by rw [by3.cell 3, <- hdi]; rfl
    have lj := by3.lt
    have l5 := hk5.lt
    have hBR : B <= R := Nat.le_trans hBwr (Nat.le_trans hb2.size hR)
    have ho5B : w3.ownsRow B 5 1 (.slice A q cap) q (bytesC x.data) := Joins.ownsRow_le ho5 (Nat.le_trans hBwr hb2.size)
    have hisd : T.isDir j = x.dir := by unfold Abs.T.isDir; rw [hx]
    have HNI := Lib.hid (fun (no : Int) (h : no = Abs.inoOf T (Abs.nums T i m j) j) => show (NodeIt.mk ⟨p.toArray⟩ x.dir x.mode x.tick no A cap x.data).nd = Abs.nodeOf T (Abs.nums T i m j) (p, j) from by subst h; simp only [NodeIt.nd, Abs.nodeOf, hx])
    have hRw : wr.heap.size <= R := Nat.le_trans hb2.size hR
    clear hb2 hT2 by2 hyb2 hbI hby g2 b2 k1 lk hb3 hR ho5 hyb hTr by0 hra'
    have fin : ∀ (w5 w6 : World) (no : Int) (v' : Value) (m' : List (Nat × Nat)), m' = Abs.nums T i m j -> no = Abs.inoOf T (Abs.nums T i m j) j -> Below B w w5 -> Keeps0 w0 bm w5 -> w5.ownsRow B 172 2 (.slice (some ⟨g, 0, none⟩) n rc) L.length (L.flatMap (toldC β)) -> PtrMap w5 bm (numsV β m') -> NodesOwn w5 B (.slice OA i oc) Ns -> w5.ownsRow B 5 1 (.slice A q cap) q (bytesC x.data) -> B <= w5.heap.size ->
     w6.ownsRow B 111 6 v' (i + 1) (nodesC Ns ++ [.string ⟨p.toArray⟩, .bool x.dir, .int .i64 x.mode, .int .i64 x.tick, .int .i64 no, .slice A q cap]) -> (w5.alloc (.cells #[.string ⟨p.toArray⟩, .bool x.dir, .int .i64 x.mode, .int .i64 x.tick, .int .i64 no, .slice A q cap] 111)).grownBy w6 (Value.slice OA i oc).ownBlock -> DumpSt w w0 B bm T β (.slice (some ⟨g, 0, none⟩) n rc) L (i + 1) v' m' (Ns ++ [⟨⟨p.toArray⟩, x.dir, x.mode, x.tick, no, A, cap, x.data⟩]) w6 := by
     intro w5 w6 no v' m' hm' hno f1 f9 f2 f3 f4 f5 f6 f7 f8
     subst hm'
     have hlO : Ns.length = i := HS.out.len
     have hrowO := f4.row.alloc (.cells #[.string ⟨p.toArray⟩, .bool x.dir, .int .i64 x.mode, .int .i64 x.tick, .int .i64 no, .slice A q cap] 111)
     have hap : ∀ {sz nn : Nat} {e : TypeId} {v : Value} {xs : List Value}, e ≠ 111 -> w5.ownsRow B e sz v nn xs -> w6.ownsRow B e sz v nn xs := by
      intro sz nn e v xs hne ho
      have ho' := ho.alloc (.cells #[.string ⟨p.toArray⟩, .bool x.dir, .int .i64 x.mode, .int .i64 x.tick, .int .i64 no, .slice A q cap] 111)
      exact own_grown ho' f8 (fun r hr => own_apart ho' hrowO hne r hr.symm.symm)
     refine DumpSt.next HS.out ha ⟨x, hx⟩ (HNI.out no hno) ?_ ((f9.grown (grown_below (below_one w5 _)) (fun r e => by cases e)).grown f8 (fun r e => .inr (own_blk hrowO r e))) (hap (by decide) f2) ((f3.on (grown_below (below_one w5 _)) (by simp)).on f8 ?_) ?_ (fun n hn => hap (by decide) (f4.data n hn)) ?_
     · exact (f1.alloc f6 _).grown f8 (Nat.le_trans f6 (by simp)) (fun k hk => (f4.row.lt k hk).1)
     · exact own_map hrowO (f3.on (grown_below (below_one w5 _)) (by simp))
     · rw [show nodeC ⟨⟨p.toArray⟩, x.dir, x.mode, x.tick, no, A, cap, x.data⟩ = [.string ⟨p.toArray⟩, .bool x.dir, .int .i64 x.mode, .int .i64 x.tick, .int .i64 no, .slice A q cap] from by unfold nodeC NodeIt.dv; rw [hq]]
       exact f7
     · have := hap (by decide) f5
       show w6.ownsRow B 5 1 (.slice A x.data.length cap) x.data.length (bytesC x.data)
       rw [hq]
       exact this
    have FIN := Lib.hid fin
    clear fin HNI
    have HO3 := Lib.hid hout3
    have hlO : Ns.length = i := HS.out.len
    have hrO3 : w3.ownsRow B 111 6 (.slice OA i oc) i (nodesC Ns) := by rw [<- hlO]; rw [<- hlO] at hout3; exact hout3.row
    have hB3 : B <= w3.heap.size := Nat.le_trans hBwr hb13.size
    cases hd : x.dir with
    | true =>
      rw [hd] at hdir3 hisd hk5 FIN
      clear hd hdi
      have hm' : m = Abs.nums T i m j := by unfold Abs.nums; rw [hisd]; rfl
      have hno : (0 : Int) = Abs.inoOf T (Abs.nums T i m j) j := by unfold Abs.inoOf; rw [hisd]; rfl
      have FM := Lib.hid hm'
      have FN := Lib.hid hno
      have HRO := Lib.hid hrO3
      have HBW := Lib.hid hBw3
      have HROW := Lib.hid hrow3
      have HMAP := Lib.hid hmap3
      have HK5 := Lib.hid hk5
      have HO5 := Lib.hid ho5B
      clear hm' hno hrO3 hlk3 hkeys hT3 by3 hrow3 hmap3 hout3 hk5 ho5B hBw3 hlO hisd
      go_wp2_with (first
       | (refine wpList_load_mid rfl _ _ rfl R 0 rfl [.string ⟨p.toArray⟩, .bool true, .int .i64 x.mode, .int .i64 x.tick, .int .i64 0, .slice A q cap] _ (blk_range HK5.out) Tryz.underlying111 rfl (by kernel_rfl) ?_)
       | (at_builtin; refine wpList_append_any _ rfl _ _ 24 rfl B 111 iS (.agg #[.string ⟨#[]⟩, .bool false, .int .i64 0, .int .i64 0, .int .i64 0, .slice none 0 0]) 6 72 Tryz.underlying24 HI.out H0.out H1.out H2.out rfl (by decide) (.slice OA i oc) i (nodesC Ns) rfl (HRO.out.alloc _) (w3.heap.size + 1) (some ⟨w3.heap.size, 0, none⟩) 1 1 [.string ⟨p.toArray⟩, .bool true, .int .i64 x.mode, .int .i64 x.tick, .int .i64 0, .slice A q cap] rfl (blk_reads (Blk.new w3 111 #[.string ⟨p.toArray⟩, .bool true, .int .i64 x.mode, .int .i64 x.tick, .int .i64 0, .slice A q cap]) rfl) (by simp [Value.oneCell']) (by simp only [maxLen]; omega) (by omega) (by simp; omega) ?_; intro v1 w6 hown1 hg1 hat1))
      go_roundw
      case rel => exact ⟨i + 1, m, _, by omega, by go_num, Lib.hid (FIN.out w3 w6 0 v1 m FM.out FN.out HBW.out hke3 HROW.out HMAP.out HO3.out HO5.out hB3 hown1 hg1)⟩
      case measure => simp [intOf]; omega
    | false =>
      rw [hd] at hdir3 hisd hk5 FIN
      clear hd hdi
      unfold ptrV at hlk3
      have fin2 : ∀ (w4 : World) (no : Int) (m' : List (Nat × Nat)), m' = Abs.nums T i m j -> no = Abs.inoOf T (Abs.nums T i m j) j -> Below B w w4 -> Keeps0 w0 bm w4 -> w4.ownsRow B 172 2 (.slice (some ⟨g, 0, none⟩) n rc) L.length (L.flatMap (toldC β)) -> PtrMap w4 bm (numsV β m') -> NodesOwn w4 B (.slice OA i oc) Ns -> w4.ownsRow B 5 1 (.slice A q cap) q (bytesC x.data) -> Blk w4 R 111 #[.string ⟨p.toArray⟩, .bool false, .int .i64 x.mode, .int .i64 x.tick, .int .i64 0, .slice A q cap] -> B <= w4.heap.size -> ∃ w5, w5 = w4.setCell ⟨R, 4, none⟩ (.int .i64 no) /\
       Blk w5 R 111 #[.string ⟨p.toArray⟩, .bool false, .int .i64 x.mode, .int .i64 x.tick, .int .i64 no, .slice A q cap] /\ w5.ownsRow B 111 6 (.slice OA i oc) i (nodesC Ns) /\ B <= w5.heap.size /\
       ∀ w6 v', w6.ownsRow B 111 6 v' (i + 1) (nodesC Ns ++ [.string ⟨p.toArray⟩, .bool false, .int .i64 x.mode, .int .i64 x.tick, .int .i64 no, .slice A q cap]) -> (w5.alloc (.cells #[.string ⟨p.toArray⟩, .bool false, .int .i64 x.mode, .int .i64 x.tick, .int .i64 no, .slice A q cap] 111)).grownBy w6 (Value.slice OA i oc).ownBlock -> DumpSt w w0 B bm T β (.slice (some ⟨g, 0, none⟩) n rc) L (i + 1) v' m' (Ns ++ [⟨⟨p.toArray⟩, false, x.mode, x.tick, no, A, cap, x.data⟩]) w6 := by
       intro w4 no m' hm' hno f1 f9 f2 f3 f4 f5 f6 f7
       have hOR : (Value.slice OA i oc).ownBlock ≠ some R := fun e => by have := (HS.out.out.row.lt R e).2; omega
       have hset : ∀ {e : TypeId} {sz nn : Nat} {v : Value} {xs : List Value}, v.ownBlock ≠ some R -> w4.ownsRow B e sz v nn xs -> (w4.setCell ⟨R, 4, none⟩ (.int .i64 no)).ownsRow B e sz v nn xs := fun hne ho => ownsRow_setCell_other ho hne _
       have hNO : NodesOwn (w4.setCell ⟨R, 4, none⟩ (.int .i64 no)) B (.slice OA i oc) Ns := ⟨hset hOR f4.row, fun n hn => hset (own_ne (f4.data n hn) f6 (by decide)) (f4.data n hn)⟩
       have hsz : (w4.setCell ⟨R, 4, none⟩ (.int .i64 no)).heap.size = w4.heap.size := by simp
       refine ⟨_, rfl, f6.set_ 4 _, ?_, by rw [hsz]; exact f7, fun w6 v' h1 h2 => FIN.out _ w6 no v' m' hm' hno (f1.setCell (p := ⟨R, 4, none⟩) hBR _) (f9.grown (grown_setCell w4 ⟨R, 4, none⟩ (.int .i64 no)) (fun r e => by cases e; exact .inr ⟨_, _, f6⟩)) (hset (own_ne f2 f6 (by decide)) f2) (f3.on (grown_setCell w4 ⟨R, 4, none⟩ (.int .i64 no)) ?_) hNO (hset (own_ne f5 f6 (by decide)) f5) (by rw [hsz]; exact f7) h1 h2⟩
       · rw [<- hlO]
         have := hNO.row
         rw [<- hlO] at this
         exact this
       · intro e
         exact blk_ne_map f3 f6 (Option.some.inj e)
      cases hl : Abs.lkN m j with
      | some v =>
        rw [hl] at hlk3
        simp only [Option.map_some, Option.getD_some] at hlk3
        have hv1 : 1 <= v := (HS.out.nums.ge _ (Abs.lkN_mem hl)).1
        have hv0 : ((v : Int) == 0) = false := by rw [beq_eq_false_iff_ne]; omega
        have hm' : m = Abs.nums T i m j := by unfold Abs.nums; rw [hl]; simp
        have hno : (v : Int) = Abs.inoOf T (Abs.nums T i m j) j := by rw [<- hm']; unfold Abs.inoOf; rw [hisd, hl]; rfl
        obtain ⟨w5, hw5, k5, hrO5, hB5, hfin5⟩ := fin2 w3 (v : Int) m hm' hno hBw3 hke3 hrow3 hmap3 HO3.out ho5B hk5 hB3
        have c4 := hk5.cell 4
        have c4' : w3.cell? ⟨R, 4, none⟩ = some (.int .i64 0) := c4
        have f4' := hk5.frozen 4
        obtain ⟨vz, hvz⟩ : ∃ vz : Int, (v : Int) = vz := ⟨_, rfl⟩
        rw [hvz] at hlk3 hv0 hw5 k5 hfin5
        have HFI := Lib.hid hfin5
        have HRO := Lib.hid hrO5
        have HK5 := Lib.hid k5
        have HW5 := Lib.hid hw5
        clear fin2 hfin5 hrO5 k5 hw5 c4 hm' hno hrO3 hkeys hT3 by3 hrow3 hmap3 hout3 hk5 ho5B hBw3 hlO hisd hvz hv1
        go_wp2_with (first
         | (rw [<- HW5.out]; refine wpList_load_mid rfl _ _ rfl R 0 rfl [.string ⟨p.toArray⟩, .bool false, .int .i64 x.mode, .int .i64 x.tick, .int .i64 vz, .slice A q cap] _ (blk_range HK5.out) Tryz.underlying111 rfl (by kernel_rfl) ?_)
         | (at_builtin; refine wpList_append_any _ rfl _ _ 24 rfl B 111 iS (.agg #[.string ⟨#[]⟩, .bool false, .int .i64 0, .int .i64 0, .int .i64 0, .slice none 0 0]) 6 72 Tryz.underlying24 HI.out H0.out H1.out H2.out rfl (by decide) (.slice OA i oc) i (nodesC Ns) rfl (HRO.out.alloc _) (w5.heap.size + 1) (some ⟨w5.heap.size, 0, none⟩) 1 1 [.string ⟨p.toArray⟩, .bool false, .int .i64 x.mode, .int .i64 x.tick, .int .i64 vz, .slice A q cap] rfl (blk_reads (Blk.new w5 111 #[.string ⟨p.toArray⟩, .bool false, .int .i64 x.mode, .int .i64 x.tick, .int .i64 vz, .slice A q cap]) rfl) (by simp [Value.oneCell']) (by simp only [maxLen]; omega) (by omega) (by simp; omega) ?_; intro v1 w6 hown1 hg1 hat1))
        go_roundw
        case rel => exact ⟨i + 1, m, _, by omega, by go_num, Lib.hid (HFI.out w6 v1 hown1 hg1)⟩
        case measure => simp [intOf]; omega
      | none =>
        rw [hl] at hlk3
        simp only [Option.map_none, Option.getD_none] at hlk3
        have hm' : m ++ [(j, i + 1)] = Abs.nums T i m j := by unfold Abs.nums; rw [hl, hisd]; rfl
        have hno : (((i + 1 : Nat)) : Int) = Abs.inoOf T (Abs.nums T i m j) j := by rw [<- hm']; unfold Abs.inoOf; rw [hisd, Abs.lkN_snoc hl]; rfl
        have hnone : lkP (numsV β m) (β j) = none := by rw [lkP_nums hT3.rep.inj (fun q' hq' => HS.out.nums.live q' hq') ⟨x, hx⟩, hl]; rfl
        obtain ⟨w4, hup, hmap4, hg4⟩ := hmap3.put by3 hkeys hnone (.int .i64 ((i : Int) + 1))
        unfold ptrV at hup
        have hnv : numsV β m ++ [(β j, .int .i64 ((i : Int) + 1))] = numsV β (m ++ [(j, i + 1)]) := by simp [numsV]
        rw [hnv] at hmap4
        have hT4 : ∀ {b : Nat} {t : TypeId} {c : Array Value}, Blk w3 b t c -> Blk w4 b t c := fun hb => hb.grown hg4 (fun e => blk_ne_map hmap3 hb (Option.some.inj e.symm).symm)
        have hkeys4 : ∀ z ∈ numsV β (m ++ [(j, i + 1)]), ∃ c t, Blk w4 z.1 t c := by
         intro z hz
         rw [<- hnv] at hz
         rcases List.mem_append.1 hz with hz | hz
         · obtain ⟨c, t, hb⟩ := hkeys z hz
           exact ⟨c, t, hT4 hb⟩
         · rw [List.mem_singleton] at hz
           subst hz
           exact ⟨_, _, hT4 by3⟩
        have hlk4 := hmap4.look (hT4 by3) hkeys4
        rw [lkP_nums hT3.rep.inj (fun q' hq' => (by
            rcases List.mem_append.1 hq' with h | h
            · exact HS.out.nums.live q' h
            · rw [List.mem_singleton] at h; subst h; exact ⟨x, hx⟩)) ⟨x, hx⟩, Abs.lkN_snoc hl] at hlk4
        simp only [Option.map_some, Option.getD_some] at hlk4
        unfold ptrV at hlk4
        have hown4 : ∀ {e : TypeId} {sz nn : Nat} {v : Value} {xs : List Value}, w3.ownsRow B e sz v nn xs -> w4.ownsRow B e sz v nn xs := fun ho => own_grown ho hg4 (fun r hr => by cases hr; exact own_map ho hmap3)
        have hsz4 : w3.heap.size <= w4.heap.size := hg4.size
        obtain ⟨w5, hw5, k5, hrO5, hB5, hfin5⟩ := fin2 w4 (((i + 1 : Nat)) : Int) (m ++ [(j, i + 1)]) hm' hno (hBw3.grown hg4 hB3 (fun k e => by cases e; exact hbm)) (hke3.grown hg4 (fun r e => by cases e; exact .inl rfl)) (hown4 hrow3) hmap4 ⟨hown4 HO3.out.row, fun n hn => hown4 (HO3.out.data n hn)⟩ (hown4 ho5B) (hT4 hk5) (Nat.le_trans hB3 hsz4)
        have c4' : w4.cell? ⟨R, 4, none⟩ = some (.int .i64 0) := (hT4 hk5).cell 4
        have f4' := (hT4 hk5).frozen 4
        have l54 := (hT4 hk5).lt
        obtain ⟨vz, hvz⟩ : ∃ vz : Int, (((i + 1 : Nat)) : Int) = vz := ⟨_, rfl⟩
        rw [hvz] at hlk4 hw5 k5 hfin5
        have HFI := Lib.hid hfin5
        have HRO := Lib.hid hrO5
        have HK5 := Lib.hid k5
        have HW5 := Lib.hid hw5
        clear fin2 hfin5 hrO5 k5 hw5 hm' hno hrO3 hkeys hT3 by3 hrow3 hmap3 hout3 hk5 ho5B hBw3 hlO hisd hvz hmap4 hkeys4 hT4 hown4 hnv hg4
        go_wp2_with (first
         | (rw [<- HW5.out]; refine wpList_load_mid rfl _ _ rfl R 0 rfl [.string ⟨p.toArray⟩, .bool false, .int .i64 x.mode, .int .i64 x.tick, .int .i64 vz, .slice A q cap] _ (blk_range HK5.out) Tryz.underlying111 rfl (by kernel_rfl) ?_)
         | (at_builtin; refine wpList_append_any _ rfl _ _ 24 rfl B 111 iS (.agg #[.string ⟨#[]⟩, .bool false, .int .i64 0, .int .i64 0, .int .i64 0, .slice none 0 0]) 6 72 Tryz.underlying24 HI.out H0.out H1.out H2.out rfl (by decide) (.slice OA i oc) i (nodesC Ns) rfl (HRO.out.alloc _) (w5.heap.size + 1) (some ⟨w5.heap.size, 0, none⟩) 1 1 [.string ⟨p.toArray⟩, .bool false, .int .i64 x.mode, .int .i64 x.tick, .int .i64 vz, .slice A q cap] rfl (blk_reads (Blk.new w5 111 #[.string ⟨p.toArray⟩, .bool false, .int .i64 x.mode, .int .i64 x.tick, .int .i64 vz, .slice A q cap]) rfl) (by simp [Value.oneCell']) (by simp only [maxLen]; omega) (by omega) (by simp; omega) ?_; intro v1 w6 hown1 hg1 hat1))
        go_roundw
        case rel => exact ⟨i + 1, m ++ [(j, i + 1)], _, by omega, by go_num, Lib.hid (HFI.out w6 v1 hown1 hg1)⟩
        case measure => simp [intOf]; omega
  · obtain rfl : i = n := by omega
    have hr := HS.out.rest
    rw [List.drop_eq_nil_of_le (by rw [HN.out]; exact Nat.le_refl _)] at hr
    have hr2 : Ns.map NodeIt.nd = Abs.dumpGo T 0 [] L := by
     rw [<- hr]
     simp [Abs.dumpGo]
    have HR2 := Lib.hid hr2
    clear hr hr2
    go_wp2_with fail
    exact HX.out _ _ _ _ _ _ _ _ _ _ _ _ _ _ _ _ _ _ _ _ _ _ _ _ _ _ _ _ _ _ _ _ _ _ _ _ _ _ _ _ _ _ _ _ _ _ _ _ _ _ _ _ _ Ns wr HS.out.below HS.out.keep HS.out.out HR2.out
end
end Go.Proofs.YtffffjngodinnaaGreatDoor
