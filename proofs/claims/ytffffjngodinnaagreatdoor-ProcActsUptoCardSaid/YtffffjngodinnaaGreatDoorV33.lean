/-
  Parts of the proof.
-/
import Derived.Test.YtffffjngodinnaaGreatDoorV28
import Derived.Test.YtffffjngodinnaaGreatDoorV32
section
namespace Go.Proofs.YtffffjngodinnaaGreatDoor
open Go.RowKit Go.Maps
structure NodeOk (w : World) (B : Nat) (n : NodeIt) : Prop where
 path : n.path.size <= 1048576
 len : n.data.length <= 1048576
 data : Bytes w B n.dv n.data
 mode : -9223372036854775808 <= n.mode /\ n.mode <= 9223372036854775807
 tick : -9223372036854775808 <= n.tick /\ n.tick <= 9223372036854775807
 ino : -9223372036854775808 <= n.ino /\ n.ino <= 9223372036854775807
theorem NodeOk.below {w w' : World} {B : Nat} {n : NodeIt} (h : NodeOk w B n) (hb : Below B w w') : NodeOk w' B n := ⟨h.path, h.len, h.data.below hb, h.mode, h.tick, h.ino⟩
theorem NodeOk.more {w : World} {B B' : Nat} {n : NodeIt} (h : NodeOk w B n) (hb : B <= B') : NodeOk w B' n := ⟨h.path, h.len, h.data.more hb, h.mode, h.tick, h.ino⟩
def nodeV (n : NodeIt) : Value := .agg #[.string n.path, .bool n.dir, .int .i64 n.mode, .int .i64 n.tick, .int .i64 n.ino, n.dv]
def firstF (fi : Int -> Option NodeIt) : Lit -> Option Value
 | .int .i64 k => (fi k).map nodeV
 | _ => none
theorem firstF_upd (fi : Int -> Option NodeIt) (k : Int) (n : NodeIt) : upd (firstF fi) (.int .i64 k) (some (nodeV n)) = firstF fun j => if j = k then some n else fi j := by
 funext l
 by_cases h : l = .int .i64 k
 · subst h
   rw [upd_same]
   simp [firstF]
 · rw [upd_other _ _ h]
   unfold firstF
   split
   · rename_i j
     have : j ≠ k := fun e => h (by rw [e])
     simp [this]
   · rfl
theorem TurnsP.below_ {F : Nat -> Prop} {B : Nat} {w w' : World} (h : TurnsP F w w') (hF : ∀ g, F g -> B <= g) (hB : B <= w.heap.size) : Below B w w' :=
 ⟨h.os, h.tape, h.output, h.size, fun k hk => h.block k (Nat.lt_of_lt_of_le hk hB) (fun hf => by have := hF k hf; omega)⟩
structure LoadSt (w : World) (B t fbm : Nat) (L : List NodeIt) (R : Option Abs.LS) (i : Nat) (s : Abs.LS) (S : TS) (β : Nat -> Nat) (fi : Int -> Option NodeIt) (wr : World) : Prop where
 below : Below B w wr
 tree : TreeIs wr t S s.T β
 within : S.within i
 foot : ∀ b, S.foot t b -> B <= b
 ok : s.Ok i 1048576
 first : ∀ k, s.first k = (fi k).map NodeIt.nd
 mem : ∀ k f, fi k = some f -> f ∈ L /\ k = f.ino /\ 0 < f.ino
 map : MapOf wr Tryz.prog 3 fbm i (firstF fi)
 off : B <= fbm /\ ¬ S.foot t fbm
 rest : s.run ((L.drop i).map NodeIt.nd) = R
theorem LoadSt.on {w wr w1 : World} {B t fbm : Nat} {L : List NodeIt} {R : Option Abs.LS} {i : Nat} {s : Abs.LS} {S : TS} {β : Nat -> Nat} {fi : Int -> Option NodeIt} (h : LoadSt w B t fbm L R i s S β fi wr) (hB : B <= wr.heap.size) (hb : Below wr.heap.size wr w1) : LoadSt w B t fbm L R i s S β fi w1 :=
 ⟨h.below.trans (hb.mono hB), h.tree.below hb, h.within, h.foot, h.ok, h.first, h.mem, h.map.same (hb.block _ h.map.lt), h.off, h.rest⟩
theorem Abs.LS.run_cons (s : Abs.LS) (n : Abs.Nd) (l : List Abs.Nd) : s.run (n :: l) = match s.step n with | none => none | some s' => s'.run l := rfl
theorem LoadSt.drop {w wr : World} {B t fbm : Nat} {L : List NodeIt} {R : Option Abs.LS} {i : Nat} {s : Abs.LS} {S : TS} {β : Nat -> Nat} {fi : Int -> Option NodeIt} (h : LoadSt w B t fbm L R i s S β fi wr) {x : NodeIt} (hx : L[i]? = some x) : (match s.step x.nd with | none => none | some s' => s'.run ((L.drop (i + 1)).map NodeIt.nd)) = R := by
 have hlt : i < L.length := (List.getElem?_eq_some_iff.1 hx).1
 have hd : L.drop i = x :: L.drop (i + 1) := by
  rw [List.drop_eq_getElem_cons hlt]
  rw [List.getElem?_eq_getElem hlt] at hx
  rw [Option.some.inj hx]
 rw [<- h.rest, hd, List.map_cons, Abs.LS.run_cons]
theorem nd_bad (x : NodeIt) : x.nd.bad = (!Abs.plain x.path.data.toList || decide (x.mode < 0 \/ 511 < x.mode) || decide (x.ino < 0) || (x.dir && (decide (0 < x.data.length) || !decide (x.ino = 0)))) := rfl
theorem went_keep {w w' : World} {t : Nat} {S : TS} {c : Nat} {T' : Abs.T} (h : TWent w w' t S c T') {g : Nat} (hg : ¬ S.foot t g) (hl : g < w.heap.size) : w'.heap[g]? = w.heap[g]? := by
 obtain ⟨_, _, _, _, hP, _⟩ := h
 exact hP.block g hl hg
end Go.Proofs.YtffffjngodinnaaGreatDoor
end
section
namespace Go.Proofs.YtffffjngodinnaaGreatDoor
set_option maxRecDepth 100000
open Go.RowKit Go.Maps
noncomputable def loadLoop (k : Nat) : Code := (Tryz.f55.body.bind (fun c => (loopsAt c)[k]?)).getD .skip
theorem blk_rangeN {w : World} {g : Nat} {t : TypeId} {cs : Array Value} (h : Blk w g t cs) : w.rangeAt g 0 cs.toList := fun j u hu => by
 rw [Nat.zero_add, h.cell j, <- hu, Array.getElem?_toList]
theorem link_ne {T : Abs.T} {a b c : List UInt8} {e : Nat} (h : T.linkE a b c = some e) : e ≠ 0 := by
 unfold Abs.T.linkE at h
 split at h
 · rename_i e' he; cases h; exact Abs.T.look_ne0 he
 · split at h
   · cases h; decide
   · split at h
     · cases h; decide
     · split at h
       · rename_i e' he; cases h; exact may_ne0 he
       · cases h
theorem node_zero (w : World) : (zeroValue 111).run Tryz.prog w = .ok (.agg #[.string ⟨#[]⟩, .bool false, .int .i64 0, .int .i64 0, .int .i64 0, .slice none 0 0]) w := by kernel_rfl
set_option maxHeartbeats 16000000 in
theorem load_loop (w w0 : World) (B t fbm : Nat) (L : List NodeIt) (n : Nat) (hn : L.length = n) (hn2 : n <= 1048576) (NA : Option Addr) (nc : Nat) (hr : Reads w B 6 NA n (nodesC L)) (hBw : w.heap.size = B) (hL : ∀ x ∈ L, NodeOk w B x) (R : Option Abs.LS) (S0 : TS) (β0 : Nat -> Nat) (h0 : LoadSt w B t fbm L R 0 Abs.LS.init S0 β0 (fun _ => none) w0)
 {e0 e1 e2 e3 e6 e7 e8 e9 e10 e11 e12 e13 e17 e18 e19 e20 e21 e22 e23 e24 e25 e26 e27 e28 e29 e30 e31 e32 e33 e34 e35 e36 e37 e38 e39 e40 e41 e42 e43 e44 e45 e46 e47 e48 e49 e50 e51 e52 e53 e54 e55 e56 e57 e58 e59 e60 e61 e62 e63 e64 e65 e66 e67 e68 e69 e70 e71 e72 e73 e74 e75 e76 e77 e78 e79 e80 e81 e82 e83 e84 e85 e86 e87 e88 e89 e90 e91 e92 e93 e94 e95 e96 e97 e98 e99 e100 e101 e102 e103 e104 e105 e106 e107 e108 e109 e110 e111 e112 e113 e114 e115 e116 e117 e118 e119 e120 e121 e122 e123 e124 : Value} {Q0 : Exit -> Act -> World -> Prop}
 (hexit : ∀ (u2 u3 u7 u8 u9 u10 u11 u17 u18 u19 u20 u21 u22 u23 u24 u25 u26 u27 u28 u29 u30 u31 u32 u33 u34 u35 u36 u37 u38 u39 u40 u41 u42 u43 u44 u45 u46 u47 u48 u49 u50 u51 u52 u53 u54 u55 u56 u57 u58 u59 u60 u61 u62 u63 u64 u65 u66 u67 u68 u69 u70 u71 u72 u73 u74 u75 u76 u77 u78 u79 u80 u81 u82 u83 u84 u85 u86 u87 u88 u89 u90 u91 u92 u93 u94 u95 u96 u97 u98 u99 u100 u101 u102 u103 u104 u105 u106 u107 u108 u109 u110 u111 u112 u113 u114 u115 u116 u117 u118 u119 u120 u121 u122 u123 : Value) (s : Abs.LS) (S : TS) (β : Nat -> Nat) (fi : Int -> Option NodeIt) (w1 : World), LoadSt w B t fbm L R n s S β fi w1 -> Q0 (.exit 0) ⟨#[e0, e1, u2, u3, .pointer (some ⟨t, 0, none⟩), .map (some fbm), e6, u7, u8, u9, u10, u11, e12, e13, .slice NA n nc, .int .i64 (n : Int), .int .i64 (n : Int), u17, u18, u19, u20, u21, u22, u23, u24, u25, u26, u27, u28, u29, u30, u31, u32, u33, u34, u35, u36, u37, u38, u39, u40, u41, u42, u43, u44, u45, u46, u47, u48, u49, u50, u51, u52, u53, u54, u55, u56, u57, u58, u59, u60, u61, u62, u63, u64, u65, u66, u67, u68, u69, u70, u71, u72, u73, u74, u75, u76, u77, u78, u79, u80, u81, u82, u83, u84, u85, u86, u87, u88, u89, u90, u91, u92, u93, u94, u95, u96, u97, u98, u99, u100, u101, u102, u103, u104, u105, u106, u107, u108, u109, u110, u111, u112, u113, u114, u115, u116, u117, u118, u119, u120, u121, u122, u123, e124], []⟩ w1)
 (hret : ∀ (u7 u8 u9 u10 u11 u16 u17 u18 u19 u20 u21 u22 u23 u24 u25 u26 u27 u28 u29 u30 u31 u32 u33 u34 u35 u36 u37 u38 u39 u40 u41 u42 u43 u44 u45 u46 u47 u48 u49 u50 u51 u52 u53 u54 u55 u56 u57 u58 u59 u60 u61 u62 u63 u64 u65 u66 u67 u68 u69 u70 u71 u72 u73 u74 u75 u76 u77 u78 u79 u80 u81 u82 u83 u84 u85 u86 u87 u88 u89 u90 u91 u92 u93 u94 u95 u96 u97 u98 u99 u100 u101 u102 u103 u104 u105 u106 u107 u108 u109 u110 u111 u112 u113 u114 u115 u116 u117 u118 u119 u120 u121 u122 u123 : Value) (w1 : World), R = none -> Below B w w1 -> Q0 .ret ⟨#[e0, e1, .pointer none, .int .i64 17, .pointer (some ⟨t, 0, none⟩), .map (some fbm), e6, u7, u8, u9, u10, u11, e12, e13, .slice NA n nc, .int .i64 (n : Int), u16, u17, u18, u19, u20, u21, u22, u23, u24, u25, u26, u27, u28, u29, u30, u31, u32, u33, u34, u35, u36, u37, u38, u39, u40, u41, u42, u43, u44, u45, u46, u47, u48, u49, u50, u51, u52, u53, u54, u55, u56, u57, u58, u59, u60, u61, u62, u63, u64, u65, u66, u67, u68, u69, u70, u71, u72, u73, u74, u75, u76, u77, u78, u79, u80, u81, u82, u83, u84, u85, u86, u87, u88, u89, u90, u91, u92, u93, u94, u95, u96, u97, u98, u99, u100, u101, u102, u103, u104, u105, u106, u107, u108, u109, u110, u111, u112, u113, u114, u115, u116, u117, u118, u119, u120, u121, u122, u123, e124], []⟩ w1) :
 Code.wp Tryz.prog (Code.loop (loadLoop 0)) Q0 ⟨#[e0, e1, e2, e3, .pointer (some ⟨t, 0, none⟩), .map (some fbm), e6, e7, e8, e9, e10, e11, e12, e13, .slice NA n nc, .int .i64 (n : Int), .int .i64 0, e17, e18, e19, e20, e21, e22, e23, e24, e25, e26, e27, e28, e29, e30, e31, e32, e33, e34, e35, e36, e37, e38, e39, e40, e41, e42, e43, e44, e45, e46, e47, e48, e49, e50, e51, e52, e53, e54, e55, e56, e57, e58, e59, e60, e61, e62, e63, e64, e65, e66, e67, e68, e69, e70, e71, e72, e73, e74, e75, e76, e77, e78, e79, e80, e81, e82, e83, e84, e85, e86, e87, e88, e89, e90, e91, e92, e93, e94, e95, e96, e97, e98, e99, e100, e101, e102, e103, e104, e105, e106, e107, e108, e109, e110, e111, e112, e113, e114, e115, e116, e117, e118, e119, e120, e121, e122, e123, e124], []⟩ w0 := by
 dsimp only at hexit hret ⊢
 have HX := Lib.hid hexit
 have HRET := Lib.hid hret
 have HN := Lib.hid hn
 have HR := Lib.hid hr
 have HB := Lib.hid hBw
 have HL := Lib.hid hL
 have HS0 := Lib.hid h0
 clear hexit hret hn hr hBw hL h0
 conv => arg 2; arg 1; whnf
 go_loopw [16] (fun iv wr => ∃ (i : Nat) (s : Abs.LS) (S : TS) (β : Nat -> Nat) (fi : Int -> Option NodeIt), i <= n /\ iv = .int .i64 (i : Int) /\ Hid (LoadSt w B t fbm L R i s S β fi wr)) (fun iv _ => n - (intOf iv).toNat)
 case atStart => exact ⟨0, _, _, _, _, Nat.zero_le _, rfl, HS0⟩
 case round =>
  obtain ⟨i, s, S, β, fi, hi, rfl, HS⟩ := hrel
  by_cases hlt : i < n
  · obtain ⟨x, hx⟩ : ∃ x, L[i]? = some x := ⟨_, List.getElem?_eq_getElem (by rw [HN.out]; exact hlt)⟩
    have hxm := List.mem_of_getElem? hx
    have hok := HL.out x hxm
    have hLn : L.length = n := HN.out
    have hBwr : B <= wr.heap.size := by rw [<- HB.out]; exact HS.out.below.size
    have hrw := HR.out.below HS.out.below
    obtain ⟨gb, off, hNA, hgb, hra⟩ : ∃ gb off, NA = some ⟨gb, off, none⟩ /\ gb < B /\ wr.rangeAt gb (off + i * 6) (nodeC x) := by
     obtain ⟨ad, rfl, hb, hc⟩ := hrw.2 (by omega)
     obtain ⟨gb, off, sp⟩ := ad
     have h0 := nodesC_at hx 0 (by omega)
     have hc0 := hc (i * 6 + 0) _ (h0.trans rfl)
     have hsp : sp = none := by
      cases i with
      | zero =>
        have hc1 : wr.cell? ⟨gb, off, sp⟩ = some (.string x.path) := hc0
        cases sp with
        | none => rfl
        | some y =>
          unfold World.cell? at hc1
          split at hc1
          · simp at hc1
          · cases hc1
      | succ i' =>
        have hz := hc 0 ((nodesC L)[0]'(by rw [nodesC_len]; omega)) (List.getElem?_eq_getElem (by rw [nodesC_len]; omega))
        have hc1 : wr.cell? ⟨gb, off, sp⟩ = some ((nodesC L)[0]'(by rw [nodesC_len]; omega)) := hz
        cases sp with
        | none => rfl
        | some y =>
          unfold World.cell? at hc1
          split at hc1
          · simp at hc1
          · cases hc1
     subst hsp
     refine ⟨gb, off, rfl, hb, fun j u hu => ?_⟩
     have hj : j < 6 := by
      by_cases hj : j < 6
      · exact hj
      · rw [List.getElem?_eq_none (by show 6 <= j; omega)] at hu; cases hu
     have h1 := hc (i * 6 + j) u ((nodesC_at hx j hj).trans hu)
     have e : (⟨gb, off, none⟩ : Addr).add (i * 6 + j) = ⟨gb, off + i * 6 + j, none⟩ := by unfold Addr.add; split <;> simp_all [Nat.add_assoc]
     rw [e] at h1
     exact h1
    subst hNA
    obtain ⟨p, d, m, k, o, A, c, bs⟩ := x
    obtain ⟨q, hq⟩ : ∃ q, bs.length = q := ⟨_, rfl⟩
    have hdv : NodeIt.dv ⟨p, d, m, k, o, A, c, bs⟩ = .slice A q c := by rw [<- hq]; rfl
    have hra' : wr.rangeAt gb (off + i * 6) [.string p, .bool d, .int .i64 m, .int .i64 k, .int .i64 o, .slice A q c] := by rw [<- hdv]; exact hra
    have hone : (#[.string p, .bool d, .int .i64 m, .int .i64 k, .int .i64 o, .slice A q c] : Array Value).all (·.oneCell') = true := by simp [Value.oneCell']
    have hi0 : (0 : Int) <= (i : Int) := by omega
    have hi1 : (i : Int) < (n : Int) := by omega
    have hgl : gb < wr.heap.size := Nat.lt_of_lt_of_le hgb hBwr
    have hdrop := HS.out.drop hx
    have HOK := Lib.hid hok
    have HDR := Lib.hid hdrop
    have HXI := Lib.hid hx
    have HQ := Lib.hid hq
    clear hra hok hrw hdrop hx hxm hLn
    have e6 : loadReg 6 = loadReg 6 := rfl
    conv at e6 => rhs; whnf
    have e10 : loadReg 10 = loadReg 10 := rfl
    conv at e10 => rhs; whnf
    rw [<- e6, <- e10]
    clear e6 e10
    go_wp2_with (first
     | (refine wpList_load_mid rfl _ _ rfl gb (off + i * 6) rfl [.string p, .bool d, .int .i64 m, .int .i64 k, .int .i64 o, .slice A q c] _ hra' Tryz.underlying111 rfl (by kernel_rfl) ?_)
     | (refine wpList_store_blk rfl 111 (.tmp 7) (.tmp 19) rfl wr.heap.size 111 #[.string ⟨#[]⟩, .bool false, .int .i64 0, .int .i64 0, .int .i64 0, .slice none 0 0] #[.string p, .bool d, .int .i64 m, .int .i64 k, .int .i64 o, .slice A q c] rfl rfl (Blk.new wr _ _) rfl (by kernel_rfl) hone ?_; intro w2 b2 g2
        have lk := b2.lt))
    have hb2 : Below wr.heap.size wr w2 := (below_one wr _).grown g2 (by simp) (fun j hj => by cases hj; exact Nat.le_refl _)
    have HS2 := HS.out.on hBwr hb2
    have hB2 : B <= w2.heap.size := Nat.le_trans hBwr hb2.size
    obtain ⟨bad, hbad⟩ : ∃ bad, (!Abs.plain p.data.toList || decide (m < 0 \/ 511 < m) || decide (o < 0) || (d && (decide (0 < q) || !decide (o = 0)))) = bad := ⟨_, rfl⟩
    have hbad' : (NodeIt.nd ⟨p, d, m, k, o, A, c, bs⟩).bad = bad := by rw [nd_bad, <- hbad, <- HQ.out]
    refine load_r6 w2 wr.heap.size p d m k o A q c b2 (by have := HOK.out.path; simp only at this; omega) HOK.out.mode.1 HOK.out.mode.2 bad hbad ?_
    intro x20 x21 x22 x23 x24 x25 x26 x27 x28 x29 x30 x31 x32 x33 x34 x35 x36 x37 x38 x39 x40 x41 x42 x43 x44 x45 x46 x47 x48 w3 hb3
    dsimp only
    have HS3 := HS2.on hB2 hb3
    have hB3 : B <= w3.heap.size := Nat.le_trans hB2 hb3.size
    have b3 := Blk.on b2 hb3
    have l3 := b3.lt
    have c34 : w3.cell? ⟨wr.heap.size, 4, none⟩ = some (.int .i64 o) := b3.cell 4
    have hwr3 : wr.heap.size <= w3.heap.size := Nat.le_trans hb2.size hb3.size
    have hfo3 : ∀ g, S.foot t g -> g < wr.heap.size := fun g hg => HS.out.tree.mem.foot_lt hg
    cases bad with
    | true =>
      have hRn : R = none := by rw [<- HDR.out]; unfold Abs.LS.step; rw [hbad']; rfl
      have HRN := Lib.hid hRn
      have HBW := Lib.hid HS3.below
      clear hRn hbad hbad' HS2 HS3 hb2 b2 g2
      go_wp2_with fail
      exact HRET.out _ _ _ _ _ _ _ _ _ _ _ _ _ _ _ _ _ _ _ _ _ _ _ _ _ _ _ _ _ _ _ _ _ _ _ _ _ _ _ _ _ _ _ _ _ _ _ _ _ _ _ _ _ _ _ _ _ _ _ _ _ _ _ _ _ _ _ _ _ _ _ _ _ _ _ _ _ _ _ _ _ _ _ _ _ _ _ _ _ _ _ _ _ _ _ _ _ _ _ _ _ _ _ _ _ _ _ _ _ _ _ _ _ w3 HRN.out HBW.out
    | false =>
      have hob : -9223372036854775808 <= o /\ o <= 9223372036854775807 := HOK.out.ino
      have hodd : d = true -> o = 0 /\ bs = [] := by
       intro hd
       rw [hd] at hbad
       simp only [Bool.or_eq_false_iff, Bool.true_and, Bool.not_eq_false', decide_eq_false_iff_not, decide_eq_true_eq] at hbad
       have h2 := hbad.2
       refine ⟨h2.2, List.eq_nil_of_length_eq_zero ?_⟩
       rw [HQ.out]; omega
      have ho0 : 0 <= o := by
       simp only [Bool.or_eq_false_iff, decide_eq_false_iff_not] at hbad
       have := hbad.1.2
       omega
      have hmap3 := HS3.map
      have HM3 := Lib.hid HS3
      have hk7 : ∀ W, Below w3.heap.size w3 W -> Blk W wr.heap.size 111 #[.string p, .bool d, .int .i64 m, .int .i64 k, .int .i64 o, .slice A q c] := fun W h => Blk.on b3 h
      have HK7 := Lib.hid hk7
      have hlbm := hmap3.lt
      clear hbad HS2 HS3 hb2 b2 g2 hk7
      cases hfo : fi o with
      | some f =>
        have hstep : ∀ (r : Option Abs.LS), (if (f.nd.mode = m /\ f.nd.tick = k /\ f.nd.data = bs) then s.link f.nd (NodeIt.nd ⟨p, d, m, k, o, A, c, bs⟩) else none) = r -> s.step (NodeIt.nd ⟨p, d, m, k, o, A, c, bs⟩) = r := by
         intro r hr
         unfold Abs.LS.step
         rw [hbad']
         simp only [Bool.false_eq_true, if_false]
         rw [show s.first (NodeIt.nd ⟨p, d, m, k, o, A, c, bs⟩).ino = some f.nd from by rw [HM3.out.first]; show (fi o).map _ = _; rw [hfo]; rfl]
         exact hr
        have hfm := HM3.out.mem o f hfo
        have hfok := HL.out f hfm.1
        have hlk : firstF fi (.int .i64 o) = some (nodeV f) := by show (fi o).map nodeV = _; rw [hfo]; rfl
        obtain ⟨pf, df, mf, kf, of, Af, cf, bf⟩ := f
        obtain ⟨qf, hqf⟩ : ∃ qf, bf.length = qf := ⟨_, rfl⟩
        have hdvf : NodeIt.dv ⟨pf, df, mf, kf, of, Af, cf, bf⟩ = .slice Af qf cf := by rw [<- hqf]; rfl
        have hnv : nodeV ⟨pf, df, mf, kf, of, Af, cf, bf⟩ = .agg #[.string pf, .bool df, .int .i64 mf, .int .i64 kf, .int .i64 of, .slice Af qf cf] := by unfold nodeV; rw [hdvf]
        rw [hnv] at hlk
        have honef : (#[.string pf, .bool df, .int .i64 mf, .int .i64 kf, .int .i64 of, .slice Af qf cf] : Array Value).all (·.oneCell') = true := by simp [Value.oneCell']
        have HST := Lib.hid hstep
        have HFO := Lib.hid hfok
        have HQF := Lib.hid hqf
        clear hstep hfok hqf hdvf hnv hfo hfm
        go_wp2_with (first
         | (at_lookup; refine wpList_look_of _ rfl _ _ 196 rfl 3 111 intKeys Tryz.underlying196 _ (node_zero _) fbm i (firstF fi) rfl hmap3 _ (.int .i64 o) rfl (keyOf_int_mk Tryz.underlying3 (WalkArith.wf_i64 (by omega))) ?_; rw [hlk]; simp only [Option.getD_some, Option.isSome_some])
         | (refine wpList_store_blk rfl 111 (.tmp 8) (.tmp 55) rfl w3.heap.size 111 #[.string ⟨#[]⟩, .bool false, .int .i64 0, .int .i64 0, .int .i64 0, .slice none 0 0] #[.string pf, .bool df, .int .i64 mf, .int .i64 kf, .int .i64 of, .slice Af qf cf] rfl rfl (Blk.new w3 _ _) rfl (by kernel_rfl) honef ?_; intro w4 b4 g4))
        have hb4 : Below w3.heap.size w3 w4 := (below_one w3 _).grown g4 (by simp) (fun j hj => by cases hj; exact Nat.le_refl _)
        have HS4 := HM3.out.on hB3 hb4
        have hB4 : B <= w4.heap.size := Nat.le_trans hB3 hb4.size
        have b7 := HK7.out w4 hb4
        have hrd : ∀ {A' : Option Addr} {c' q' : Nat} {bs' : List UInt8} {n' : NodeIt}, n'.dv = .slice A' q' c' -> n'.data = bs' -> bs'.length = q' -> NodeOk w B n' -> Reads w4 w4.heap.size 1 A' q' (bytesC bs') := by
         intro A' c' q' bs' n' h1 h2 h3 h4
         obtain ⟨A2, cap2, e, _, _, _, hr2⟩ := h4.data
         rw [h1, h2, h3] at e
         cases e
         rw [h2, h3] at hr2
         exact (hr2.below HS4.below).more hB4
        have hr1 := hrd (n' := ⟨p, d, m, k, o, A, c, bs⟩) hdv rfl HQ.out HOK.out
        have hr2 := hrd (n' := ⟨pf, df, mf, kf, of, Af, cf, bf⟩) (by rw [<- HQF.out]; rfl) rfl HQF.out HFO.out
        clear hrd hdv
        by_cases hsame : mf = m /\ kf = k /\ bf = bs
        · obtain ⟨hm', hk', hbs'⟩ := hsame
          have hpz : pf.size < 1073741824 := by have := HFO.out.path; simp only at this; omega
          have hpz2 : p.size < 1073741824 := by have := HOK.out.path; simp only at this; omega
          have hz0 : (⟨#[]⟩ : ByteArray).size < 1073741824 := by decide
          cases hE : s.T.linkE [] pf.data.toList p.data.toList with
          | some e =>
            have hRn : R = none := by
             have h1 : s.link (NodeIt.nd ⟨pf, df, mf, kf, of, Af, cf, bf⟩) (NodeIt.nd ⟨p, d, m, k, o, A, c, bs⟩) = none := by
              unfold Abs.LS.link
              rw [show s.T.linkE [] (NodeIt.nd ⟨pf, df, mf, kf, of, Af, cf, bf⟩).path (NodeIt.nd ⟨p, d, m, k, o, A, c, bs⟩).path = some e from hE]
             rw [<- HDR.out, HST.out none (by rw [if_pos ⟨hm', hk', hbs'⟩]; exact h1)]
            have hlc := link_no w4 t S s.T β HS4.tree ⟨#[]⟩ pf p hz0 hpz hpz2 e hE
            have hne : e ≠ 0 := link_ne hE
            have hV : ((e : Int) != 0) = true := by simpa using hne
            refine load_r10_link w4 t wr.heap.size w3.heap.size p pf d df m k o mf kf of A Af q c qf cf bs bf HQ.out HQF.out b7 b4 hr1 hr2 hm' hk' hbs' (e : Int) true hV (fun W => Below w4.heap.size w4 W) (hlc.mono fun _ _ h => ⟨h.1, h.2.2⟩) ?_
            intro x58 x59 x60 x61 x62 x63 x64 x65 x66 x67 x68 x69 x70 x71 x72 x73 x74 x75 x76 x77 x78 x79 x80 x81 x82 x83 x84 x85 w5 hb5
            dsimp only
            have HBW := Lib.hid (HS4.on hB4 hb5).below
            have HRN := Lib.hid hRn
            clear hRn HS4 hlc hE b7 b4 hr1 hr2 hm' hk' hbs' hb4 g4
            go_wp2_with fail
            exact HRET.out _ _ _ _ _ _ _ _ _ _ _ _ _ _ _ _ _ _ _ _ _ _ _ _ _ _ _ _ _ _ _ _ _ _ _ _ _ _ _ _ _ _ _ _ _ _ _ _ _ _ _ _ _ _ _ _ _ _ _ _ _ _ _ _ _ _ _ _ _ _ _ _ _ _ _ _ _ _ _ _ _ _ _ _ _ _ _ _ _ _ _ _ _ _ _ _ _ _ _ _ _ _ _ _ _ _ _ _ _ _ _ _ _ w5 HRN.out HBW.out
          | none =>
            cases hlo : s.T.look [] pf.data.toList with
            | error e => unfold Abs.T.linkE at hE; rw [hlo] at hE; cases hE
            | ok j =>
              cases hma : s.T.may [] p.data.toList false with
              | error e =>
                exfalso
                unfold Abs.T.linkE at hE
                obtain ⟨z, hz⟩ := HS4.tree.wf.look_live hlo
                rw [hlo] at hE
                simp only [hz, hma] at hE
                split at hE <;> cases hE
              | ok r =>
                obtain ⟨d', nm⟩ := r
                obtain ⟨z, hz⟩ := HS4.tree.wf.look_live hlo
                have hzd : z.dir = false := by
                 unfold Abs.T.linkE at hE
                 rw [hlo] at hE
                 simp only [hz] at hE
                 cases hd : z.dir with
                 | false => rfl
                 | true => rw [hd] at hE; simp at hE
                have hli : s.link (NodeIt.nd ⟨pf, df, mf, kf, of, Af, cf, bf⟩) (NodeIt.nd ⟨p, d, m, k, o, A, c, bs⟩) = some { s with T := s.T.linked d' nm j } := by
                 unfold Abs.LS.link
                 rw [show s.T.linkE [] (NodeIt.nd ⟨pf, df, mf, kf, of, Af, cf, bf⟩).path (NodeIt.nd ⟨p, d, m, k, o, A, c, bs⟩).path = none from hE, show s.T.look [] (NodeIt.nd ⟨pf, df, mf, kf, of, Af, cf, bf⟩).path = .ok j from hlo, show s.T.may [] (NodeIt.nd ⟨p, d, m, k, o, A, c, bs⟩).path false = .ok (d', nm) from hma]
                have hst := HST.out (some { s with T := s.T.linked d' nm j }) ((if_pos ⟨hm', hk', hbs'⟩).trans hli)
                have hi200 := HS4.ok.most
                have hlk2 : s.T.links j < 4611686018427387904 := by have := s.T.links_le j; rw [HS4.ok.many] at this; omega
                have hlc := link_ok w4 t S s.T β HS4.tree i HS4.within (by omega) ⟨#[]⟩ pf p hz0 hpz hpz2 j d' nm z hlo hz hzd hma hlk2
                refine load_r10_link w4 t wr.heap.size w3.heap.size p pf d df m k o mf kf of A Af q c qf cf bs bf HQ.out HQF.out b7 b4 hr1 hr2 hm' hk' hbs' 0 false rfl (fun W => TWent w4 W t S (i + 1) (s.T.linked d' nm j)) hlc ?_
                intro x58 x59 x60 x61 x62 x63 x64 x65 x66 x67 x68 x69 x70 x71 x72 x73 x74 x75 x76 x77 x78 x79 x80 x81 x82 x83 x84 x85 w5 hw5
                dsimp only
                have hok' := (HS4.ok.of_link hli).2
                have hbw5 : Below B w w5 := by
                 obtain ⟨_, _, _, _, hP, _⟩ := hw5
                 exact HS4.below.trans (hP.below_ (fun g hg => HS4.foot g hg) hB4)
                have hm5 := HS4.map.same (went_keep hw5 HS4.off.2 HS4.map.lt)
                obtain ⟨S5, β5, hT5, hwi5, hP5, hf5⟩ := hw5
                have hnew : LoadSt w B t fbm L R (i + 1) { s with T := s.T.linked d' nm j } S5 β5 fi w5 := by
                 refine ⟨hbw5, hT5, hwi5, fun b hb => (hf5 b hb).elim (HS4.foot b) (fun h => Nat.le_trans hB4 h), hok', HS4.first, HS4.mem, hm5.mono (Nat.le_succ i), ⟨HS4.off.1, fun hb => (hf5 _ hb).elim HS4.off.2 (fun h => by have := HS4.map.lt; omega)⟩, ?_⟩
                 have := HDR.out
                 rw [hst] at this
                 exact this
                have HNW := Lib.hid hnew
                clear hnew hT5 hwi5 hP5 hf5 hm5 hbw5 hok' hlc hst hli hE HS4 b7 b4 hr1 hr2 hm' hk' hbs' hb4 g4
                go_wp2_with fail
                exact ⟨⟨i + 1, _, _, _, _, by omega, by go_num, HNW⟩, by simp [intOf]; omega⟩
        · have hRn : R = none := by rw [<- HDR.out, HST.out none (if_neg hsame)]
          refine load_r10_no w4 t wr.heap.size w3.heap.size p pf d df m k o mf kf of A Af q c qf cf bs bf HQ.out HQF.out b7 b4 hr1 hr2 hsame ?_
          intro x58 x59 x60 x61 x62 x63 x64 x65 x66 x67 x68 x69 x70 x71 x72 x73 x74 x75 x76 x77 x78 x79 x80 x81 x82 x83 x84 x85 w5 hw5
          obtain rfl : w4 = w5 := hw5.symm
          dsimp only
          have HBW := Lib.hid HS4.below
          have HRN := Lib.hid hRn
          clear hRn HS4 hsame b7 b4 hr1 hr2 hb4 g4
          go_wp2_with fail
          exact HRET.out _ _ _ _ _ _ _ _ _ _ _ _ _ _ _ _ _ _ _ _ _ _ _ _ _ _ _ _ _ _ _ _ _ _ _ _ _ _ _ _ _ _ _ _ _ _ _ _ _ _ _ _ _ _ _ _ _ _ _ _ _ _ _ _ _ _ _ _ _ _ _ _ _ _ _ _ _ _ _ _ _ _ _ _ _ _ _ _ _ _ _ _ _ _ _ _ _ _ _ _ _ _ _ _ _ _ _ _ _ _ _ _ _ w4 HRN.out HBW.out
      | none =>
        have hlk : firstF fi (.int .i64 o) = none := by show (fi o).map nodeV = _; rw [hfo]; rfl
        have hstep : s.step (NodeIt.nd ⟨p, d, m, k, o, A, c, bs⟩) = s.make (NodeIt.nd ⟨p, d, m, k, o, A, c, bs⟩) := by
         unfold Abs.LS.step
         rw [hbad']
         simp only [Bool.false_eq_true, if_false]
         rw [show s.first (NodeIt.nd ⟨p, d, m, k, o, A, c, bs⟩).ino = none from by rw [HM3.out.first]; show (fi o).map _ = _; rw [hfo]; rfl]
        have hpz2 : p.size < 1073741824 := by have := HOK.out.path; simp only at this; omega
        have hz0 : (⟨#[]⟩ : ByteArray).size < 1073741824 := by decide
        have hzone : (#[.string ⟨#[]⟩, .bool false, .int .i64 0, .int .i64 0, .int .i64 0, .slice none 0 0] : Array Value).all (·.oneCell') = true := by simp [Value.oneCell']
        have hi200 := HM3.out.ok.most
        have hnx := HM3.out.ok.next
        have hcells : ∀ W, Below w3.heap.size w3 W -> W.cell? ⟨wr.heap.size, 0, none⟩ = some (.string p) /\ W.cell? ⟨wr.heap.size, 1, none⟩ = some (.bool d) /\ W.cell? ⟨wr.heap.size, 2, none⟩ = some (.int .i64 m) /\ W.cell? ⟨wr.heap.size, 3, none⟩ = some (.int .i64 k) /\ wr.heap.size < W.heap.size := fun W h =>
         ⟨(HK7.out W h).cell 0, (HK7.out W h).cell 1, (HK7.out W h).cell 2, (HK7.out W h).cell 3, (HK7.out W h).lt⟩
        have HC := Lib.hid hcells
        clear hcells
        cases hma : s.T.may [] p.data.toList d with
        | error e =>
          have hRn : R = none := by
           have h1 : s.make (NodeIt.nd ⟨p, d, m, k, o, A, c, bs⟩) = none := by
            unfold Abs.LS.make
            rw [show s.T.may [] (NodeIt.nd ⟨p, d, m, k, o, A, c, bs⟩).path (NodeIt.nd ⟨p, d, m, k, o, A, c, bs⟩).dir = .error e from hma]
           rw [<- HDR.out, hstep, h1]
          have hmk : ∀ W, Below w3.heap.size w3 W -> Calls Tryz.prog 94 #[.pointer (some ⟨t, 0, none⟩), .string ⟨#[]⟩, .string p, .bool d, .int .i64 m, .int .i64 k] W fun r w' => r = .returned (.tuple #[.int .i64 0, .int .i64 (e : Int)]) /\ Below W.heap.size W w' := fun W hW => make_no W t S s.T β (HM3.out.on hB3 hW).tree ⟨#[]⟩ p hz0 hpz2 d m k e hma
          have he1 : ((e : Int) != 0) = true := by have := may_ne0 hma; simpa using this
          have HMK := Lib.hid hmk
          have HRN := Lib.hid hRn
          clear hmk hRn hma hstep hbad' hnx hfo
          go_wp2_with (first
           | (at_lookup; refine wpList_look_of _ rfl _ _ 196 rfl 3 111 intKeys Tryz.underlying196 _ (node_zero _) fbm i (firstF fi) rfl hmap3 _ (.int .i64 o) rfl (keyOf_int_mk Tryz.underlying3 (WalkArith.wf_i64 (by omega))) ?_; rw [hlk]; simp only [Option.getD_none, Option.isSome_none])
           | (refine wpList_store_blk rfl 111 (.tmp 8) (.tmp 55) rfl w3.heap.size 111 #[.string ⟨#[]⟩, .bool false, .int .i64 0, .int .i64 0, .int .i64 0, .slice none 0 0] #[.string ⟨#[]⟩, .bool false, .int .i64 0, .int .i64 0, .int .i64 0, .slice none 0 0] rfl rfl (Blk.new w3 _ _) rfl (by kernel_rfl) hzone ?_; intro w4 b4 g4
              have hb4 : Below w3.heap.size w3 w4 := (below_one w3 _).grown g4 (by simp) (fun j hj => by cases hj; exact Nat.le_refl _)
              obtain ⟨q0, q1, q2, q3, q7⟩ := HC.out w4 hb4)
           | (go_at_call 94; refine (HMK.out w4 hb4).mono ?_; rintro e w5 ⟨rfl, hb5⟩))
          have hBW : Below B w w5 := ((HM3.out.on hB3 hb4).on (Nat.le_trans hB3 hb4.size) hb5).below
          exact HRET.out _ _ _ _ _ _ _ _ _ _ _ _ _ _ _ _ _ _ _ _ _ _ _ _ _ _ _ _ _ _ _ _ _ _ _ _ _ _ _ _ _ _ _ _ _ _ _ _ _ _ _ _ _ _ _ _ _ _ _ _ _ _ _ _ _ _ _ _ _ _ _ _ _ _ _ _ _ _ _ _ _ _ _ _ _ _ _ _ _ _ _ _ _ _ _ _ _ _ _ _ _ _ _ _ _ _ _ _ _ _ _ _ _ w5 HRN.out hBW
        | ok r =>
          obtain ⟨d', nm⟩ := r
          obtain ⟨xd, hxd, hxdd, hnm, hlkd, hdep, hmany⟩ := may_ok hma
          cases d with
          | true =>
            obtain ⟨rfl, rfl⟩ := hodd rfl
            have hmk' : s.make (NodeIt.nd ⟨p, true, m, k, 0, A, c, []⟩) = some { T := s.T.made d' nm { dir := true, mode := Abs.nine m, tick := k, up := d' }, first := s.first } := by
             unfold Abs.LS.make
             rw [show s.T.may [] (NodeIt.nd ⟨p, true, m, k, 0, A, c, []⟩).path (NodeIt.nd ⟨p, true, m, k, 0, A, c, []⟩).dir = .ok (d', nm) from hma]
             rfl
            have hmk : ∀ W, Below w3.heap.size w3 W -> Calls Tryz.prog 94 #[.pointer (some ⟨t, 0, none⟩), .string ⟨#[]⟩, .string p, .bool true, .int .i64 m, .int .i64 k] W fun r w' => r = .returned (.tuple #[.int .i64 (s.T.next : Int), .int .i64 0]) /\ TWent W w' t S (i + 1) (s.T.made d' nm { dir := true, mode := Abs.nine m, tick := k, up := d' }) := fun W hW =>
             make_dir W t S s.T β (HM3.out.on hB3 hW).tree i HM3.out.within (by omega) (by omega) ⟨#[]⟩ p hz0 hpz2 m k d' nm hma
            have hok' := HM3.out.ok.of_make (n := NodeIt.nd ⟨p, true, m, k, 0, A, c, []⟩) (Nat.zero_le _) hmk'
            have hfin : ∀ W, Below w3.heap.size w3 W -> ∀ w', TWent W w' t S (i + 1) (s.T.made d' nm { dir := true, mode := Abs.nine m, tick := k, up := d' }) -> (w'.cell? ⟨wr.heap.size, 1, none⟩ = some (.bool true) /\ w'.cell? ⟨wr.heap.size, 4, none⟩ = some (.int .i64 0) /\ wr.heap.size < w'.heap.size) /\ ∃ S' β', LoadSt w B t fbm L R (i + 1) { T := s.T.made d' nm { dir := true, mode := Abs.nine m, tick := k, up := d' }, first := s.first } S' β' fi w' := by
             intro W hW w' hw
             have HSW := HM3.out.on hB3 hW
             have hBW := Nat.le_trans hB3 hW.size
             have b7 := HK7.out W hW
             have e7 := went_keep hw (fun hg => by have := hfo3 _ hg; omega) b7.lt
             have b7' : Blk w' wr.heap.size 111 #[.string p, .bool true, .int .i64 m, .int .i64 k, .int .i64 0, .slice A q c] := e7.trans b7
             have hm5 := HSW.map.same (went_keep hw HSW.off.2 HSW.map.lt)
             refine ⟨⟨b7'.cell 1, b7'.cell 4, b7'.lt⟩, ?_⟩
             obtain ⟨S5, β5, hT5, hwi5, hP5, hf5⟩ := hw
             refine ⟨S5, β5, HSW.below.trans (hP5.below_ (fun g hg => HSW.foot g hg) hBW), hT5, hwi5, fun b hb => (hf5 b hb).elim (HSW.foot b) (fun h => Nat.le_trans hBW h), hok', HSW.first, HSW.mem, hm5.mono (Nat.le_succ i), ⟨HSW.off.1, fun hb => (hf5 _ hb).elim HSW.off.2 (fun h => by have := HSW.map.lt; omega)⟩, ?_⟩
             have := HDR.out
             rw [hstep, hmk'] at this
             exact this
            have HMK := Lib.hid hmk
            have HFIN := Lib.hid hfin
            clear hmk hfin hok' hmk' hma hstep hbad' hnx hfo hodd hxd hxdd hnm hlkd hdep hmany
            go_wp2_with (first
             | (at_lookup; refine wpList_look_of _ rfl _ _ 196 rfl 3 111 intKeys Tryz.underlying196 _ (node_zero _) fbm i (firstF fi) rfl hmap3 _ (.int .i64 0) rfl (keyOf_int_mk Tryz.underlying3 (WalkArith.wf_i64 (by omega))) ?_; rw [hlk]; simp only [Option.getD_none, Option.isSome_none])
             | (refine wpList_store_blk rfl 111 (.tmp 8) (.tmp 55) rfl w3.heap.size 111 #[.string ⟨#[]⟩, .bool false, .int .i64 0, .int .i64 0, .int .i64 0, .slice none 0 0] #[.string ⟨#[]⟩, .bool false, .int .i64 0, .int .i64 0, .int .i64 0, .slice none 0 0] rfl rfl (Blk.new w3 _ _) rfl (by kernel_rfl) hzone ?_; intro w4 b4 g4
                have hb4 : Below w3.heap.size w3 w4 := (below_one w3 _).grown g4 (by simp) (fun j hj => by cases hj; exact Nat.le_refl _)
                obtain ⟨q0, q1, q2, q3, q7⟩ := HC.out w4 hb4)
             | (go_at_call 94; refine (HMK.out w4 hb4).mono ?_; rintro e w5 ⟨rfl, hw5⟩
                obtain ⟨⟨z1, z4, z7⟩, S5, β5, hS5⟩ := HFIN.out w4 hb4 w5 hw5
                have HS5 := Lib.hid hS5
                clear hS5 hw5))
            exact ⟨⟨i + 1, _, _, _, _, by omega, by go_num, HS5⟩, by simp [intOf]; omega⟩
          | false =>
            obtain ⟨T5, hT5e⟩ : ∃ T5, s.T.made d' nm { dir := false, mode := Abs.nine m, tick := k } = T5 := ⟨_, rfl⟩
            obtain ⟨fr, hfr⟩ : ∃ fr : Int -> Option Abs.Nd, (if 0 < o then fun j => if j = o then some (NodeIt.nd ⟨p, false, m, k, o, A, c, bs⟩) else s.first j else s.first) = fr := ⟨_, rfl⟩
            have hmk' : s.make (NodeIt.nd ⟨p, false, m, k, o, A, c, bs⟩) = some { T := T5.set s.T.next fun x => { x with data := bs }, first := fr } := by
             unfold Abs.LS.make
             rw [show s.T.may [] (NodeIt.nd ⟨p, false, m, k, o, A, c, bs⟩).path (NodeIt.nd ⟨p, false, m, k, o, A, c, bs⟩).dir = .ok (d', nm) from hma, <- hT5e, <- hfr]
             rfl
            have hmk : ∀ W, Below w3.heap.size w3 W -> Calls Tryz.prog 94 #[.pointer (some ⟨t, 0, none⟩), .string ⟨#[]⟩, .string p, .bool false, .int .i64 m, .int .i64 k] W fun r w' => r = .returned (.tuple #[.int .i64 (s.T.next : Int), .int .i64 0]) /\ TWent W w' t S (i + 1) T5 := fun W hW => by
             rw [<- hT5e]
             exact make_file W t S s.T β (HM3.out.on hB3 hW).tree i HM3.out.within (by omega) (by omega) ⟨#[]⟩ p hz0 hpz2 m k d' nm hma
            have hok' := HM3.out.ok.of_make (n := NodeIt.nd ⟨p, false, m, k, o, A, c, bs⟩) HOK.out.len hmk'
            have hget5 : T5.get s.T.next = some { dir := false, mode := Abs.nine m, tick := k } := by rw [<- hT5e, HM3.out.tree.wf.made_get hxd, if_pos rfl]
            have hrun : ({ T := T5.set s.T.next fun x => { x with data := bs }, first := fr } : Abs.LS).run ((L.drop (i + 1)).map NodeIt.nd) = R := by
             have := HDR.out
             rw [hstep, hmk'] at this
             exact this
            have HMK := Lib.hid hmk
            have HOK' := Lib.hid hok'
            have HG5 := Lib.hid hget5
            have HRUN := Lib.hid hrun
            have HFR := Lib.hid hfr
            clear hmk hok' hget5 hrun hfr hmk' hma hstep hbad' hnx hfo hodd hxd hxdd hnm hlkd hdep hmany hT5e
            go_wp2_with (first
             | (at_lookup; refine wpList_look_of _ rfl _ _ 196 rfl 3 111 intKeys Tryz.underlying196 _ (node_zero _) fbm i (firstF fi) rfl hmap3 _ (.int .i64 o) rfl (keyOf_int_mk Tryz.underlying3 (WalkArith.wf_i64 (by omega))) ?_; rw [hlk]; simp only [Option.getD_none, Option.isSome_none])
             | (refine wpList_store_blk rfl 111 (.tmp 8) (.tmp 55) rfl w3.heap.size 111 #[.string ⟨#[]⟩, .bool false, .int .i64 0, .int .i64 0, .int .i64 0, .slice none 0 0] #[.string ⟨#[]⟩, .bool false, .int .i64 0, .int .i64 0, .int .i64 0, .slice none 0 0] rfl rfl (Blk.new w3 _ _) rfl (by kernel_rfl) hzone ?_; intro w4 b4 g4
                have hb4 : Below w3.heap.size w3 w4 := (below_one w3 _).grown g4 (by simp) (fun j hj => by cases hj; exact Nat.le_refl _)
                obtain ⟨q0, q1, q2, q3, q7⟩ := HC.out w4 hb4)
             | (go_at_call 94; refine (HMK.out w4 hb4).mono ?_; rintro e w5 ⟨rfl, hw5⟩
                have b75 : Blk w5 wr.heap.size 111 #[.string p, .bool false, .int .i64 m, .int .i64 k, .int .i64 o, .slice A q c] := (went_keep hw5 (fun hg => by have := hfo3 _ hg; omega) (HK7.out w4 hb4).lt).trans (HK7.out w4 hb4)
                have z1 : w5.cell? ⟨wr.heap.size, 1, none⟩ = some (.bool false) := b75.cell 1
                have z7 := b75.lt
                have HB75 := Lib.hid b75
                have HW5 := Lib.hid hw5
                clear hw5 b75))
            have HS4 := HM3.out.on hB3 hb4
            have hB4 : B <= w4.heap.size := Nat.le_trans hB3 hb4.size
            have b75 := HB75.out
            have hm5 := HS4.map.same (went_keep HW5.out HS4.off.2 HS4.map.lt)
            have hl74 := (HK7.out w4 hb4).lt
            obtain ⟨S5, β5, hT5, hwi5, hP5, hf5⟩ := HW5.out
            have hBW5 : Below B w w5 := HS4.below.trans (hP5.below_ (fun g hg => HS4.foot g hg) hB4)
            have hB5 : B <= w5.heap.size := Nat.le_trans hB4 hP5.size
            have hfo5 : ∀ b, S5.foot t b -> B <= b := fun b hb => (hf5 b hb).elim (HS4.foot b) (fun h => Nat.le_trans hB4 h)
            have hfb5 : ¬ S5.foot t fbm := fun hb => (hf5 _ hb).elim HS4.off.2 (fun h => by have := HS4.map.lt; omega)
            have h75 : ¬ S5.foot t wr.heap.size := fun hb => (hf5 _ hb).elim (fun h => by have := hfo3 _ h; omega) (fun h => by omega)
            obtain ⟨y5, hy5, by5, hin5, _, _, hdi5, _⟩ := hT5.at_ HG5.out
            have htn : t ≠ β5 s.T.next := fun e => Blk.ne_ hT5.mem.blk (e ▸ by5) (by decide) rfl
            have h7n : wr.heap.size ≠ β5 s.T.next := fun e => h75 (.inr (.inr ⟨β5 s.T.next, y5, hy5, .inl e⟩))
            have hfbn : S5.fb ≠ β5 s.T.next := hT5.mem.files.blk_ne' by5
            have hfil : filesF S5.files (.int .i64 (s.T.next : Int)) = some (.pointer (some ⟨β5 s.T.next, 0, none⟩)) := by
             have h1 : S5.files s.T.next = some (β5 s.T.next) := by rw [hT5.rep.files, HG5.out]; rfl
             show (if 0 <= (s.T.next : Int) then (S5.files (s.T.next : Int).toNat).map ptrV else none) = _
             rw [if_pos (by omega), Int.toNat_natCast, h1]
             rfl
            have hby5 : Bytes w5 w5.heap.size (.slice A q c) bs := by
             have h1 := HOK.out.data
             rw [hdv] at h1
             exact (h1.below hBW5).more hB5
            have hnx5 : -9223372036854775808 <= (s.T.next : Int) /\ (s.T.next : Int) <= 9223372036854775807 := by have := HM3.out.ok.next; omega
            have hS16 : ∀ W : World, (∀ k, k < w5.heap.size -> k ≠ β5 s.T.next -> W.heap[k]? = w5.heap[k]?) -> W.cell? ⟨t, 1, none⟩ = some (.map (some S5.fb)) /\ (Instr.lookup 167 (.map (some S5.fb)) (.int .i64 (s.T.next : Int)) false).run Tryz.prog W = .ok (.pointer (some ⟨β5 s.T.next, 0, none⟩)) W /\ W.cell? ⟨wr.heap.size, 5, none⟩ = some (.slice A q c) := by
             intro W hW
             have k1 : Blk W t _ _ := (hW t hT5.mem.blk.lt htn).trans hT5.mem.blk
             have k2 : Blk W wr.heap.size _ _ := (hW _ z7 h7n).trans b75
             have k3 := hT5.mem.files.same (hW _ hT5.mem.files.lt hfbn)
             refine ⟨k1.cell 1, ?_, k2.cell 5⟩
             have h1 := k3.look1 intKeys Tryz.underlying167 (show (zeroValue 166).run Tryz.prog W = .ok (.pointer none) W from by kernel_rfl) (key := .int .i64 (s.T.next : Int)) (kl := .int .i64 (s.T.next : Int)) (keyOf_int_mk Tryz.underlying3 (WalkArith.wf_i64 (by omega)))
             rw [hfil] at h1
             exact h1
            have hql : q <= 1073741824 := by have := HOK.out.len; simp only at this; rw [HQ.out] at this; omega
            refine load_r16 w5 t wr.heap.size (β5 s.T.next) S5.fb (s.T.next : Int) A c q y5.dv bs HQ.out hql hby5 (itemCells y5) by5 rfl hS16 ?_
            intro x105 x106 x107 x108 x109 x110 x111 x112 x113 x114 x115 UA uc w6 hb6 hown6
            dsimp only
            rw [<- HQ.out] at hown6
            obtain ⟨S7, hT7, hwi7, hP7, hf7⟩ := hT5.filed hwi5 HG5.out hb6 (OffRow.of_own hown6)
            rw [HQ.out] at hT7 hP7
            obtain ⟨w7, hw7⟩ : ∃ w7, w6.setCell ⟨β5 s.T.next, 4, none⟩ (.slice UA q uc) = w7 := ⟨_, rfl⟩
            rw [hw7] at hT7 hP7 ⊢
            have b77 : Blk w7 wr.heap.size 111 #[.string p, .bool false, .int .i64 m, .int .i64 k, .int .i64 o, .slice A q c] := (hP7.block _ z7 h75).trans b75
            have y4 : w7.cell? ⟨wr.heap.size, 4, none⟩ = some (.int .i64 o) := b77.cell 4
            have y7 := b77.lt
            have hm7 := hm5.same (hP7.block _ hm5.lt hfb5)
            have hBW7 : Below B w w7 := hBW5.trans (hP7.below_ hfo5 hB5)
            have hfo7 : ∀ b, S7.foot t b -> B <= b := fun b hb => (hf7 b hb).elim (hfo5 b) (fun h => Nat.le_trans hB5 h)
            have hfb7 : ¬ S7.foot t fbm := fun hb => (hf7 _ hb).elim hfb5 (fun h => by have := hm5.lt; omega)
            have hfirst0 : ∀ j, s.first j = (fi j).map NodeIt.nd := HM3.out.first
            have hmem0 := HM3.out.mem
            have hoff0 := HM3.out.off.1
            have HT7 := Lib.hid hT7
            have HM7 := Lib.hid hm7
            have HB77 := Lib.hid b77
            have HBW7 := Lib.hid hBW7
            have HWI7 := Lib.hid hwi7
            clear hT7 hm7 b77 hBW7 hwi7 hP7 hf7 hw7 hown6 hb6 hS16 hql hby5 hnx5 hfil hfbn h7n htn by5 hy5 hin5 hdi5 h75 hfb5 hfo5 hB5 hBW5 hf5 hP5 hwi5 hT5 hl74 hm5 b75 HS4 hb4 g4 b4 z1 z7 q0 q1 q2 q3 q7 hmap3
            by_cases ho1 : 0 < o
            · have ho1' : (0 : Int) < o := ho1
              rw [if_pos ho1] at HFR
              go_wp2_with (first
               | (refine wpList_load_mid rfl _ _ rfl wr.heap.size 0 rfl [.string p, .bool false, .int .i64 m, .int .i64 k, .int .i64 o, .slice A q c] _ (blk_rangeN HB77.out) Tryz.underlying111 rfl (by kernel_rfl) ?_)
               | (at_mapUpdate; refine wpList_store_of _ rfl _ _ _ 196 rfl 3 111 intKeys Tryz.underlying196 fbm i (firstF fi) rfl HM7.out (by unfold maxLen; omega) _ _ (.int .i64 o) rfl rfl (keyOf_int_mk Tryz.underlying3 (WalkArith.wf_i64 (by omega))) trivial ?_; intro w8 hm8 hg8))
              have hnvx : nodeV ⟨p, false, m, k, o, A, c, bs⟩ = .agg #[.string p, .bool false, .int .i64 m, .int .i64 k, .int .i64 o, .slice A q c] := by unfold nodeV; rw [hdv]
              have hm8' : MapOf w8 Tryz.prog 3 fbm (i + 1) (firstF fun j => if j = o then some ⟨p, false, m, k, o, A, c, bs⟩ else fi j) := by
               rw [<- firstF_upd, hnvx]; exact hm8
              have hT8 : TreeIs w8 t S7 (T5.set s.T.next fun x => { x with data := bs }) β5 := ⟨HT7.out.mem.off (F := fun g => g = fbm) ⟨hg8.os, hg8.tape, hg8.output, hg8.size, fun k hk hne => hg8.block k hk (fun e => hne (Option.some.inj e))⟩ (fun g hg e => hfb7 (e ▸ hg)), HT7.out.rep, HT7.out.wf⟩
              have hB7 : B <= w7.heap.size := by rw [<- HB.out]; exact HBW7.out.size
              refine ⟨⟨i + 1, { T := T5.set s.T.next fun x => { x with data := bs }, first := fr }, S7, β5, fun j => if j = o then some ⟨p, false, m, k, o, A, c, bs⟩ else fi j, by omega, by go_num, Lib.hid ⟨HBW7.out.grown hg8 hB7 (fun k e => by cases e; exact hoff0), hT8, HWI7.out, hfo7, HOK'.out, ?_, ?_, hm8', ⟨hoff0, hfb7⟩, HRUN.out⟩⟩, by simp [intOf]; omega⟩
              · intro j
                show fr j = _
                rw [<- HFR.out]
                by_cases hj : j = o
                · simp [hj]
                · simp [hj, hfirst0]
              · intro j f hjf
                by_cases hj : j = o
                · rw [if_pos hj] at hjf
                  cases hjf
                  exact ⟨List.mem_of_getElem? HXI.out, hj, ho1⟩
                · rw [if_neg hj] at hjf
                  exact hmem0 j f hjf
            · have ho1' : decide (0 < o) = false := decide_eq_false ho1
              have ho2 : ¬ (o > 0) := ho1
              rw [if_neg ho1] at HFR
              go_wp2_with fail
              exact ⟨⟨i + 1, { T := T5.set s.T.next fun x => { x with data := bs }, first := fr }, S7, β5, fi, by omega, by go_num, Lib.hid ⟨HBW7.out, HT7.out, HWI7.out, hfo7, HOK'.out, fun j => by show fr j = _; rw [<- HFR.out]; exact hfirst0 j, hmem0, HM7.out.mono (Nat.le_succ i), ⟨hoff0, hfb7⟩, HRUN.out⟩⟩, by simp [intOf]; omega⟩
  · obtain rfl : i = n := by omega
    go_wp2_with fail
    exact HX.out _ _ _ _ _ _ _ _ _ _ _ _ _ _ _ _ _ _ _ _ _ _ _ _ _ _ _ _ _ _ _ _ _ _ _ _ _ _ _ _ _ _ _ _ _ _ _ _ _ _ _ _ _ _ _ _ _ _ _ _ _ _ _ _ _ _ _ _ _ _ _ _ _ _ _ _ _ _ _ _ _ _ _ _ _ _ _ _ _ _ _ _ _ _ _ _ _ _ _ _ _ _ _ _ _ _ _ _ _ _ _ _ _ _ s S β fi wr HS.out
end Go.Proofs.YtffffjngodinnaaGreatDoor
end
section
namespace Go.Proofs.YtffffjngodinnaaGreatDoor.Abs
def rawOf (t : T) (a : List UInt8 × Nat) : Nd := match t.get a.2 with
 | none => ⟨a.1, false, 0, 0, 0, []⟩
 | some x => ⟨a.1, x.dir, x.mode, x.tick, (a.2 : Int), x.data⟩
theorem rawOf_path (t : T) (a : List UInt8 × Nat) : (rawOf t a).path = a.1 := by unfold rawOf; split <;> rfl
def ndle (a b : Nd) : Prop := nlt b.path a.path = false
theorem ndle_trans {a b c : Nd} (h1 : ndle a b) (h2 : ndle b c) : ndle a c := by
 unfold ndle at *
 cases h : nlt c.path a.path with
 | false => rfl
 | true =>
   by_cases e : b.path = a.path
   · rw [e, h] at h2; cases h2
   · have h4 := nlt_trans h (nlt_total e h1)
     rw [h2] at h4; cases h4
theorem ndle_of_lt {a b : Nd} (h : nlt a.path b.path = true) : ndle a b := by
 unfold ndle
 cases h2 : nlt b.path a.path with
 | false => rfl
 | true => have := nlt_trans h h2; rw [nlt_irrefl] at this; cases this
theorem sortT_pairwise (l : List (List UInt8 × Nat)) : (sortT l).Pairwise fun a b => nlt b.1 a.1 = false := by
 have h := List.pairwise_mergeSort (le := fun x y : List UInt8 × Nat => !nlt y.1 x.1) (fun a b c h1 h2 => by
  simp only [Bool.not_eq_true'] at *
  exact ndle_trans (a := ⟨a.1, false, 0, 0, 0, []⟩) (b := ⟨b.1, false, 0, 0, 0, []⟩) (c := ⟨c.1, false, 0, 0, 0, []⟩) h1 h2) (fun a b => by
  cases h1 : nlt b.1 a.1 with
  | false => simp
  | true =>
    have := ndle_of_lt (a := ⟨b.1, false, 0, 0, 0, []⟩) (b := ⟨a.1, false, 0, 0, 0, []⟩) h1
    have h2 : nlt a.1 b.1 = false := this
    simp [h2]) l
 refine h.imp fun h => ?_
 simpa using h
theorem sorted_eq {t : T} {l : List (List UInt8 × Nat)} (hdet : ∀ a ∈ l, ∀ b ∈ l, a.1 = b.1 -> a = b) {M : List Nd} (hp : M.Perm (l.map (rawOf t))) (hs : M.Pairwise ndle) : M = (sortT l).map (rawOf t) := by
 refine List.Perm.eq_of_pairwise (le := ndle) (fun a b ha hb h1 h2 => ?_) hs ?_ ?_
 · obtain ⟨a', ha', rfl⟩ := List.mem_map.1 (hp.subset ha)
   obtain ⟨b', hb', rfl⟩ := List.mem_map.1 hb
   have e : a'.1 = b'.1 := by
    by_cases e : a'.1 = b'.1
    · exact e
    · unfold ndle at h1 h2
      rw [rawOf_path, rawOf_path] at h1 h2
      have := nlt_total e h2
      rw [h1] at this
      cases this
   rw [hdet a' ha' b' (mem_sortT.1 hb') e]
 · rw [List.pairwise_map]
   refine (sortT_pairwise l).imp fun h => ?_
   unfold ndle
   rw [rawOf_path, rawOf_path]
   exact h
 · exact hp.trans ((List.mergeSort_perm _ _).symm.map _)
def idx (l : List (List UInt8 × Nat)) (j : Nat) : Nat := l.findIdx fun q => q.2 == j
def nodeR (t : T) (S : List (List UInt8 × Nat)) (a : List UInt8 × Nat) : Nd := match t.get a.2 with
 | none => ⟨a.1, false, 0, 0, 0, []⟩
 | some x => ⟨a.1, x.dir, x.mode, x.tick, if x.dir then 0 else ((idx S a.2 + 1 : Nat) : Int), x.data⟩
theorem idx_pre {pre r : List (List UInt8 × Nat)} {j : Nat} (h : ∃ q ∈ pre, q.2 = j) : idx (pre ++ r) j = idx pre j := by
 unfold idx
 rw [List.findIdx_append, if_pos]
 rw [List.findIdx_lt_length]
 obtain ⟨q, hq, e⟩ := h
 exact ⟨q, hq, by simp [e]⟩
theorem idx_new {pre r : List (List UInt8 × Nat)} {a : List UInt8 × Nat} (h : ¬ ∃ q ∈ pre, q.2 = a.2) : idx (pre ++ a :: r) a.2 = pre.length := by
 unfold idx
 rw [List.findIdx_append, if_neg]
 · rw [List.findIdx_cons]; simp
 · rw [List.findIdx_lt_length]
   rintro ⟨q, hq, e⟩
   exact h ⟨q, hq, by simpa using e⟩
theorem lkN_other {m : List (Nat × Nat)} {j k v : Nat} (h : j ≠ k) : lkN (m ++ [(k, v)]) j = lkN m j := by
 induction m with
 | nil => simp [lkN, h]
 | cons q m ih =>
   obtain ⟨i, u⟩ := q
   rw [List.cons_append]
   unfold lkN
   split
   · rfl
   · exact ih
theorem dumpGo_eq (t : T) : ∀ (rest pre : List (List UInt8 × Nat)) (m : List (Nat × Nat)), (∀ j, lkN m j = if t.isDir j = true then none else if ∃ q ∈ pre, q.2 = j then some (idx pre j + 1) else none) -> dumpGo t pre.length m rest = rest.map (nodeR t (pre ++ rest))
 | [], _, _, _ => rfl
 | a :: rest, pre, m, hm => by
   have hstep : ∀ j, lkN (nums t pre.length m a.2) j = if t.isDir j = true then none else if ∃ q ∈ pre ++ [a], q.2 = j then some (idx (pre ++ [a]) j + 1) else none := by
    intro j
    have hin : (∃ q ∈ pre ++ [a], q.2 = j) ↔ (∃ q ∈ pre, q.2 = j) \/ a.2 = j := by
     constructor
     · rintro ⟨q, hq, e⟩
       rcases List.mem_append.1 hq with h | h
       · exact .inl ⟨q, h, e⟩
       · rw [List.mem_singleton] at h; subst h; exact .inr e
     · rintro (⟨q, hq, e⟩ | e)
       · exact ⟨q, List.mem_append_left _ hq, e⟩
       · exact ⟨a, by simp, e⟩
    unfold nums
    by_cases hd : t.isDir a.2 = true
    · rw [if_pos (by simp [hd]), hm j]
      by_cases hj : t.isDir j = true
      · rw [if_pos hj, if_pos hj]
      · rw [if_neg hj, if_neg hj]
        have hne : ¬ a.2 = j := fun e => hj (e ▸ hd)
        by_cases hp : ∃ q ∈ pre, q.2 = j
        · rw [if_pos hp, if_pos (hin.2 (.inl hp)), idx_pre hp]
        · rw [if_neg hp, if_neg (fun h => (hin.1 h).elim hp hne)]
    · by_cases hp0 : ∃ q ∈ pre, q.2 = a.2
      · have h0 := hm a.2
        rw [if_neg hd, if_pos hp0] at h0
        rw [if_pos (by simp [h0]), hm j]
        by_cases hj : t.isDir j = true
        · rw [if_pos hj, if_pos hj]
        · rw [if_neg hj, if_neg hj]
          by_cases hp : ∃ q ∈ pre, q.2 = j
          · rw [if_pos hp, if_pos (hin.2 (.inl hp)), idx_pre hp]
          · rw [if_neg hp, if_neg (fun h => (hin.1 h).elim hp (fun e => hp (e ▸ hp0)))]
      · have h0 := hm a.2
        rw [if_neg hd, if_neg hp0] at h0
        rw [if_neg (by simp [hd, h0])]
        by_cases e : j = a.2
        · subst e
          rw [lkN_snoc h0, if_neg hd, if_pos (hin.2 (.inr rfl)), idx_new hp0]
        · rw [lkN_other e, hm j]
          by_cases hj : t.isDir j = true
          · rw [if_pos hj, if_pos hj]
          · rw [if_neg hj, if_neg hj]
            by_cases hp : ∃ q ∈ pre, q.2 = j
            · rw [if_pos hp, if_pos (hin.2 (.inl hp)), idx_pre hp]
            · rw [if_neg hp, if_neg (fun h => (hin.1 h).elim hp (fun e2 => e e2.symm))]
   have ih := dumpGo_eq t rest (pre ++ [a]) _ hstep
   rw [List.length_append, List.length_singleton, List.append_assoc, List.singleton_append] at ih
   unfold dumpGo
   rw [ih, List.map_cons]
   congr 1
   unfold nodeOf nodeR
   cases hx : t.get a.2 with
   | none => rfl
   | some x =>
     have hd : t.isDir a.2 = x.dir := by simp [T.isDir, hx]
     have h1 := hstep a.2
     simp only
     unfold inoOf
     rw [hd] at h1 ⊢
     cases hxd : x.dir with
     | true => simp
     | false =>
       rw [hxd] at h1
       rw [if_neg (by simp), if_pos ⟨a, by simp, rfl⟩] at h1
       have h2 : idx (pre ++ a :: rest) a.2 = idx (pre ++ [a]) a.2 := by
        rw [show pre ++ a :: rest = (pre ++ [a]) ++ rest by simp]
        exact idx_pre ⟨a, by simp, rfl⟩
       rw [h1, h2]
       simp
theorem T.dump_eq (t : T) : t.dump = (sortT (t.walkN 12 1 [])).map (nodeR t (sortT (t.walkN 12 1 []))) := by
 have h := dumpGo_eq t (sortT (t.walkN 12 1 [])) [] [] (fun j => by simp [lkN])
 simpa [T.dump] using h
theorem idx_is {S : List (List UInt8 × Nat)} {j k : Nat} {a : List UInt8 × Nat} (hk : S[k]? = some a) (ha : a.2 = j) (hno : ∀ q ∈ S.take k, q.2 ≠ j) : idx S j = k := by
 have hS : S = S.take k ++ a :: S.drop (k + 1) := by
  have hl : k < S.length := (List.getElem?_eq_some_iff.1 hk).1
  rw [List.getElem?_eq_getElem hl] at hk
  rw [<- Option.some.inj hk, <- List.drop_eq_getElem_cons hl, List.take_append_drop]
 have hl : k < S.length := (List.getElem?_eq_some_iff.1 hk).1
 have h := idx_new (pre := S.take k) (r := S.drop (k + 1)) (a := a) (fun ⟨q, hq, e⟩ => hno q hq (e.trans ha))
 rw [<- hS, ha, List.length_take, Nat.min_eq_left (Nat.le_of_lt hl)] at h
 exact h
theorem T.WF.walk_file {t : T} (h : t.WF) {k j : Nat} {p : List UInt8} {x : Ent} (hx : t.get j = some x) (hd : x.dir = false) : t.walkN k j p = [] := by
 cases k with
 | zero => rfl
 | succ k => unfold T.walkN; rw [hx]; simp [h.file _ _ hx hd]
end Go.Proofs.YtffffjngodinnaaGreatDoor.Abs
end
