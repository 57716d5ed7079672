/-
  Parts of the proof.
-/
import Derived.Test.YtffffjngodinnaaGreatDoorV27
import Derived.Test.YtffffjngodinnaaGreatDoorV20
import Derived.Test.YtffffjngodinnaaGreatDoorV11
import Derived.Test.YtffffjngodinnaaGreatDoorV26
namespace Go.Proofs.YtffffjngodinnaaGreatDoor
section
set_option maxRecDepth 100000
open Go.RowKit Go.Maps
noncomputable def loadReg (k : Nat) : Code := (Tryz.f55.body.bind (fun c => (regsOf c).find? (isReg k))).getD .skip
set_option maxHeartbeats 4000000 in
theorem load_r6 (w : World) (g : Nat) (s : ByteArray) (dir : Bool) (mode tick ino : Int) (A : Option Addr) (q c : Nat) (hb : Blk w g 111 #[.string s, .bool dir, .int .i64 mode, .int .i64 tick, .int .i64 ino, .slice A q c]) (hs : s.size < 4294967281) (hm1 : -9223372036854775808 <= mode) (hm2 : mode <= 9223372036854775807) (R : Bool)
 (hR : (!Abs.plain s.data.toList || decide (mode < 0 \/ 511 < mode) || decide (ino < 0) || (dir && (decide (0 < q) || !decide (ino = 0)))) = R)
 {e0 e1 e2 e3 e4 e5 e6 e8 e9 e10 e11 e12 e13 e14 e15 e16 e17 e18 e19 e20 e21 e22 e23 e24 e25 e26 e27 e28 e29 e30 e31 e32 e33 e34 e35 e36 e37 e38 e39 e40 e41 e42 e43 e44 e45 e46 e47 e48 e49 e50 e51 e52 e53 e54 e55 e56 e57 e58 e59 e60 e61 e62 e63 e64 e65 e66 e67 e68 e69 e70 e71 e72 e73 e74 e75 e76 e77 e78 e79 e80 e81 e82 e83 e84 e85 e86 e87 e88 e89 e90 e91 e92 e93 e94 e95 e96 e97 e98 e99 e100 e101 e102 e103 e104 e105 e106 e107 e108 e109 e110 e111 e112 e113 e114 e115 e116 e117 e118 e119 e120 e121 e122 e123 e124 : Value} {Q0 : Exit -> Act -> World -> Prop}
 (hexit : ∀ (u20 u21 u22 u23 u24 u25 u26 u27 u28 u29 u30 u31 u32 u33 u34 u35 u36 u37 u38 u39 u40 u41 u42 u43 u44 u45 u46 u47 u48 : Value) (w1 : World), Below w.heap.size w w1 -> Q0 .normal ⟨#[e0, e1, e2, e3, e4, e5, e6, .pointer (some ⟨g, 0, none⟩), e8, e9, e10, e11, e12, e13, e14, e15, e16, e17, e18, e19, u20, u21, u22, u23, u24, u25, u26, u27, u28, u29, u30, u31, u32, u33, u34, u35, u36, u37, u38, u39, u40, u41, u42, u43, u44, u45, u46, u47, u48, .bool R, e50, e51, e52, e53, e54, e55, e56, e57, e58, e59, e60, e61, e62, e63, e64, e65, e66, e67, e68, e69, e70, e71, e72, e73, e74, e75, e76, e77, e78, e79, e80, e81, e82, e83, e84, e85, e86, e87, e88, e89, e90, e91, e92, e93, e94, e95, e96, e97, e98, e99, e100, e101, e102, e103, e104, e105, e106, e107, e108, e109, e110, e111, e112, e113, e114, e115, e116, e117, e118, e119, e120, e121, e122, e123, e124], []⟩ w1) :
 Code.wp Tryz.prog (loadReg 6) Q0 ⟨#[e0, e1, e2, e3, e4, e5, e6, .pointer (some ⟨g, 0, none⟩), e8, e9, e10, e11, e12, e13, e14, e15, e16, e17, e18, e19, e20, e21, e22, e23, e24, e25, e26, e27, e28, e29, e30, e31, e32, e33, e34, e35, e36, e37, e38, e39, e40, e41, e42, e43, e44, e45, e46, e47, e48, e49, e50, e51, e52, e53, e54, e55, e56, e57, e58, e59, e60, e61, e62, e63, e64, e65, e66, e67, e68, e69, e70, e71, e72, e73, e74, e75, e76, e77, e78, e79, e80, e81, e82, e83, e84, e85, e86, e87, e88, e89, e90, e91, e92, e93, e94, e95, e96, e97, e98, e99, e100, e101, e102, e103, e104, e105, e106, e107, e108, e109, e110, e111, e112, e113, e114, e115, e116, e117, e118, e119, e120, e121, e122, e123, e124], []⟩ w := by
 dsimp only at hexit ⊢
 have HX := Lib.hid hexit
 have hpl := plain_any s w hs
 have k0 : w.cell? ⟨g, 0, none⟩ = some (.string s) := hb.cell 0
 clear hexit
 cases hp : Abs.plain s.data.toList with
 | false =>
   rw [hp] at hpl hR
   obtain rfl : R = true := by simpa using hR.symm
   conv => arg 2; whnf
   go_wp2_with (go_at_call 91; refine hpl.mono ?_; rintro e w1 ⟨rfl, hb1⟩)
   exact HX.out _ _ _ _ _ _ _ _ _ _ _ _ _ _ _ _ _ _ _ _ _ _ _ _ _ _ _ _ _ w1 hb1
 | true =>
   rw [hp] at hpl hR
   have hon : ∀ W, Below w.heap.size w W -> W.cell? ⟨g, 1, none⟩ = some (.bool dir) /\ W.cell? ⟨g, 2, none⟩ = some (.int .i64 mode) /\ W.cell? ⟨g, 4, none⟩ = some (.int .i64 ino) /\ W.cell? ⟨g, 5, none⟩ = some (.slice A q c) /\ g < W.heap.size := fun W h =>
    ⟨(Blk.on hb h).cell 1, (Blk.on hb h).cell 2, (Blk.on hb h).cell 4, (Blk.on hb h).cell 5, (Blk.on hb h).lt⟩
   have HON := Lib.hid hon
   clear hon hb
   have hmb := mode_bits mode hm1 hm2
   by_cases hmo : mode < 0 \/ 511 < mode
   · rw [decide_eq_true hmo] at hmb hR
     obtain rfl : R = true := by simpa using hR.symm
     conv => arg 2; whnf
     go_wp2_with (go_at_call 91; refine hpl.mono ?_; rintro e w1 ⟨rfl, hb1⟩; obtain ⟨k1, k2, k4, k5, kl⟩ := HON.out w1 hb1)
     exact HX.out _ _ _ _ _ _ _ _ _ _ _ _ _ _ _ _ _ _ _ _ _ _ _ _ _ _ _ _ _ w1 hb1
   · rw [decide_eq_false hmo] at hmb hR
     by_cases hin : ino < 0
     · rw [decide_eq_true hin] at hR
       obtain rfl : R = true := by simpa using hR.symm
       conv => arg 2; whnf
       go_wp2_with (go_at_call 91; refine hpl.mono ?_; rintro e w1 ⟨rfl, hb1⟩; obtain ⟨k1, k2, k4, k5, kl⟩ := HON.out w1 hb1)
       exact HX.out _ _ _ _ _ _ _ _ _ _ _ _ _ _ _ _ _ _ _ _ _ _ _ _ _ _ _ _ _ w1 hb1
     · rw [decide_eq_false hin] at hR
       have hind : decide (ino < 0) = false := decide_eq_false hin
       cases dir with
       | false =>
         obtain rfl : R = false := by simpa using hR.symm
         conv => arg 2; whnf
         go_wp2_with (go_at_call 91; refine hpl.mono ?_; rintro e w1 ⟨rfl, hb1⟩; obtain ⟨k1, k2, k4, k5, kl⟩ := HON.out w1 hb1)
         exact HX.out _ _ _ _ _ _ _ _ _ _ _ _ _ _ _ _ _ _ _ _ _ _ _ _ _ _ _ _ _ w1 hb1
       | true =>
         have hq0 : (0 : Int) <= (q : Int) := by omega
         by_cases hq : 0 < q
         · rw [decide_eq_true hq] at hR
           obtain rfl : R = true := by simpa using hR.symm
           have hq1 : (0 : Int) < (q : Int) := by omega
           conv => arg 2; whnf
           go_wp2_with (go_at_call 91; refine hpl.mono ?_; rintro e w1 ⟨rfl, hb1⟩; obtain ⟨k1, k2, k4, k5, kl⟩ := HON.out w1 hb1)
           exact HX.out _ _ _ _ _ _ _ _ _ _ _ _ _ _ _ _ _ _ _ _ _ _ _ _ _ _ _ _ _ w1 hb1
         · rw [decide_eq_false hq] at hR
           obtain rfl : q = 0 := by omega
           by_cases hi0 : ino = 0
           · rw [decide_eq_true hi0] at hR
             obtain rfl : R = false := by simpa using hR.symm
             subst hi0
             conv => arg 2; whnf
             go_wp2_with (go_at_call 91; refine hpl.mono ?_; rintro e w1 ⟨rfl, hb1⟩; obtain ⟨k1, k2, k4, k5, kl⟩ := HON.out w1 hb1)
             exact HX.out _ _ _ _ _ _ _ _ _ _ _ _ _ _ _ _ _ _ _ _ _ _ _ _ _ _ _ _ _ w1 hb1
           · rw [decide_eq_false hi0] at hR
             obtain rfl : R = true := by simpa using hR.symm
             have hi1 : (ino != 0) = true := by simpa using hi0
             conv => arg 2; whnf
             go_wp2_with (go_at_call 91; refine hpl.mono ?_; rintro e w1 ⟨rfl, hb1⟩; obtain ⟨k1, k2, k4, k5, kl⟩ := HON.out w1 hb1)
             exact HX.out _ _ _ _ _ _ _ _ _ _ _ _ _ _ _ _ _ _ _ _ _ _ _ _ _ _ _ _ _ w1 hb1
end
section
set_option maxRecDepth 100000
open Go.RowKit Go.Maps
set_option maxHeartbeats 4000000 in
theorem load_r10_no (w : World) (t g g8 : Nat) (s sf : ByteArray) (dir fdir : Bool) (mode tick ino fmode ftick fino : Int) (A Af : Option Addr) (q c qf cf : Nat) (bs fbs : List UInt8) (hq : bs.length = q) (hfq : fbs.length = qf) (hb : Blk w g 111 #[.string s, .bool dir, .int .i64 mode, .int .i64 tick, .int .i64 ino, .slice A q c]) (hf : Blk w g8 111 #[.string sf, .bool fdir, .int .i64 fmode, .int .i64 ftick, .int .i64 fino, .slice Af qf cf]) (hr : Reads w w.heap.size 1 A q (bytesC bs)) (hfr : Reads w w.heap.size 1 Af qf (bytesC fbs)) (hne : ¬ (fmode = mode /\ ftick = tick /\ fbs = bs))
 {e0 e1 e2 e3 e5 e6 e9 e10 e11 e12 e13 e14 e15 e16 e17 e18 e19 e20 e21 e22 e23 e24 e25 e26 e27 e28 e29 e30 e31 e32 e33 e34 e35 e36 e37 e38 e39 e40 e41 e42 e43 e44 e45 e46 e47 e48 e49 e50 e51 e52 e53 e54 e55 e56 e57 e58 e59 e60 e61 e62 e63 e64 e65 e66 e67 e68 e69 e70 e71 e72 e73 e74 e75 e76 e77 e78 e79 e80 e81 e82 e83 e84 e85 e86 e87 e88 e89 e90 e91 e92 e93 e94 e95 e96 e97 e98 e99 e100 e101 e102 e103 e104 e105 e106 e107 e108 e109 e110 e111 e112 e113 e114 e115 e116 e117 e118 e119 e120 e121 e122 e123 e124 : Value} {Q0 : Exit -> Act -> World -> Prop}
 (hexit : ∀ (u58 u59 u60 u61 u62 u63 u64 u65 u66 u67 u68 u69 u70 u71 u72 u73 u74 u75 u76 u77 u78 u79 u80 u81 u82 u83 u84 u85 : Value) (w1 : World), w1 = w -> Q0 .normal ⟨#[e0, e1, e2, e3, .pointer (some ⟨t, 0, none⟩), e5, e6, .pointer (some ⟨g, 0, none⟩), .pointer (some ⟨g8, 0, none⟩), e9, e10, e11, e12, e13, e14, e15, e16, e17, e18, e19, e20, e21, e22, e23, e24, e25, e26, e27, e28, e29, e30, e31, e32, e33, e34, e35, e36, e37, e38, e39, e40, e41, e42, e43, e44, e45, e46, e47, e48, e49, e50, e51, e52, e53, e54, e55, e56, e57, u58, u59, u60, u61, u62, u63, u64, u65, u66, u67, u68, u69, u70, u71, u72, u73, u74, u75, u76, u77, u78, u79, u80, u81, u82, u83, u84, u85, .bool true, e87, e88, e89, e90, e91, e92, e93, e94, e95, e96, e97, e98, e99, e100, e101, e102, e103, e104, e105, e106, e107, e108, e109, e110, e111, e112, e113, e114, e115, e116, e117, e118, e119, e120, e121, e122, e123, e124], []⟩ w1) :
 Code.wp Tryz.prog (loadReg 10) Q0 ⟨#[e0, e1, e2, e3, .pointer (some ⟨t, 0, none⟩), e5, e6, .pointer (some ⟨g, 0, none⟩), .pointer (some ⟨g8, 0, none⟩), e9, e10, e11, e12, e13, e14, e15, e16, e17, e18, e19, e20, e21, e22, e23, e24, e25, e26, e27, e28, e29, e30, e31, e32, e33, e34, e35, e36, e37, e38, e39, e40, e41, e42, e43, e44, e45, e46, e47, e48, e49, e50, e51, e52, e53, e54, e55, e56, e57, e58, e59, e60, e61, e62, e63, e64, e65, e66, e67, e68, e69, e70, e71, e72, e73, e74, e75, e76, e77, e78, e79, e80, e81, e82, e83, e84, e85, e86, e87, e88, e89, e90, e91, e92, e93, e94, e95, e96, e97, e98, e99, e100, e101, e102, e103, e104, e105, e106, e107, e108, e109, e110, e111, e112, e113, e114, e115, e116, e117, e118, e119, e120, e121, e122, e123, e124], []⟩ w := by
 dsimp only at hexit ⊢
 have HX := Lib.hid hexit
 have heq := bytes_equal w w.heap.size w.heap.size Af A cf c qf q fbs bs hfq hq hfr hr
 have k0 : w.cell? ⟨g, 0, none⟩ = some (.string s) := hb.cell 0
 have k2 : w.cell? ⟨g, 2, none⟩ = some (.int .i64 mode) := hb.cell 2
 have k3 : w.cell? ⟨g, 3, none⟩ = some (.int .i64 tick) := hb.cell 3
 have k5 : w.cell? ⟨g, 5, none⟩ = some (.slice A q c) := hb.cell 5
 have j0 : w.cell? ⟨g8, 0, none⟩ = some (.string sf) := hf.cell 0
 have j2 : w.cell? ⟨g8, 2, none⟩ = some (.int .i64 fmode) := hf.cell 2
 have j3 : w.cell? ⟨g8, 3, none⟩ = some (.int .i64 ftick) := hf.cell 3
 have j5 : w.cell? ⟨g8, 5, none⟩ = some (.slice Af qf cf) := hf.cell 5
 have lg := hb.lt
 have lf := hf.lt
 clear hexit hb hf hfr hr hfq hq
 by_cases h1 : fmode = mode
 · by_cases h2 : ftick = tick
   · have h3 : (fbs == bs) = false := by rw [beq_eq_false_iff_ne]; exact fun e => hne ⟨h1, h2, e⟩
     rw [h3] at heq
     subst h1 h2
     clear hne h3
     conv => arg 2; whnf
     go_wp2_with (go_at_call 92; refine heq.mono ?_; rintro e we ⟨rfl, hwe⟩; obtain rfl : w = we := hwe.symm)
     exact HX.out _ _ _ _ _ _ _ _ _ _ _ _ _ _ _ _ _ _ _ _ _ _ _ _ _ _ _ _ w rfl
   · have h2' : (ftick != tick) = true := by rw [bne_iff_ne]; exact h2
     subst h1
     clear hne h2 heq
     conv => arg 2; whnf
     go_wp2_with fail
     exact HX.out _ _ _ _ _ _ _ _ _ _ _ _ _ _ _ _ _ _ _ _ _ _ _ _ _ _ _ _ w rfl
 · have h1' : (fmode != mode) = true := by rw [bne_iff_ne]; exact h1
   clear hne h1 heq
   conv => arg 2; whnf
   go_wp2_with fail
   exact HX.out _ _ _ _ _ _ _ _ _ _ _ _ _ _ _ _ _ _ _ _ _ _ _ _ _ _ _ _ w rfl
set_option maxHeartbeats 4000000 in
theorem load_r10_link (w : World) (t g g8 : Nat) (s sf : ByteArray) (dir fdir : Bool) (mode tick ino fmode ftick fino : Int) (A Af : Option Addr) (q c qf cf : Nat) (bs fbs : List UInt8) (hq : bs.length = q) (hfq : fbs.length = qf) (hb : Blk w g 111 #[.string s, .bool dir, .int .i64 mode, .int .i64 tick, .int .i64 ino, .slice A q c]) (hf : Blk w g8 111 #[.string sf, .bool fdir, .int .i64 fmode, .int .i64 ftick, .int .i64 fino, .slice Af qf cf]) (hr : Reads w w.heap.size 1 A q (bytesC bs)) (hfr : Reads w w.heap.size 1 Af qf (bytesC fbs)) (hm : fmode = mode) (ht : ftick = tick) (hbs : fbs = bs) (E : Int) (V : Bool) (hV : (E != 0) = V) (R : World -> Prop)
 (hlink : Calls Tryz.prog 93 #[.pointer (some ⟨t, 0, none⟩), .string ⟨#[]⟩, .string sf, .string s] w fun e w' => e = .returned (.int .i64 E) /\ R w')
 {e0 e1 e2 e3 e5 e6 e9 e10 e11 e12 e13 e14 e15 e16 e17 e18 e19 e20 e21 e22 e23 e24 e25 e26 e27 e28 e29 e30 e31 e32 e33 e34 e35 e36 e37 e38 e39 e40 e41 e42 e43 e44 e45 e46 e47 e48 e49 e50 e51 e52 e53 e54 e55 e56 e57 e58 e59 e60 e61 e62 e63 e64 e65 e66 e67 e68 e69 e70 e71 e72 e73 e74 e75 e76 e77 e78 e79 e80 e81 e82 e83 e84 e85 e86 e87 e88 e89 e90 e91 e92 e93 e94 e95 e96 e97 e98 e99 e100 e101 e102 e103 e104 e105 e106 e107 e108 e109 e110 e111 e112 e113 e114 e115 e116 e117 e118 e119 e120 e121 e122 e123 e124 : Value} {Q0 : Exit -> Act -> World -> Prop}
 (hexit : ∀ (u58 u59 u60 u61 u62 u63 u64 u65 u66 u67 u68 u69 u70 u71 u72 u73 u74 u75 u76 u77 u78 u79 u80 u81 u82 u83 u84 u85 : Value) (w1 : World), R w1 -> Q0 .normal ⟨#[e0, e1, e2, e3, .pointer (some ⟨t, 0, none⟩), e5, e6, .pointer (some ⟨g, 0, none⟩), .pointer (some ⟨g8, 0, none⟩), e9, e10, e11, e12, e13, e14, e15, e16, e17, e18, e19, e20, e21, e22, e23, e24, e25, e26, e27, e28, e29, e30, e31, e32, e33, e34, e35, e36, e37, e38, e39, e40, e41, e42, e43, e44, e45, e46, e47, e48, e49, e50, e51, e52, e53, e54, e55, e56, e57, u58, u59, u60, u61, u62, u63, u64, u65, u66, u67, u68, u69, u70, u71, u72, u73, u74, u75, u76, u77, u78, u79, u80, u81, u82, u83, u84, u85, .bool V, e87, e88, e89, e90, e91, e92, e93, e94, e95, e96, e97, e98, e99, e100, e101, e102, e103, e104, e105, e106, e107, e108, e109, e110, e111, e112, e113, e114, e115, e116, e117, e118, e119, e120, e121, e122, e123, e124], []⟩ w1) :
 Code.wp Tryz.prog (loadReg 10) Q0 ⟨#[e0, e1, e2, e3, .pointer (some ⟨t, 0, none⟩), e5, e6, .pointer (some ⟨g, 0, none⟩), .pointer (some ⟨g8, 0, none⟩), e9, e10, e11, e12, e13, e14, e15, e16, e17, e18, e19, e20, e21, e22, e23, e24, e25, e26, e27, e28, e29, e30, e31, e32, e33, e34, e35, e36, e37, e38, e39, e40, e41, e42, e43, e44, e45, e46, e47, e48, e49, e50, e51, e52, e53, e54, e55, e56, e57, e58, e59, e60, e61, e62, e63, e64, e65, e66, e67, e68, e69, e70, e71, e72, e73, e74, e75, e76, e77, e78, e79, e80, e81, e82, e83, e84, e85, e86, e87, e88, e89, e90, e91, e92, e93, e94, e95, e96, e97, e98, e99, e100, e101, e102, e103, e104, e105, e106, e107, e108, e109, e110, e111, e112, e113, e114, e115, e116, e117, e118, e119, e120, e121, e122, e123, e124], []⟩ w := by
 dsimp only at hexit ⊢
 have HX := Lib.hid hexit
 have k0 : w.cell? ⟨g, 0, none⟩ = some (.string s) := hb.cell 0
 have k2 : w.cell? ⟨g, 2, none⟩ = some (.int .i64 mode) := hb.cell 2
 have k3 : w.cell? ⟨g, 3, none⟩ = some (.int .i64 tick) := hb.cell 3
 have k5 : w.cell? ⟨g, 5, none⟩ = some (.slice A q c) := hb.cell 5
 have j0 : w.cell? ⟨g8, 0, none⟩ = some (.string sf) := hf.cell 0
 have j2 : w.cell? ⟨g8, 2, none⟩ = some (.int .i64 fmode) := hf.cell 2
 have j3 : w.cell? ⟨g8, 3, none⟩ = some (.int .i64 ftick) := hf.cell 3
 have j5 : w.cell? ⟨g8, 5, none⟩ = some (.slice Af qf cf) := hf.cell 5
 have lg := hb.lt
 have lf := hf.lt
 subst hm ht hbs
 have heq := bytes_equal w w.heap.size w.heap.size Af A cf c qf q fbs fbs hfq hq hfr hr
 rw [beq_self_eq_true] at heq
 have HL := Lib.hid hlink
 clear hexit hb hf hfr hr hfq hq hlink
 conv => arg 2; whnf
 go_wp2_with (first
  | (go_at_call 92; refine heq.mono ?_; rintro e we ⟨rfl, hwe⟩; obtain rfl : w = we := hwe.symm)
  | (go_at_call 93; refine HL.out.mono ?_; rintro e w1 ⟨rfl, hR1⟩))
 exact HX.out _ _ _ _ _ _ _ _ _ _ _ _ _ _ _ _ _ _ _ _ _ _ _ _ _ _ _ _ w1 hR1
end
section
set_option maxRecDepth 100000
open Go.RowKit Go.Maps
theorem keepB {b : Nat} {w W : World} (h : Below w.heap.size w W) : ∀ k, k < w.heap.size -> k ≠ b -> W.heap[k]? = w.heap[k]? := fun k hk _ => h.block k hk
theorem keepS {b : Nat} {v : Value} {w W : World} (h : Below w.heap.size w W) : ∀ k, k < w.heap.size -> k ≠ b -> (W.setCell ⟨b, 4, none⟩ v).heap[k]? = w.heap[k]? := fun k hk hne => (Below.heap_setCell _ _ _ _ hne).trans (h.block k hk)
set_option maxHeartbeats 4000000 in
theorem load_r16 (w : World) (t g b fb : Nat) (ino : Int) (DA : Option Addr) (dc n : Nat) (d0 : Value) (bs : List UInt8) (hn : bs.length = n) (hl : n <= 1073741824) (hd : Bytes w w.heap.size (.slice DA n dc) bs)
 (bc : Array Value) (hbI : Blk w b 179 bc) (hd0 : bc[4]? = some d0) (hS : ∀ W : World, (∀ k, k < w.heap.size -> k ≠ b -> W.heap[k]? = w.heap[k]?) -> W.cell? ⟨t, 1, none⟩ = some (.map (some fb)) /\ (Instr.lookup 167 (.map (some fb)) (.int .i64 ino) false).run Tryz.prog W = .ok (.pointer (some ⟨b, 0, none⟩)) W /\ W.cell? ⟨g, 5, none⟩ = some (.slice DA n dc))
 {e0 e1 e2 e3 e5 e6 e8 e9 e11 e12 e13 e14 e15 e16 e17 e18 e19 e20 e21 e22 e23 e24 e25 e26 e27 e28 e29 e30 e31 e32 e33 e34 e35 e36 e37 e38 e39 e40 e41 e42 e43 e44 e45 e46 e47 e48 e49 e50 e51 e52 e53 e54 e55 e56 e57 e58 e59 e60 e61 e62 e63 e64 e65 e66 e67 e68 e69 e70 e71 e72 e73 e74 e75 e76 e77 e78 e79 e80 e81 e82 e83 e84 e85 e86 e87 e88 e89 e90 e91 e92 e93 e94 e95 e96 e97 e98 e99 e100 e101 e102 e103 e104 e105 e106 e107 e108 e109 e110 e111 e112 e113 e114 e115 e116 e117 e118 e119 e120 e121 e122 e123 e124 : Value} {Q0 : Exit -> Act -> World -> Prop}
 (hexit : ∀ (u105 u106 u107 u108 u109 u110 u111 u112 u113 u114 u115 : Value) (UA : Option Addr) (uc : Nat) (w0 : World), Below w.heap.size w w0 -> w0.ownsRow w.heap.size 5 1 (.slice UA n uc) n (bytesC bs) -> Q0 .normal ⟨#[e0, e1, e2, e3, .pointer (some ⟨t, 0, none⟩), e5, e6, .pointer (some ⟨g, 0, none⟩), e8, e9, .int .i64 ino, e11, e12, e13, e14, e15, e16, e17, e18, e19, e20, e21, e22, e23, e24, e25, e26, e27, e28, e29, e30, e31, e32, e33, e34, e35, e36, e37, e38, e39, e40, e41, e42, e43, e44, e45, e46, e47, e48, e49, e50, e51, e52, e53, e54, e55, e56, e57, e58, e59, e60, e61, e62, e63, e64, e65, e66, e67, e68, e69, e70, e71, e72, e73, e74, e75, e76, e77, e78, e79, e80, e81, e82, e83, e84, e85, e86, e87, e88, e89, e90, e91, e92, e93, e94, e95, e96, e97, e98, e99, e100, e101, e102, e103, e104, u105, u106, u107, u108, u109, u110, u111, u112, u113, u114, u115, e116, e117, e118, e119, e120, e121, e122, e123, e124], []⟩ (w0.setCell ⟨b, 4, none⟩ (.slice UA n uc))) :
 Code.wp Tryz.prog (loadReg 16) Q0 ⟨#[e0, e1, e2, e3, .pointer (some ⟨t, 0, none⟩), e5, e6, .pointer (some ⟨g, 0, none⟩), e8, e9, .int .i64 ino, e11, e12, e13, e14, e15, e16, e17, e18, e19, e20, e21, e22, e23, e24, e25, e26, e27, e28, e29, e30, e31, e32, e33, e34, e35, e36, e37, e38, e39, e40, e41, e42, e43, e44, e45, e46, e47, e48, e49, e50, e51, e52, e53, e54, e55, e56, e57, e58, e59, e60, e61, e62, e63, e64, e65, e66, e67, e68, e69, e70, e71, e72, e73, e74, e75, e76, e77, e78, e79, e80, e81, e82, e83, e84, e85, e86, e87, e88, e89, e90, e91, e92, e93, e94, e95, e96, e97, e98, e99, e100, e101, e102, e103, e104, e105, e106, e107, e108, e109, e110, e111, e112, e113, e114, e115, e116, e117, e118, e119, e120, e121, e122, e123, e124], []⟩ w := by
 dsimp only at hexit ⊢
 have hcl : ∀ V, Below w.heap.size w V -> Calls Tryz.prog 62 #[.slice DA n dc] V fun e w' => ∃ u, e = .returned u /\ w'.ownsRow V.heap.size 5 1 u n (bytesC bs) /\ Below V.heap.size V w' := fun V hV => by
  have h := cloneB V (.slice DA n dc) bs ((hd.below hV).more hV.size) (by omega)
  rwa [hn] at h
 have HX := Lib.hid hexit
 have HC := Lib.hid hcl
 have HS := Lib.hid hS
 have b0 : Below w.heap.size w w.drew := below_drew w 1
 have hw0 : Below w.heap.size w w := Below.refl _ _
 obtain ⟨k0, k1, k2⟩ := hS w (keepB hw0)
 have lb : b < w.heap.size := hbI.lt
 have K3 := Lib.hid (show w.cell? ⟨b, 4, none⟩ = some d0 from (hbI.cell 4).trans hd0)
 have HBI := Lib.hid hbI
 have lg : g < w.heap.size := World.block_lt_of_cell? w _ k2
 have lt : t < w.heap.size := World.block_lt_of_cell? w _ k0
 clear hexit hcl hS hd hbI hd0
 conv => arg 2; whnf
 go_region_held3 (fun W => W.cell? ⟨t, 1, none⟩ = some (.map (some fb)) /\ (Instr.lookup 167 (.map (some fb)) (.int .i64 ino) false).run Tryz.prog W = .ok (.pointer (some ⟨b, 0, none⟩)) W /\ W.cell? ⟨g, 5, none⟩ = some (.slice DA n dc))
  (first | exact HS.out _ (keepB (by assumption)) | exact HS.out _ (keepS (by assumption)))
  (first
  | (go_at_call 62; have hq := HC.out w.drew b0; (with_reducible refine hq.mono ?_); clear hq; rintro e w3 ⟨u, rfl, ho, hb3⟩
     obtain ⟨UA, uc, rfl, _⟩ := own_slice ho
     have b3 : Below w.heap.size w w3 := b0.trans (hb3.mono b0.size)
     have l3 : b < w3.heap.size := Nat.lt_of_lt_of_le lb b3.size
     have q3 : w3.cell? ⟨b, 4, none⟩ = some d0 := (b3.cell (p := ⟨b, 4, none⟩) lb).trans K3.out
     have f3 : w3.frozen? ⟨b, 4, none⟩ = false := (Blk.on HBI.out b3).frozen 4))
 all_goals exact HX.out _ _ _ _ _ _ _ _ _ _ _ UA uc w3 b3 (Joins.ownsRow_le ho (Nat.le_refl _))
end
end Go.Proofs.YtffffjngodinnaaGreatDoor
