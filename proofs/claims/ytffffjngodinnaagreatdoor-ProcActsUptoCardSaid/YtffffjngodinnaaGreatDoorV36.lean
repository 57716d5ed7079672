/-
  Parts of the proof.
-/
import Derived.Test.YtffffjngodinnaaGreatDoorV35
import Derived.Test.YtffffjngodinnaaGreatDoorV34
namespace Go.Proofs.YtffffjngodinnaaGreatDoor
section
set_option maxRecDepth 100000
open Go.RowKit Go.Maps Go.Shelf
structure ResTells (w : World) (Ao : Option Addr) (no : Nat) (Ae : Option Addr) (ne : Nat) (An : Option Addr) (nn : Nat) (lo le : List UInt8) (Ns : List NodeIt) : Prop where
 h1 : lo.length = no
 h2 : le.length = ne
 ln : Ns.length = nn
 hm : nn <= maxLen
 out : Reads w w.heap.size 1 Ao no (bytesC lo)
 err : Reads w w.heap.size 1 Ae ne (bytesC le)
 nodes : Reads w w.heap.size 6 An nn (nodesC Ns)
 data : ∀ x ∈ Ns, Reads w w.heap.size 1 x.A x.data.length (bytesC x.data)
theorem ResTells.below {w w' : World} {Ao : Option Addr} {no : Nat} {Ae : Option Addr} {ne : Nat} {An : Option Addr} {nn : Nat} {lo le : List UInt8} {Ns : List NodeIt} (h : ResTells w Ao no Ae ne An nn lo le Ns) (hb : Below w.heap.size w w') : ResTells w' Ao no Ae ne An nn lo le Ns :=
 ⟨h.h1, h.h2, h.ln, h.hm, (h.out.below hb).more hb.size, (h.err.below hb).more hb.size, (h.nodes.below hb).more hb.size, fun x hx => ((h.data x hx).below hb).more hb.size⟩
theorem ResTells.nil (w : World) : ResTells w none 0 none 0 none 0 [] [] [] :=
 ⟨rfl, rfl, rfl, Nat.zero_le _, Reads.none_, Reads.none_, Reads.none_, fun _ h => (by cases h)⟩
set_option maxHeartbeats 4000000 in
theorem alike_true (w : World) (Ao Ao' Ae Ae' An An' : Option Addr) (no co co' ne ce ce' nn cn cn' : Nat) (st s1 s2 p1 p2 u1 u2 : Int) (lo le : List UInt8) (N1 N2 : List NodeIt) (h1 : ResTells w Ao no Ae ne An nn lo le N1) (h2 : ResTells w Ao' no Ae' ne An' nn lo le N2) (heq : N1.map NodeIt.nd = N2.map NodeIt.nd) :
 Calls Tryz.prog 8 #[.agg #[.slice Ao no co, .slice Ae ne ce, .int .i64 st, .slice An nn cn, .int .i64 s1, .int .i64 p1, .int .i64 u1], .agg #[.slice Ao' no co', .slice Ae' ne ce', .int .i64 st, .slice An' nn cn', .int .i64 s2, .int .i64 p2, .int .i64 u2]] w fun e w' => e = .returned (.bool true) /\ Below w.heap.size w w' := by
 obtain ⟨g, hg⟩ : ∃ g, w.heap.size = g := ⟨_, rfl⟩
 obtain ⟨Z, hZ⟩ : ∃ Z, (w.alloc (.cells #[.slice Ao no co, .slice Ae ne ce, .int .i64 st, .slice An nn cn, .int .i64 s1, .int .i64 p1, .int .i64 u1] 36)).alloc (.cells #[.slice Ao' no co', .slice Ae' ne ce', .int .i64 st, .slice An' nn cn', .int .i64 s2, .int .i64 p2, .int .i64 u2] 36) = Z := ⟨_, rfl⟩
 have bZ : Below w.heap.size w Z := by rw [<- hZ]; exact below_box (below_one w _) (Nat.le_refl _) _
 have k1 : Blk Z g 36 #[.slice Ao no co, .slice Ae ne ce, .int .i64 st, .slice An nn cn, .int .i64 s1, .int .i64 p1, .int .i64 u1] := by rw [<- hZ, <- hg]; exact (Blk.new w _ _).alloc _
 have k2 : Blk Z (g + 1) 36 #[.slice Ao' no co', .slice Ae' ne ce', .int .i64 st, .slice An' nn cn', .int .i64 s2, .int .i64 p2, .int .i64 u2] := by rw [<- hZ, <- hg]; exact Blk.newNext w _ _ _
 have t1 := h1.below bZ
 have t2 := h2.below bZ
 have z1 : Z.cell? ⟨g, 3, none⟩ = some (.slice An nn cn) := k1.cell 3
 have z2 : Z.cell? ⟨g + 1, 3, none⟩ = some (.slice An' nn cn') := k2.cell 3
 have l2 := k2.lt
 have hsame := same_true Z An cn nn N1 An' cn' N2 t1.hm t1.ln t2.ln t1.nodes t2.nodes t1.data t2.data heq
 obtain ⟨So, hSo⟩ : ∃ S, strB lo = S := ⟨_, rfl⟩
 obtain ⟨Se, hSe⟩ : ∃ S, strB le = S := ⟨_, rfl⟩
 have HS := Lib.hid hsame
 have T1 := Lib.hid t1
 have T2 := Lib.hid t2
 have K1 := Lib.hid k1
 have K2 := Lib.hid k2
 have HSO := Lib.hid hSo
 have HSE := Lib.hid hSe
 have BZ := Lib.hid bZ
 rw [hg]
 clear hsame t1 t2 k1 k2 hSo hSe h1 h2 heq bZ
 go_enter Tryz.func8, Tryz.ntmps8
 go_wp2_with (first
  | (go_at_call 24; refine HS.out.mono ?_; rintro e w1 ⟨rfl, hb1⟩
     have cv1 : (convert 23 9 (.slice Ao no co)).run Tryz.prog w1 = .ok (.string So) w1 := convOut HSO.out T1.out.h1 (by rw [T1.out.h1]; exact T1.out.out.below hb1)
     have cv2 : (convert 23 9 (.slice Ao' no co')).run Tryz.prog w1 = .ok (.string So) w1 := convOut HSO.out T1.out.h1 (by rw [T1.out.h1]; exact T2.out.out.below hb1)
     have cv3 : (convert 23 9 (.slice Ae ne ce)).run Tryz.prog w1 = .ok (.string Se) w1 := convOut HSE.out T1.out.h2 (by rw [T1.out.h2]; exact T1.out.err.below hb1)
     have cv4 : (convert 23 9 (.slice Ae' ne ce')).run Tryz.prog w1 = .ok (.string Se) w1 := convOut HSE.out T1.out.h2 (by rw [T1.out.h2]; exact T2.out.err.below hb1)
     have b1 := Blk.on K1.out hb1
     have b2 := Blk.on K2.out hb1
     have l3 := b2.lt
     have q0 : w1.cell? ⟨g, 0, none⟩ = some (.slice Ao no co) := b1.cell 0
     have q1 : w1.cell? ⟨g, 1, none⟩ = some (.slice Ae ne ce) := b1.cell 1
     have q2 : w1.cell? ⟨g, 2, none⟩ = some (.int .i64 st) := b1.cell 2
     have y0 : w1.cell? ⟨g + 1, 0, none⟩ = some (.slice Ao' no co') := b2.cell 0
     have y1 : w1.cell? ⟨g + 1, 1, none⟩ = some (.slice Ae' ne ce') := b2.cell 1
     have y2 : w1.cell? ⟨g + 1, 2, none⟩ = some (.int .i64 st) := b2.cell 2))
 go_returns
 exact ⟨rfl, by rw [<- hg]; exact below_step BZ.out hb1 (Nat.le_refl _)⟩
end
section
set_option maxRecDepth 100000
open Go.RowKit Go.Maps
noncomputable def mayReg (k : Nat) : Code := (Tryz.f25.body.bind (fun c => (regsOf c).find? (isReg k))).getD .skip
def jobC (av ev : Value) (cwd : ByteArray) (iv nv : Value) (buf line run : Int) (fv : Value) (now : Int) (pv : Value) : Array Value := #[av, ev, .string cwd, iv, nv, .int .i64 buf, .int .i64 line, .int .i64 run, fv, .int .i64 now, pv]
set_option maxHeartbeats 4000000 in
theorem may_r2 (w : World) (g : Nat) (e : Int) (A : Option Addr) (n c : Nat) (ev : Value) (cwd : ByteArray) (iv nv : Value) (buf line run : Int) (fv : Value) (now : Int) (pv : Value) (hb : Blk w g 30 (jobC (.slice A n c) ev cwd iv nv buf line run fv now pv)) (Rb : Bool)
 (hR : (decide (e ≠ 0) || decide ((n : Int) < 1) || decide (buf < 1) || decide (line < 1) || decide (run < line) || decide (1099511627776 < max buf run) || decide (now < 0) || decide (1099511627776 < now)) = Rb)
 {e0 e2 e3 e4 e6 e7 e8 e9 e10 e11 e12 e13 e14 e15 e16 e17 e18 e19 e20 e21 e22 e23 e24 e25 e26 e27 e28 e29 e30 e31 e32 e33 e34 e35 e36 e37 e38 e39 e40 e41 e42 e43 e44 e45 e46 e47 e48 e49 e50 e51 e52 e53 e54 e55 e56 e57 e58 e59 e60 e61 e62 e63 e64 e65 e66 e67 e68 e69 e70 e71 e72 e73 e74 e75 e76 : Value} {Q0 : Exit -> Act -> World -> Prop}
 (hexit : ∀ (u13 u14 u15 u16 u17 u18 u19 u20 u21 u22 u23 u24 u25 u26 u27 u28 u29 u30 u31 u32 u33 u34 u35 u36 u37 u38 u39 u40 u41 u42 u43 u44 u45 u46 u47 u48 u49 u50 u51 u52 u53 u54 u55 u56 u57 u58 u59 u60 : Value), Q0 .normal ⟨#[e0, .pointer (some ⟨g, 0, none⟩), e2, e3, e4, .int .i64 e, e6, e7, e8, e9, e10, e11, e12, u13, u14, u15, u16, u17, u18, u19, u20, u21, u22, u23, u24, u25, u26, u27, u28, u29, u30, u31, u32, u33, u34, u35, u36, u37, u38, u39, u40, u41, u42, u43, u44, u45, u46, u47, u48, u49, u50, u51, u52, u53, u54, u55, u56, u57, u58, u59, u60, .bool Rb, e62, e63, e64, e65, e66, e67, e68, e69, e70, e71, e72, e73, e74, e75, e76], []⟩ w) :
 Code.wp Tryz.prog (mayReg 2) Q0 ⟨#[e0, .pointer (some ⟨g, 0, none⟩), e2, e3, e4, .int .i64 e, e6, e7, e8, e9, e10, e11, e12, e13, e14, e15, e16, e17, e18, e19, e20, e21, e22, e23, e24, e25, e26, e27, e28, e29, e30, e31, e32, e33, e34, e35, e36, e37, e38, e39, e40, e41, e42, e43, e44, e45, e46, e47, e48, e49, e50, e51, e52, e53, e54, e55, e56, e57, e58, e59, e60, e61, e62, e63, e64, e65, e66, e67, e68, e69, e70, e71, e72, e73, e74, e75, e76], []⟩ w := by
 dsimp only at hexit ⊢
 have HX := Lib.hid hexit
 have k0 : w.cell? ⟨g, 0, none⟩ = some (.slice A n c) := hb.cell 0
 have k5 : w.cell? ⟨g, 5, none⟩ = some (.int .i64 buf) := hb.cell 5
 have k6 : w.cell? ⟨g, 6, none⟩ = some (.int .i64 line) := hb.cell 6
 have k7 : w.cell? ⟨g, 7, none⟩ = some (.int .i64 run) := hb.cell 7
 have k9 : w.cell? ⟨g, 9, none⟩ = some (.int .i64 now) := hb.cell 9
 have lg := hb.lt
 clear hexit hb
 by_cases h0 : e ≠ 0
 · rw [decide_eq_true h0] at hR
   obtain rfl : Rb = true := by simpa using hR.symm
   have hz : (e != 0) = true := by simpa using h0
   have hd : decide (e ≠ 0) = true := decide_eq_true h0
   conv => arg 2; whnf
   go_wp2_with fail
   exact HX.out _ _ _ _ _ _ _ _ _ _ _ _ _ _ _ _ _ _ _ _ _ _ _ _ _ _ _ _ _ _ _ _ _ _ _ _ _ _ _ _ _ _ _ _ _ _ _ _
 · rw [decide_eq_false h0] at hR
   have hz : (e != 0) = false := by simpa using h0
   have hd0 : decide (e ≠ 0) = false := decide_eq_false h0
   by_cases h1 : (n : Int) < 1
   · rw [decide_eq_true h1] at hR
     obtain rfl : Rb = true := by simpa using hR.symm
     have hd : decide ((n : Int) < 1) = true := decide_eq_true h1
     conv => arg 2; whnf
     go_wp2_with fail
     exact HX.out _ _ _ _ _ _ _ _ _ _ _ _ _ _ _ _ _ _ _ _ _ _ _ _ _ _ _ _ _ _ _ _ _ _ _ _ _ _ _ _ _ _ _ _ _ _ _ _
   · rw [decide_eq_false h1] at hR
     have hd1 : decide ((n : Int) < 1) = false := decide_eq_false h1
     by_cases h2 : buf < 1
     · rw [decide_eq_true h2] at hR
       obtain rfl : Rb = true := by simpa using hR.symm
       have hd : decide (buf < 1) = true := decide_eq_true h2
       conv => arg 2; whnf
       go_wp2_with fail
       exact HX.out _ _ _ _ _ _ _ _ _ _ _ _ _ _ _ _ _ _ _ _ _ _ _ _ _ _ _ _ _ _ _ _ _ _ _ _ _ _ _ _ _ _ _ _ _ _ _ _
     · rw [decide_eq_false h2] at hR
       have hd2 : decide (buf < 1) = false := decide_eq_false h2
       by_cases h3 : line < 1
       · rw [decide_eq_true h3] at hR
         obtain rfl : Rb = true := by simpa using hR.symm
         have hd : decide (line < 1) = true := decide_eq_true h3
         conv => arg 2; whnf
         go_wp2_with fail
         exact HX.out _ _ _ _ _ _ _ _ _ _ _ _ _ _ _ _ _ _ _ _ _ _ _ _ _ _ _ _ _ _ _ _ _ _ _ _ _ _ _ _ _ _ _ _ _ _ _ _
       · rw [decide_eq_false h3] at hR
         have hd3 : decide (line < 1) = false := decide_eq_false h3
         by_cases h4 : run < line
         · rw [decide_eq_true h4] at hR
           obtain rfl : Rb = true := by simpa using hR.symm
           have hd : decide (run < line) = true := decide_eq_true h4
           conv => arg 2; whnf
           go_wp2_with fail
           exact HX.out _ _ _ _ _ _ _ _ _ _ _ _ _ _ _ _ _ _ _ _ _ _ _ _ _ _ _ _ _ _ _ _ _ _ _ _ _ _ _ _ _ _ _ _ _ _ _ _
         · rw [decide_eq_false h4] at hR
           have hd4 : decide (run < line) = false := decide_eq_false h4
           by_cases h5 : 1099511627776 < max buf run
           · rw [decide_eq_true h5] at hR
             obtain rfl : Rb = true := by simpa using hR.symm
             have hd : decide (1099511627776 < max buf run) = true := decide_eq_true h5
             conv => arg 2; whnf
             go_wp2_with fail
             exact HX.out _ _ _ _ _ _ _ _ _ _ _ _ _ _ _ _ _ _ _ _ _ _ _ _ _ _ _ _ _ _ _ _ _ _ _ _ _ _ _ _ _ _ _ _ _ _ _ _
           · rw [decide_eq_false h5] at hR
             have hd5 : decide (1099511627776 < max buf run) = false := decide_eq_false h5
             by_cases h6 : now < 0
             · rw [decide_eq_true h6] at hR
               obtain rfl : Rb = true := by simpa using hR.symm
               have hd : decide (now < 0) = true := decide_eq_true h6
               conv => arg 2; whnf
               go_wp2_with fail
               exact HX.out _ _ _ _ _ _ _ _ _ _ _ _ _ _ _ _ _ _ _ _ _ _ _ _ _ _ _ _ _ _ _ _ _ _ _ _ _ _ _ _ _ _ _ _ _ _ _ _
             · rw [decide_eq_false h6] at hR
               have hd6 : decide (now < 0) = false := decide_eq_false h6
               by_cases h7 : 1099511627776 < now
               · rw [decide_eq_true h7] at hR
                 obtain rfl : Rb = true := by simpa using hR.symm
                 have hd : decide (1099511627776 < now) = true := decide_eq_true h7
                 conv => arg 2; whnf
                 go_wp2_with fail
                 exact HX.out _ _ _ _ _ _ _ _ _ _ _ _ _ _ _ _ _ _ _ _ _ _ _ _ _ _ _ _ _ _ _ _ _ _ _ _ _ _ _ _ _ _ _ _ _ _ _ _
               · rw [decide_eq_false h7] at hR
                 have hd7 : decide (1099511627776 < now) = false := decide_eq_false h7
                 obtain rfl : Rb = false := by simpa using hR.symm
                 conv => arg 2; whnf
                 go_wp2_with fail
                 exact HX.out _ _ _ _ _ _ _ _ _ _ _ _ _ _ _ _ _ _ _ _ _ _ _ _ _ _ _ _ _ _ _ _ _ _ _ _ _ _ _ _ _ _ _ _ _ _ _ _
end
section
set_option maxRecDepth 100000
open Go.RowKit Go.Maps
def Abs.mayT (R : Option Abs.LS) (okd : Bool) (cwd : List UInt8) : Option Abs.LS := match R with
 | none => none
 | some s => if okd = true then none else match s.T.look [] (47 :: cwd) with
   | .error _ => none
   | .ok j => if (s.T.get j).any (fun x => x.dir) then some s else none
def limBad (n : Nat) (buf line run now : Int) : Bool := (decide ((n : Int) < 1) || decide (buf < 1) || decide (line < 1) || decide (run < line) || decide (1099511627776 < max buf run) || decide (now < 0) || decide (1099511627776 < now))
def MayPost (w : World) (nn : Nat) (M : Option Abs.LS) (e : Ending) (w' : World) : Prop :=
 (M = none /\ (∃ a, e = .returned (.tuple #[.pointer a, .bool false])) /\ Below w.heap.size w w') \/
  ∃ (s : Abs.LS) (t : Nat) (S : TS) (β : Nat -> Nat), M = some s /\ e = .returned (.tuple #[.pointer (some ⟨t, 0, none⟩), .bool true]) /\ TreeIs w' t S s.T β /\ S.within nn /\ s.Ok nn 1048576 /\ (∀ b, S.foot t b -> w.heap.size <= b) /\ Below w.heap.size w w'
theorem strokeData (cwd : ByteArray) : (({ data := #[47] } : ByteArray) ++ cwd).data.toList = 47 :: cwd.data.toList := by simp
set_option maxHeartbeats 4000000 in
theorem job_may (w : World) (A : Option Addr) (n c : Nat) (ev : Value) (cwd : ByteArray) (iv : Value) (NA : Option Addr) (nn nc : Nat) (L : List NodeIt) (buf line run : Int) (fv : Value) (now : Int) (pv : Value)
 (hcw : cwd.size <= 1048576) (hLn : L.length = nn) (hn2 : nn <= 1048576) (hr : Reads w w.heap.size 6 NA nn (nodesC L)) (hL : ∀ x ∈ L, NodeOk w w.heap.size x) :
 Calls Tryz.prog 25 #[.agg (jobC (.slice A n c) ev cwd iv (.slice NA nn nc) buf line run fv now pv)] w (MayPost w nn (Abs.mayT (Abs.LS.init.run (L.map NodeIt.nd)) (limBad n buf line run now) cwd.data.toList)) := by
 obtain ⟨R, hR⟩ : ∃ R, Abs.LS.init.run (L.map NodeIt.nd) = R := ⟨_, rfl⟩
 rw [hR]
 obtain ⟨jc, hjc⟩ : ∃ jc, jobC (.slice A n c) ev cwd iv (.slice NA nn nc) buf line run fv now pv = jc := ⟨_, rfl⟩
 have hload := load_any (w.alloc (.cells jc 30)) NA nc nn L hLn hn2 ((hr.below (below_one w _)).more (below_one w _).size) (fun x hx => ((hL x hx).below (below_one w _)).more (below_one w _).size) R hR
 obtain ⟨w1, hw1⟩ : ∃ w1, w.alloc (.cells jc 30) = w1 := ⟨_, rfl⟩
 rw [hw1] at hload
 have h1 : Below w.heap.size w w1 := by rw [<- hw1]; exact below_one w _
 have hb1 : Blk w1 w.heap.size 30 jc := by rw [<- hw1]; exact Blk.new w _ _
 obtain ⟨lim, hlim⟩ : ∃ lim, limBad n buf line run now = lim := ⟨_, rfl⟩
 rw [hlim]
 unfold limBad at hlim
 have j4 : jc[4]? = some (.slice NA nn nc) := by rw [<- hjc]; rfl
 have j2 : jc[2]? = some (.string cwd) := by rw [<- hjc]; rfl
 have k4 : w1.cell? ⟨w.heap.size, 4, none⟩ = some (.slice NA nn nc) := (hb1.cell 4).trans j4
 have lg := hb1.lt
 have hsz := h1.size
 have HL := Lib.hid hload
 have HJ := Lib.hid hjc
 have HLIM := Lib.hid hlim
 have HC := Lib.hid hcw
 have H1 := Lib.hid h1
 have HW := Lib.hid hw1
 rw [hjc]
 clear hload hjc hlim hcw hLn hn2 hr hL hR h1
 go_enter Tryz.func25, Tryz.ntmps25
 have e2 : mayReg 2 = mayReg 2 := rfl
 conv at e2 => rhs; whnf
 rw [<- e2]
 clear e2
 go_upto_region 1 with fail
 clear hw1
 go_wp2_with (first | (go_at_call 55; refine HL.out.mono ?_; rintro e w2 (⟨hRn, rfl, hb2⟩ | ⟨s, t, S, β, hRs, rfl, hT, hwi, hok, hft, hb2⟩)))
 · have jb2 : Blk w2 w.heap.size 30 (jobC (.slice A n c) ev cwd iv (.slice NA nn nc) buf line run fv now pv) := by rw [HJ.out]; exact Blk.on hb1 hb2
   refine may_r2 w2 w.heap.size 17 A n c ev cwd iv (.slice NA nn nc) buf line run fv now pv jb2 true (by simp) ?_
   intro u13 u14 u15 u16 u17 u18 u19 u20 u21 u22 u23 u24 u25 u26 u27 u28 u29 u30 u31 u32 u33 u34 u35 u36 u37 u38 u39 u40 u41 u42 u43 u44 u45 u46 u47 u48 u49 u50 u51 u52 u53 u54 u55 u56 u57 u58 u59 u60
   dsimp only
   go_wp2_with fail
   go_returns
   exact .inl ⟨by rw [hRn]; rfl, ⟨_, rfl⟩, H1.out.trans (hb2.mono hsz)⟩
 · have jb2 : Blk w2 w.heap.size 30 (jobC (.slice A n c) ev cwd iv (.slice NA nn nc) buf line run fv now pv) := by rw [HJ.out]; exact Blk.on hb1 hb2
   refine may_r2 w2 w.heap.size 0 A n c ev cwd iv (.slice NA nn nc) buf line run fv now pv jb2 lim (by have := HLIM.out; rwa [show decide ((0 : Int) ≠ 0) = false from rfl, Bool.false_or]) ?_
   intro u13 u14 u15 u16 u17 u18 u19 u20 u21 u22 u23 u24 u25 u26 u27 u28 u29 u30 u31 u32 u33 u34 u35 u36 u37 u38 u39 u40 u41 u42 u43 u44 u45 u46 u47 u48 u49 u50 u51 u52 u53 u54 u55 u56 u57 u58 u59 u60
   dsimp only
   cases lim with
   | true =>
     clear jb2
     go_wp2_with fail
     go_returns
     exact .inl ⟨by rw [hRs]; rfl, ⟨_, rfl⟩, H1.out.trans (hb2.mono hsz)⟩
   | false =>
     have l2 := jb2.lt
     have hno : ¬ 9223372036854775807 < 1 + cwd.size := by have := HC.out; omega
     have k2 : w2.cell? ⟨w.heap.size, 2, none⟩ = some (.string cwd) := jb2.cell 2
     have hst := fun (W : World) (hW : Below w2.heap.size w2 W) => stat_any W t S s.T β (hT.below hW) ⟨#[]⟩ (({ data := #[47] } : ByteArray) ++ cwd) (by decide) (by have := HC.out; rw [ByteArray.size_append]; show 1 + cwd.size < _; omega)
     obtain ⟨r, hr⟩ : ∃ r, s.T.look [] (47 :: cwd.data.toList) = r := ⟨_, rfl⟩
     rw [strokeData] at hst
     have hre : (⟨#[]⟩ : ByteArray).data.toList = [] := rfl
     rw [hre, hr] at hst
     have HRS := Lib.hid hRs
     have HRR := Lib.hid hr
     clear hre hRs hr jb2
     cases r with
     | error e =>
       have he := Abs.T.look_ne0 HRR.out
       have he1 : ((e : Int) != 0) = true := by simpa using he
       have he2 : decide ((e : Int) = 0) = false := by simpa using he
       have he3 : ((e : Int) == 0) = false := by simpa using he
       unfold statR at hst
       clear he
       go_wp2_with (first | (go_at_call 56; refine (hst _ (by first | exact Below.refl _ _ | exact (Below.refl _ _).alloc (Nat.le_refl _) _)).mono ?_; rintro e' w3 ⟨rfl, hb3⟩))
       go_quiet (fail)
       go_wp2_with fail
       go_returns
       have hbe : Below w.heap.size w w3 := (H1.out.trans (hb2.mono hsz)).trans (hb3.mono (Nat.le_trans hsz hb2.size))
       have hn : Abs.mayT R false cwd.data.toList = none := by rw [HRS.out]; simp only [Abs.mayT, HRR.out]; rfl
       exact .inl ⟨hn, ⟨_, rfl⟩, below_drewN (below_box hbe (Nat.le_refl _) _) nq⟩
     | ok j =>
       obtain ⟨z, hz⟩ := hok.wf.look_live HRR.out
       unfold statR statV at hst
       simp only [hz] at hst
       obtain ⟨zd, hzd⟩ : ∃ zd, z.dir = zd := ⟨_, rfl⟩
       rw [hzd] at hst
       have HZ := Lib.hid hz
       have HZD := Lib.hid hzd
       clear hz hzd
       have hm : Abs.mayT R false cwd.data.toList = if zd then some s else none := by rw [HRS.out]; simp only [Abs.mayT, HRR.out, HZ.out, Option.any_some, HZD.out]; rfl
       have HM := Lib.hid hm
       clear hm
       cases zd
       all_goals go_wp2_with (first | (go_at_call 56; refine (hst _ (by first | exact Below.refl _ _ | exact (Below.refl _ _).alloc (Nat.le_refl _) _)).mono ?_; rintro e' w3 ⟨rfl, hb3⟩))
       all_goals go_quiet (fail)
       all_goals go_wp2_with fail
       all_goals go_returns
       all_goals have hbe : Below w.heap.size w w3 := (H1.out.trans (hb2.mono hsz)).trans (hb3.mono (Nat.le_trans hsz hb2.size))
       · exact .inl ⟨HM.out, ⟨_, rfl⟩, below_drewN (below_box hbe (Nat.le_refl _) _) nq⟩
       · exact .inr ⟨s, t, S, β, HM.out, rfl, (hT.below hb3).below (below_drewN (below_one w3 _) nq), hwi, hok, fun b hb => Nat.le_trans hsz (hft b hb), below_drewN (below_box hbe (Nat.le_refl _) _) nq⟩
end
section
open Go.RowKit Go.Maps
theorem TreeIs.off {w w' : World} {t : Nat} {S : TS} {T : Abs.T} {β : Nat -> Nat} {F : List Nat} (h : TreeIs w t S T β) (ht : Turns F w w') (hF : ∀ b, S.foot t b -> b ∉ F) : TreeIs w' t S T β :=
 ⟨h.mem.off (F := fun b => b ∈ F) ⟨ht.os, ht.tape, ht.output, ht.size, fun k hk hn => ht.block k hk hn⟩ hF, h.rep, h.wf⟩
structure MidT (Y : World) (L g : Nat) (jc : Array Value) (t : Nat) (S : TS) (T : Abs.T) (β : Nat -> Nat) (k p tb all : Nat) (J : PS) (K : KS) (D : Nat -> Value) (picks : Value) : Prop where
 job : Blk Y g 30 jc
 res : Blk Y (g + 1) 36 resZ
 proc : ProcOf Y p J
 kern : KernOf Y k K
 table : TableOf Y tb k D
 tree : TreeIs Y t S T β
 crowd : Blk Y all 89 #[.slice none 0 0, picks, .int .i64 (-1)]
 news : ∀ b ∈ [p, tb, k, K.tb, all] ++ K.fv.ownBlock.toList ++ J.av.ownBlock.toList ++ J.ev.ownBlock.toList ++ J.lv.ownBlock.toList, L <= b
 low : (∀ b, S.foot t b -> b < L) /\ g <= L
section
variable {Y Y' : World} {L g t k p tb all : Nat} {S : TS} {T : Abs.T} {β : Nat -> Nat} {jc : Array Value} {J : PS} {K : KS} {D : Nat -> Value} {pk : Value}
theorem MidT.same (h : MidT Y L g jc t S T β k p tb all J K D pk) (hT : Turns [] Y Y') : MidT Y' L g jc t S T β k p tb all J K D pk :=
 { job := (hT.block _ h.job.lt (by simp)).trans h.job, res := (hT.block _ h.res.lt (by simp)).trans h.res, proc := h.proc.turns hT (by simp), kern := h.kern.turns hT (by simp)
   table := (hT.block _ (Blk.lt h.table) (by simp)).trans h.table, tree := ⟨h.tree.mem.turns hT (by simp), h.tree.rep, h.tree.wf⟩, crowd := (hT.block _ h.crowd.lt (by simp)).trans h.crowd, news := h.news, low := h.low }
theorem MidT.one {q : Nat} {e : TypeId} {cs : Array Value} (h : MidT Y L g jc t S T β k p tb all J K D pk) (hq : Blk Y q e cs) (he : e = 85 \/ e = 150 \/ e = 89) (hT : Turns [q] Y Y') {J' : PS} {D' : Nat -> Value} {pk' : Value}
 (hp : ProcOf Y' p J') (htb : TableOf Y' tb k D') (hal : Blk Y' all 89 #[.slice none 0 0, pk', .int .i64 (-1)]) (hJ : J'.av = J.av /\ J'.ev = J.ev /\ J'.lv = J.lv) : MidT Y' L g jc t S T β k p tb all J' K D' pk' := by
 have off : ∀ {ty : TypeId} {cs' : Array Value} {b : Nat}, Blk Y b ty cs' -> e ≠ ty -> Blk Y' b ty cs' := fun hb h => (hT.block _ hb.lt (by rw [List.mem_singleton]; exact (Blk.ne_ hq hb h).symm)).trans hb
 have ne : ∀ ty, (ty = 30 \/ ty = 36 \/ ty = 142 \/ ty = 44 \/ ty = 169 \/ ty = 179 \/ ty = 5) -> e ≠ ty := by
  intro ty h1
  rcases he with rfl | rfl | rfl <;> rcases h1 with rfl | rfl | rfl | rfl | rfl | rfl | rfl <;> decide
 exact {
  job := off h.job (ne _ (by simp)), res := off h.res (ne _ (by simp)), proc := hp, table := htb, crowd := hal, low := h.low
  kern := h.kern.turns hT fun b hb hm => h.kern.off hq (ne _ (by simp)) (ne _ (by simp)) ((List.mem_singleton.1 hm) ▸ hb)
  tree := ⟨h.tree.mem.turns hT (NoTree.one' hq ⟨ne _ (by simp), ne _ (by simp), ne _ (by simp)⟩), h.tree.rep, h.tree.wf⟩
  news := by rw [hJ.1, hJ.2.1, hJ.2.2]; exact h.news }
theorem MidT.kernel (h : MidT Y L g jc t S T β k p tb all J K D pk) (hT : Turns [k, K.tb] Y Y') {K' : KS} (hk : KernOf Y' k K') (hK : K'.tb = K.tb /\ K'.fv = K.fv) : MidT Y' L g jc t S T β k p tb all J K' D pk := by
 have off : ∀ {ty : TypeId} {cs' : Array Value} {b : Nat}, Blk Y b ty cs' -> ty ≠ 142 -> Blk Y' b ty cs' := fun hb h1 => (hT.block _ hb.lt (by
  simp only [List.mem_cons, List.not_mem_nil, or_false, not_or]
  exact ⟨Blk.ne_ hb h.kern.blk h1, (h.kern.things.blk_ne hb).symm⟩)).trans hb
 have hpk : ∀ b ∈ J.foot p, b ∉ [k, K.tb] := by
  intro b hb hm
  simp only [List.mem_cons, List.not_mem_nil, or_false] at hm
  rcases hm with rfl | rfl
  · exact h.proc.off h.kern.blk (by decide) (by decide) (by decide) hb
  · simp only [PS.foot, List.mem_append, List.mem_cons, List.not_mem_nil, or_false, Option.mem_toList] at hb
    rcases hb with ((e | hb) | hb) | hb
    · exact h.kern.things.blk_ne h.proc.blk e
    · exact h.kern.things.own_ne h.proc.args hb
    · exact h.kern.things.own_ne h.proc.env hb
    · exact h.kern.things.own_ne h.proc.log hb
 have htr : TreeIs Y' t S T β := h.tree.off hT fun b hb hm => by
  have h1 := h.low.1 b hb
  have h2 := h.news b
  simp only [List.mem_cons, List.not_mem_nil, or_false] at hm
  rcases hm with rfl | rfl
  · have := h2 (by simp); omega
  · have := h2 (by simp); omega
 exact { job := off h.job (by decide), res := off h.res (by decide), proc := h.proc.turns hT hpk, table := off h.table (by decide), crowd := off h.crowd (by decide), kern := hk, tree := htr, low := h.low, news := by rw [hK.1, hK.2]; exact h.news }
end
section
variable {Y : World} {L g t k p tb all : Nat} {S : TS} {T : Abs.T} {β : Nat -> Nat} {jc : Array Value} {J : PS} {K : KS} {D : Nat -> Value} {pk : Value}
theorem MidT.jobOf (M : MidT Y L g jc t S T β k p tb all J K D pk) (hk : J.k = k) (ht : J.tb = tb) (hz : J.steps = 0 /\ J.held = 0 /\ J.peak = 0 /\ J.may = true /\ J.top = true /\ J.at_ = 0 /\ J.log = []) {sb so se base : Nat} {sv : Value} {inb : List UInt8}
 (hs : Blk Y sb 159 #[sv]) (hr : OffRow Y base 5 sv inb.length (bytesC inb)) (h1 : SinkAt Y so (.slice none 0 0)) (h2 : SinkAt Y se (.slice none 0 0)) (hne : so ≠ se)
 (hD : ∀ i, i < 16 -> D i = (mkJob p J K sb so se).D i) (hf : K.used = 0) (t2 : K.tf (numK 2) = some (sinkV so)) (t3 : K.tf (numK 3) = some (sinkV se)) : JobOf Y (mkJob p J K sb so se) (Flow.first inb sv) where
 proc := by
  have e : (mkJob p J K sb so se).J (Flow.first inb sv) = J := by
   obtain ⟨a, b, c, _⟩ := hz
   cases J
   simp only [mkJob, Job.J, Flow.first] at a b c ⊢
   subst a b c
   rfl
  rw [e]; exact M.proc
 kern := by
  show KernOf Y J.k { K with used := 0 }
  rw [hk, show ({ K with used := 0 } : KS) = K by rw [<- hf]]
  exact M.kern
 table := by show TableOf Y J.tb J.k _; rw [hk, ht]; exact M.table.congr hD
 may := hz.2.2.2.1
 top := hz.2.2.2.2.1
 at_ := hz.2.2.2.2.2.1
 log := hz.2.2.2.2.2.2
 src := hs
 inp := hr.mono (Nat.zero_le _)
 sink := fun b => by cases b; exact h2; exact h1
 row := fun b => OffRow.nil _ _ _
 sinks := hne
 rows := fun _ hg => by simp [Flow.first, Value.ownBlock] at hg
 inrow := fun _ _ _ hg => by simp [Flow.first, Value.ownBlock] at hg
 thing := fun b => by cases b; exact t3; exact t2
theorem MidT.foot (M : MidT Y L g jc t S T β k p tb all J K D pk) (hk : J.k = k) (ht : J.tb = tb) {sb so se base : Nat} {sv : Value} {inb : List UInt8} (hr : OffRow Y base 5 sv inb.length (bytesC inb)) (hb : L <= base) (h1 : L <= sb) (h2 : L <= so) (h3 : L <= se) :
 ∀ b ∈ (mkJob p J K sb so se).foot (Flow.first inb sv), L <= b := by
 intro b hb'
 have hn := M.news b
 have on : (Value.slice none 0 0).ownBlock = none := rfl
 simp only [Job.foot, mkJob, PS.foot, KS.foot, Flow.first, hk, ht, on, Option.mem_toList, reduceCtorEq, List.mem_append, List.mem_cons, List.not_mem_nil, or_false, if_true, Bool.false_eq_true, if_false] at hb' hn
 rcases hb' with (((((rfl | h) | h) | h) | ((rfl | rfl) | h)) | rfl | rfl | rfl | rfl) | h
 · exact hn (by simp)
 · exact hn (by simp [h])
 · exact hn (by simp [h])
 · exact hn (by simp [h])
 · exact hn (by simp)
 · exact hn (by simp)
 · exact hn (by simp [h])
 · exact hn (by simp)
 · exact h1
 · exact h2
 · exact h3
 · have := (hr.lt h).1
   omega
end
def numsC (l : List Int) : List Value := l.map (fun x => .int .i64 x)
theorem Tryz.infoIntC : (Tryz.prog.info? 3).map (fun i => (i.zero, i.size, i.bytes)) = some (some (.int .i64 0), 1, 8) := by kernel_rfl
theorem numsC_oneCell (l : List Int) : ∀ u ∈ numsC l, u.oneCell' = true := by
 intro u hu
 obtain ⟨s, _, rfl⟩ := List.mem_map.1 hu
 rfl
set_option maxHeartbeats 400000 in
theorem cloneI_any (A : Option Addr) (n cap : Nat) (l : List Int) (w : World) (B : Nat) (hn : n = l.length) (hr : Reads w B 1 A n (numsC l)) (hB : B <= w.heap.size) (hl : n <= 2097152) :
 Calls Tryz.prog 28 #[.slice A n cap] w fun e w' => ∃ v, e = .returned v /\ w'.ownsRow w.heap.size 3 1 v n (numsC l) /\ Below w.heap.size w w' := by
 have heq := fun (W : World) => Lib.run_eql_slice_nil (P := Tryz.prog) W 28 3 A n cap 0 0 Tryz.underlying28
 have hR := Lib.hid hr
 have hN := Lib.hid hn
 clear hr hn
 cases A with
 | none =>
   go_enter Tryz.func28, Tryz.ntmps28
   go_wp2
   go_returns
   have h0 : n = 0 := by
    rcases Nat.eq_zero_or_pos n with h | h
    · exact h
    · obtain ⟨ad, h, _⟩ := hR.out.2 h
      cases h
   have hnil : l = [] := List.eq_nil_of_length_eq_zero (hN.out.symm.trans h0)
   subst hnil h0
   exact ⟨_, rfl, World.ownsRow_nil _ _ _ _, Below.refl _ _⟩
 | some ad =>
   obtain ⟨iS, hiS, hS0, hS1, hS2⟩ := info_parts Tryz.infoIntC
   have HI := Lib.hid hiS
   have H0 := Lib.hid hS0
   have H1 := Lib.hid hS1
   have H2 := Lib.hid hS2
   clear hiS hS0 hS1 hS2
   go_enter Tryz.func28, Tryz.ntmps28
   go_wp2_with (at_builtin; refine wpList_append_any _ rfl _ _ 28 rfl w.heap.size 3 iS (.int .i64 0) 1 8 Tryz.underlying28 HI.out H0.out H1.out H2.out rfl (by decide) (.slice (some ⟨w.heap.size, 0, none⟩) 0 0) 0 [] rfl (World.ownsRow_made w #[] 0 (Nat.le_refl _) (by decide) rfl) w.heap.size (some ad) n cap (numsC l) rfl ((hR.out.more hB).alloc (Nat.le_refl _) _) (numsC_oneCell l) (by simp only [maxLen]; omega) (by omega) (by simp) ?_; intro v1 w1 hown1 hg1 hat1)
   go_returns
   refine ⟨v1, rfl, by simpa using hown1, ((Below.refl _ _).alloc (Nat.le_refl _) _).grown hg1 (by simp) (fun k hk => ?_)⟩
   simp [Value.ownBlock] at hk
   omega
end
section
open Go.RowKit Go.Maps Go.Shelf
theorem Blk.setMany {g : Nat} {t : TypeId} : ∀ (vs : List Value) (o : Nat) {w : World} {cs : Array Value}, Blk w g t cs -> ∃ cs', Blk (w.setCells g o vs) g t cs' /\ cs'.size = cs.size /\ ∀ j, j < cs.size -> cs'[j]? = if o <= j /\ j < o + vs.length then vs[j - o]? else cs[j]?
 | [], o, w, cs, h => ⟨cs, h, rfl, fun j _ => by rw [if_neg (by simp only [List.length_nil]; omega)]⟩
 | v :: vs, o, w, cs, h => by
   obtain ⟨cs', h1, h2, h3⟩ := Blk.setMany vs (o + 1) (h.set_ o v)
   refine ⟨cs', h1, by rw [h2, Array.size_setIfInBounds], fun j hj => ?_⟩
   rw [h3 j (by simpa using hj)]
   by_cases e : j = o
   · subst e
     rw [if_neg (by omega), if_pos (by simp), Array.getElem?_setIfInBounds]
     simp [hj]
   · by_cases e2 : o + 1 <= j /\ j < o + 1 + vs.length
     · rw [if_pos e2, if_pos (by simp only [List.length_cons]; omega), show j - o = (j - (o + 1)) + 1 by omega]
       rfl
     · rw [if_neg e2, if_neg (by simp only [List.length_cons]; omega), Array.getElem?_setIfInBounds, if_neg (by omega)]
theorem Turns.setMany {g : Nat} : ∀ (vs : List Value) (o : Nat) {w0 w : World} {F : List Nat}, Turns F w0 w -> (g < w0.heap.size -> g ∈ F) -> Turns F w0 (w.setCells g o vs)
 | [], _, _, _, _, h, _ => h
 | v :: vs, o, _, _, _, h, hg => Turns.setMany vs (o + 1) (h.setCell ⟨g, o, none⟩ v hg) hg
theorem nodes_block {w : World} {B n k : Nat} {v : Value} {L : List NodeIt} (h : w.ownsRow B 111 6 v n (nodesC L)) (hk : k < n) : ∃ g cap cur, v = .slice (some ⟨g, 0, none⟩) n cap /\ B <= g /\ Blk w g 111 cur /\ n <= cap /\ cap <= maxLen /\ cur.size = cap * 6 /\ cur.toList.take (n * 6) = nodesC L := by
 rcases h.2 with ⟨_, h0⟩ | ⟨g, cap, cur, hv, hb, hg, h1, h2, h3, h4⟩
 · omega
 · exact ⟨g, cap, cur, hv, hb, hg, h1, h2, h3, h4⟩
theorem nodes_set {w : World} {B n k g cap : Nat} {L : List NodeIt} {y : NodeIt} (h : w.ownsRow B 111 6 (.slice (some ⟨g, 0, none⟩) n cap) n (nodesC L)) (hL : L.length = n) (hk : k < n) : (w.setCells g (k * 6) (nodeC y)).ownsRow B 111 6 (.slice (some ⟨g, 0, none⟩) n cap) n (nodesC (L.set k y)) := by
 obtain ⟨g', cap', cur, hv, hb, hg, h1, h2, h3, h4⟩ := nodes_block h hk
 cases hv
 obtain ⟨cur', b1, b2, b3⟩ := Blk.setMany (nodeC y) (k * 6) hg
 have h6 : (nodeC y).length = 6 := rfl
 refine ⟨by rw [nodesC_len, List.length_set, hL], .inr ⟨g, cap, cur', rfl, hb, b1, h1, h2, by rw [b2, h3], ?_⟩⟩
 apply List.ext_getElem?
 intro j
 have hcap : n * 6 <= cap * 6 := Nat.mul_le_mul_right _ h1
 by_cases hj : j < n * 6
 · rw [List.getElem?_take_of_lt hj, Array.getElem?_toList, b3 j (by omega)]
   have hi : j / 6 < n := by omega
   have hjj : j / 6 * 6 + j % 6 = j := Nat.div_add_mod' j 6
   by_cases e : j / 6 = k
   · have hs : (L.set k y)[j / 6]? = some y := by rw [e, List.getElem?_set_self (by omega)]
     have := nodesC_at hs (j % 6) (by omega)
     rw [hjj] at this
     rw [this, if_pos (by omega), show j - k * 6 = j % 6 by omega]
   · obtain ⟨x, hx⟩ : ∃ x, L[j / 6]? = some x := ⟨_, List.getElem?_eq_getElem (by omega)⟩
     have hs : (L.set k y)[j / 6]? = some x := by rw [List.getElem?_set_ne (fun e2 => e e2.symm)]; exact hx
     have e1 := nodesC_at hs (j % 6) (by omega)
     have e2 := nodesC_at hx (j % 6) (by omega)
     rw [hjj] at e1 e2
     rw [e1, <- e2, if_neg (by omega), <- h4, List.getElem?_take_of_lt hj, Array.getElem?_toList]
 · rw [List.getElem?_eq_none (by rw [List.length_take]; omega), List.getElem?_eq_none (by rw [nodesC_len, List.length_set, hL]; omega)]
theorem nodes_there {w : World} {B n k g cap : Nat} {L : List NodeIt} (h : w.ownsRow B 111 6 (.slice (some ⟨g, 0, none⟩) n cap) n (nodesC L)) (hk : k < n) : w.there g (k * 6) 6 := by
 obtain ⟨g', cap', cur, hv, hb, hg, h1, h2, h3, h4⟩ := nodes_block h hk
 cases hv
 intro j hj
 have hcap : n * 6 <= cap * 6 := Nat.mul_le_mul_right _ h1
 refine ⟨?_, hg.frozen _⟩
 rw [hg.cell, Array.getElem?_eq_getElem (by omega)]
 rfl
theorem nodes_range {w : World} {B n k g cap : Nat} {L : List NodeIt} {x : NodeIt} (h : w.ownsRow B 111 6 (.slice (some ⟨g, 0, none⟩) n cap) n (nodesC L)) (hx : L[k]? = some x) (hk : k < n) : w.rangeAt g (k * 6) (nodeC x) := by
 obtain ⟨g', cap', cur, hv, hb, hg, h1, h2, h3, h4⟩ := nodes_block h hk
 cases hv
 intro j v hj
 have hj6 : j < 6 := (List.getElem?_eq_some_iff.1 hj).1
 rw [hg.cell]
 have e := nodesC_at hx j hj6
 rw [hj, <- h4, List.getElem?_take_of_lt (by omega), Array.getElem?_toList] at e
 exact e
def nle (a b : NodeIt) : Prop := Abs.ndle a.nd b.nd
structure InsOut (L M : List NodeIt) (i : Nat) : Prop where
 perm : M.Perm L
 sorted : (M.take i).Pairwise nle
structure InsIn (L M : List NodeIt) (i k : Nat) (x : NodeIt) (A C D : List NodeIt) : Prop where
 perm : M.Perm L
 eq : M = A ++ x :: (C ++ D)
 la : A.length = k
 lc : A.length + C.length = i
 sorted : (A ++ C).Pairwise nle
 lt : ∀ c ∈ C, nle x c
theorem InsOut.start {L M : List NodeIt} {i : Nat} {x : NodeIt} (h : InsOut L M i) (hx : M[i]? = some x) : InsIn L M i i x (M.take i) [] (M.drop (i + 1)) := by
 have hl : i < M.length := (List.getElem?_eq_some_iff.1 hx).1
 refine ⟨h.perm, ?_, by rw [List.length_take]; omega, by simp; omega, by simpa using h.sorted, by simp⟩
 rw [List.getElem?_eq_getElem hl] at hx
 rw [<- Option.some.inj hx, List.nil_append, <- List.drop_eq_getElem_cons hl, List.take_append_drop]
theorem InsIn.stop {L M : List NodeIt} {i k : Nat} {x : NodeIt} {A C D : List NodeIt} (h : InsIn L M i k x A C D) (hx : ∀ a ∈ A.getLast?, nle a x) : InsOut L M (i + 1) := by
 refine ⟨h.perm, ?_⟩
 have e : M.take (i + 1) = A ++ x :: C := by
  rw [h.eq, show A ++ x :: (C ++ D) = (A ++ x :: C) ++ D by simp, List.take_left' (by simp only [List.length_append, List.length_cons]; have := h.lc; omega)]
 rw [e, List.pairwise_append]
 obtain ⟨h1, h2, h3⟩ := List.pairwise_append.1 h.sorted
 have hax : ∀ a ∈ A, nle a x := by
  intro a ha
  rcases List.eq_nil_or_concat A with rfl | ⟨A', l, rfl⟩
  · cases ha
  · rw [List.concat_eq_append] at *
    have hl : nle l x := hx l (by simp)
    rcases List.mem_append.1 ha with ha | ha
    · exact Abs.ndle_trans ((List.pairwise_append.1 h1).2.2 a ha l (by simp)) hl
    · rw [List.mem_singleton.1 ha]; exact hl
 refine ⟨h1, List.pairwise_cons.2 ⟨h.lt, h2⟩, ?_⟩
 intro a ha b hb
 rcases List.mem_cons.1 hb with rfl | hb
 · exact hax a ha
 · exact h3 a ha b hb
theorem InsIn.down {L M : List NodeIt} {i k : Nat} {x y : NodeIt} {A C D : List NodeIt} (h : InsIn L M i (k + 1) x A C D) (hy : M[k]? = some y) (hlt : Abs.nlt x.nd.path y.nd.path = true) : ∃ A' , InsIn L ((M.set (k + 1) y).set k x) i k x A' (y :: C) D /\ A = A' ++ [y] := by
 rcases List.eq_nil_or_concat A with rfl | ⟨A', l, rfl⟩
 · have := h.la; simp at this
 · rw [List.concat_eq_append] at *
   have hl := h.la
   simp only [List.length_append, List.length_singleton] at hl
   have hyl : l = y := by
    rw [h.eq, List.append_assoc, List.getElem?_append_right (by omega), show k - A'.length = 0 by omega] at hy
    simpa using hy
   subst hyl
   have e1 : (M.set (k + 1) l).set k x = A' ++ x :: (l :: C ++ D) := by
    rw [h.eq, List.append_assoc, List.set_append_right _ _ (by omega), List.set_append_right _ _ (by omega), show k + 1 - A'.length = 1 by omega, show k - A'.length = 0 by omega]
    rfl
   refine ⟨A', ⟨?_, e1, by omega, by have h3 := h.lc; rw [List.length_append, List.length_singleton] at h3; rw [List.length_cons]; omega, by have := h.sorted; simpa using this, ?_⟩, rfl⟩
   · rw [e1]
     refine List.Perm.trans ?_ h.perm
     rw [h.eq, List.append_assoc]
     exact (List.Perm.swap l x (C ++ D)).append_left A'
   · intro c hc
     rcases List.mem_cons.1 hc with rfl | hc
     · exact Abs.ndle_of_lt hlt
     · exact h.lt c hc
end
end Go.Proofs.YtffffjngodinnaaGreatDoor
