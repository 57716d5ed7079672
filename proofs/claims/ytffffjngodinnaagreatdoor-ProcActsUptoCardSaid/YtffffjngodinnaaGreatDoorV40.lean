/-
  Parts of the proof.
-/
import Derived.Test.YtffffjngodinnaaGreatDoorV39
import Derived.Test.YtffffjngodinnaaGreatDoorV25
namespace Go.Proofs.YtffffjngodinnaaGreatDoor
section
set_option maxRecDepth 100000
open Go.RowKit Go.Maps Go.Shelf
theorem nodes_keep {w w' : World} {B : Nat} {v : Value} {l : List NodeIt} (h : NodesOwn w B v l) (hk : ∀ b, B <= b -> b < w.heap.size -> w'.heap[b]? = w.heap[b]?) : NodesOwn w' B v l :=
 ⟨ownsRow_same h.row fun b hb => hk b (h.row.lt b hb).1 (h.row.lt b hb).2, fun n hn => ownsRow_same (h.data n hn) fun b hb => hk b ((h.data n hn).lt b hb).1 ((h.data n hn).lt b hb).2⟩
set_option maxHeartbeats 2000000 in
theorem runActsT (w : World) (A : Option Addr) (c n : Nat) (EA : Option Addr) (ec en : Nat) (cwd : ByteArray) (IA : Option Addr) (ic m : Nat) (NA : Option Addr) (nc nn : Nat) (Ls : List NodeIt) (buf line run : Int) (FA : Option Addr) (fc fn : Nat) (now : Int) (PA : Option Addr) (pc pn : Nat) (args env : List ByteArray) (inb : List UInt8) (fl : List (Int × Int)) (pks : List Int)
 (hr : Reads w w.heap.size 1 A n (strsC args)) (hn : args.length = n) (hn2 : n <= 2097152) (her : Reads w w.heap.size 1 EA en (strsC env)) (hen : env.length = en) (hen2 : en <= 2097152) (hm : inb.length = m) (hiv : Bytes w w.heap.size (.slice IA m ic) inb) (hib : m <= 140737488355328)
 (hcw : cwd.size <= 1048576) (hLn : Ls.length = nn) (hnn2 : nn <= 1048576) (hNr : Reads w w.heap.size 6 NA nn (nodesC Ls)) (hNo : ∀ x ∈ Ls, NodeOk w w.heap.size x)
 (hfn : fl.length = fn) (hfv : Faults w (.slice FA fn fc) fl) (hfl : fn <= 8796093022208) (hPl : pn = pks.length) (hPr : Reads w w.heap.size 1 PA pn (numsC pks)) (hp2 : pn <= 2097152)
 (LA : Option Addr) (lc ln : Nat) (l : List ActIt) (hln : l.length = ln) (hlr : Reads w w.heap.size 3 LA ln (actsC l)) (hlen : ln <= 2097152) (hB : ∀ a ∈ l, Bytes w w.heap.size (.slice a.A a.bs.length a.c) a.bs /\ a.bs.length <= 140737488355328)
 (hk : ∀ a ∈ l, -9223372036854775808 <= a.k /\ a.k <= 9223372036854775807) (hfit : (Flow.first inb (.slice none 0 0)).pl.FitsAll fl l) (S : PF) (st : Int) (hS : PF.acts fl (Flow.first inb (.slice none 0 0)).pl l = (S, st)) (hsd : ∀ b, (S.said b).length <= 140737488355328) (s : Abs.LS) (hM : Abs.mayT (Abs.LS.init.run (Ls.map NodeIt.nd)) (limBad n buf line run now) cwd.data.toList = some s) :
 Calls Tryz.prog 6 #[.agg #[.slice A n c, .slice EA en ec, .string cwd, .slice IA m ic, .slice NA nn nc, .int .i64 buf, .int .i64 line, .int .i64 run, .slice FA fn fc, .int .i64 now, .slice PA pn pc], .slice LA ln lc] w fun e w' => ∃ Ao co Ae ce An cn Ns, e = .returned (.tuple #[.agg #[.slice Ao (S.said true).length co, .slice Ae (S.said false).length ce, .int .i64 st, .slice An Ns.length cn, .int .i64 (S.steps : Int), .int .i64 S.peak, .int .i64 (S.used : Int)], .bool true]) /\ NodesOwn w' w.heap.size (.slice An Ns.length cn) Ns /\ Ns.map NodeIt.nd = s.T.dump /\
  w'.ownsRow w.heap.size 5 1 (.slice Ao (S.said true).length co) (S.said true).length (bytesC (S.said true)) /\ w'.ownsRow w.heap.size 5 1 (.slice Ae (S.said false).length ce) (S.said false).length (bytesC (S.said false)) /\ Below w.heap.size w w' := by
 have hrun : ∀ W bl, Below w.heap.size w W -> Blk W bl 31 #[.slice LA ln lc] -> Calls Tryz.prog 11 #[.agg #[.slice A n c, .slice EA en ec, .string cwd, .slice IA m ic, .slice NA nn nc, .int .i64 buf, .int .i64 line, .int .i64 run, .slice FA fn fc, .int .i64 now, .slice PA pn pc], .func (.func 12) #[] #[.pointer (some ⟨bl, 0, none⟩)]] W fun e w' => ∃ ov ev nv Ns, e = .returned (.tuple #[.agg #[ov, ev, .int .i64 st, nv, .int .i64 (S.steps : Int), .int .i64 S.peak, .int .i64 (S.used : Int)], .bool true]) /\ NodesOwn w' W.heap.size nv Ns /\ Ns.map NodeIt.nd = s.T.dump /\
  w'.ownsRow W.heap.size 5 1 ov (S.said true).length (bytesC (S.said true)) /\ w'.ownsRow W.heap.size 5 1 ev (S.said false).length (bytesC (S.said false)) /\ Below W.heap.size W w' := by
  intro W bl hb hbk
  subst hn hm hfn hln hen
  refine (run_topT W A c args EA ec env cwd (.slice IA inb.length ic) inb NA nc nn Ls buf line run (.slice FA fl.length fc) fl now PA pc pn pks 12 #[.pointer (some ⟨bl, 0, none⟩)] (ActsPost l fl inb) ((hr.below hb).more hb.size) hn2 ((her.below hb).more hb.size) hen2 hcw ((hiv.below hb).more hb.size) hib
   hLn hnn2 ((hNr.below hb).more hb.size) (fun x hx => ((hNo x hx).below hb).more hb.size) (hfv.below hb) hfl hPl ((hPr.below hb).more hb.size) hp2
   (enters_of Tryz.func12 (by kernel_rfl) rfl) (start_acts W args inb buf line run fl LA lc l ((hlr.below hb).more hb.size) hlen (fun a ha => ⟨((hB a ha).1.below hb).more hb.size, (hB a ha).2⟩) hk hfit bl hbk) ?_ s hM).mono ?_
  · intro n F' hP b
    unfold ActsPost at hP
    rw [hS, Prod.mk.injEq] at hP
    have : F'.said b = S.said b := by rw [hP.1]; rfl
    rw [this]
    exact hsd b
  · rintro e w' ⟨n, F', ov, ev, nv, Ns, hP, rfl, h2, h3, h6, h7, h4⟩
    unfold ActsPost at hP
    rw [hS, Prod.mk.injEq] at hP
    obtain ⟨h5, rfl⟩ := hP
    subst h5
    exact ⟨ov, ev, nv, Ns, rfl, h6, h7, h2, h3, h4⟩
 have HR := Lib.hid hrun
 obtain ⟨no, hno⟩ : ∃ no, (S.said true).length = no := ⟨_, rfl⟩
 obtain ⟨ne, hne⟩ : ∃ ne, (S.said false).length = ne := ⟨_, rfl⟩
 obtain ⟨us, hus⟩ : ∃ us : Int, (S.used : Int) = us := ⟨_, rfl⟩
 obtain ⟨sp, hsp⟩ : ∃ sp : Int, (S.steps : Int) = sp := ⟨_, rfl⟩
 obtain ⟨pk, hpk⟩ : ∃ pk : Int, S.peak = pk := ⟨_, rfl⟩
 obtain ⟨bo, hbo⟩ : ∃ bo, bytesC (S.said true) = bo := ⟨_, rfl⟩
 obtain ⟨be, hbe⟩ : ∃ be, bytesC (S.said false) = be := ⟨_, rfl⟩
 simp only [hno, hne, hus, hsp, hpk, hbo, hbe] at hrun ⊢
 have HR := Lib.hid hrun
 clear hrun hr her hiv hfv hlr hB hk hfit hS hsd hcw hLn hnn2 hNr hNo hPl hPr hp2 hM hno hne hus hsp hpk hbo hbe
 obtain ⟨g, hg⟩ : ∃ g, w.heap.size = g := ⟨_, rfl⟩
 obtain ⟨Z, hZ⟩ : ∃ Z, ((w.alloc (.cells #[.slice A n c, .slice EA en ec, .string cwd, .slice IA m ic, .slice NA nn nc, .int .i64 buf, .int .i64 line, .int .i64 run, .slice FA fn fc, .int .i64 now, .slice PA pn pc] 30)).alloc (.cells #[.slice LA ln lc] 31)).alloc (.cells #[.slice none 0 0, .slice none 0 0, .int .i64 0, .slice none 0 0, .int .i64 0, .int .i64 0, .int .i64 0] 36) = Z := ⟨_, rfl⟩
 have bZ : Below w.heap.size w Z := by rw [<- hZ]; exact below_box (below_box (below_one w _) (Nat.le_refl _) _) (Nat.le_refl _) _
 have kJ : Blk Z g 30 #[.slice A n c, .slice EA en ec, .string cwd, .slice IA m ic, .slice NA nn nc, .int .i64 buf, .int .i64 line, .int .i64 run, .slice FA fn fc, .int .i64 now, .slice PA pn pc] := by rw [<- hZ, <- hg]; exact ((Blk.new w _ _).alloc _).alloc _
 have kL : Blk Z (g + 1) 31 #[.slice LA ln lc] := by rw [<- hZ, <- hg]; exact (Blk.newNext w _ _ _).alloc _
 have kR : Blk Z (g + 1 + 1) 36 #[.slice none 0 0, .slice none 0 0, .int .i64 0, .slice none 0 0, .int .i64 0, .int .i64 0, .int .i64 0] := by
  rw [<- hZ, <- hg]
  have := Blk.newNext (w.alloc (.cells #[.slice A n c, .slice EA en ec, .string cwd, .slice IA m ic, .slice NA nn nc, .int .i64 buf, .int .i64 line, .int .i64 run, .slice FA fn fc, .int .i64 now, .slice PA pn pc] 30)) (.cells #[.slice LA ln lc] 31) 36 #[.slice none 0 0, .slice none 0 0, .int .i64 0, .slice none 0 0, .int .i64 0, .int .i64 0, .int .i64 0]
  rwa [World.size_alloc] at this
 have hZs : g + 1 + 1 < Z.heap.size := kR.lt
 rw [hg] at bZ
 have HB := Lib.hid bZ
 have HKR := Lib.hid kR
 have HKL := Lib.hid kL
 have z0 : Z.cell? ⟨g, 0, none⟩ = some (.slice A n c) := kJ.cell 0
 have z1 : Z.cell? ⟨g, 1, none⟩ = some (.slice EA en ec) := kJ.cell 1
 have z2 : Z.cell? ⟨g, 2, none⟩ = some (.string cwd) := kJ.cell 2
 have z3 : Z.cell? ⟨g, 3, none⟩ = some (.slice IA m ic) := kJ.cell 3
 have z4 : Z.cell? ⟨g, 4, none⟩ = some (.slice NA nn nc) := kJ.cell 4
 have z5 : Z.cell? ⟨g, 5, none⟩ = some (.int .i64 buf) := kJ.cell 5
 have z6 : Z.cell? ⟨g, 6, none⟩ = some (.int .i64 line) := kJ.cell 6
 have z7 : Z.cell? ⟨g, 7, none⟩ = some (.int .i64 run) := kJ.cell 7
 have z8 : Z.cell? ⟨g, 8, none⟩ = some (.slice FA fn fc) := kJ.cell 8
 have z9 : Z.cell? ⟨g, 9, none⟩ = some (.int .i64 now) := kJ.cell 9
 have z10 : Z.cell? ⟨g, 10, none⟩ = some (.slice PA pn pc) := kJ.cell 10
 clear bZ kR kJ kL
 go_enter Tryz.func6, Tryz.ntmps6
 have hmf : ∀ (fn : Fn) (first cap : Array Value) (w : World), (Instr.makeFunc fn first cap).run Tryz.prog w = .ok (.func fn first cap) w := fun _ _ _ _ => rfl
 go_wp2_with (first
  | (go_at_call 11; refine (HR.out Z (g + 1) (by rw [hg]; exact HB.out) HKL.out).mono ?_; rintro e w1 ⟨ov, ev, nv, Ns, rfl, hnv, hnd, hov, hev, hb1⟩
     obtain ⟨Ao, co, rfl, _, _, _⟩ := own_slice hov
     obtain ⟨An, cn, rfl, _⟩ := own_slice hnv.row
     obtain ⟨Ae, ce, rfl, _, _, _⟩ := own_slice hev
     have HR1 := Lib.hid (Blk.on HKR.out hb1))
  | (refine wpList_store_blk rfl 36 (.tmp 4) (.tmp 9) rfl (g + 1 + 1) 36 #[.slice none 0 0, .slice none 0 0, .int .i64 0, .slice none 0 0, .int .i64 0, .int .i64 0, .int .i64 0] #[.slice Ao no co, .slice Ae ne ce, .int .i64 st, .slice An Ns.length cn, .int .i64 sp, .int .i64 pk, .int .i64 us] rfl rfl HR1.out rfl (by kernel_rfl) (by kernel_rfl) ?_
     intro w2 b2 g2
     obtain ⟨q0, q1, q2, q3, q4, q5, q6⟩ := cells7 b2))
 refine bodyPost_ret (v := .tuple #[.agg #[.slice Ao no co, .slice Ae ne ce, .int .i64 st, .slice An Ns.length cn, .int .i64 sp, .int .i64 pk, .int .i64 us], .bool true]) (by simp [results, Tryz.results6, go_sem, q0, q1, q2, q3, q4, q5, q6]) rfl ?_
 have hzs := HB.out.size
 have b01 : Below g w w1 := HB.out.trans (hb1.mono (by omega))
 have hkeep : ∀ k, k < w1.heap.size -> k ≠ g + 1 + 1 -> w2.heap[k]? = w1.heap[k]? := fun k h1 h2 => g2.block k h1 (by simpa using h2)
 have ho2 : ∀ {v : Value} {n : Nat} {xs : List Value}, w1.ownsRow Z.heap.size 5 1 v n xs -> w2.ownsRow g 5 1 v n xs := fun h =>
  Joins.ownsRow_le (ownsRow_same h fun k hk => hkeep k (h.lt k hk).2 (by have := (h.lt k hk).1; omega)) (by omega)
 have hno2 : NodesOwn w2 g (.slice An Ns.length cn) Ns := (nodes_keep hnv fun k h1 h2 => hkeep k h2 (by omega)).le (by omega)
 subst hg
 exact ⟨Ao, co, Ae, ce, An, cn, Ns, rfl, hno2, hnd, ho2 hov, ho2 hev, (b01.grown g2 b01.size (fun k hk => by cases hk; omega)).mono (by omega)⟩
end
section
set_option maxRecDepth 100000
open Go.RowKit Go.Maps Go.Shelf
set_option maxHeartbeats 2000000 in
theorem runNoT (w : World) (A : Option Addr) (c n : Nat) (EA : Option Addr) (ec en : Nat) (cwd : ByteArray) (IA : Option Addr) (ic m : Nat) (NA : Option Addr) (nc nn : Nat) (Ls : List NodeIt) (buf line run : Int) (FA : Option Addr) (fc fn : Nat) (now : Int) (PA : Option Addr) (pc pn : Nat) (f : Value)
 (hcw : cwd.size <= 1048576) (hLn : Ls.length = nn) (hnn2 : nn <= 1048576) (hNr : Reads w w.heap.size 6 NA nn (nodesC Ls)) (hNo : ∀ x ∈ Ls, NodeOk w w.heap.size x)
 (hM : Abs.mayT (Abs.LS.init.run (Ls.map NodeIt.nd)) (limBad n buf line run now) cwd.data.toList = none) : Calls Tryz.prog 11 #[.agg #[.slice A n c, .slice EA en ec, .string cwd, .slice IA m ic, .slice NA nn nc, .int .i64 buf, .int .i64 line, .int .i64 run, .slice FA fn fc, .int .i64 now, .slice PA pn pc], f] w fun e w' => e = .returned (.tuple #[.agg #[.slice none 0 0, .slice none 0 0, .int .i64 0, .slice none 0 0, .int .i64 0, .int .i64 0, .int .i64 0], .bool false]) /\ Below w.heap.size w w' := by
 have hmay : ∀ W, Below w.heap.size w W -> Calls Tryz.prog 25 #[.agg #[.slice A n c, .slice EA en ec, .string cwd, .slice IA m ic, .slice NA nn nc, .int .i64 buf, .int .i64 line, .int .i64 run, .slice FA fn fc, .int .i64 now, .slice PA pn pc]] W fun e w' => (∃ a, e = .returned (.tuple #[.pointer a, .bool false])) /\ Below W.heap.size W w' := fun W hW => by
  have h := job_may W A n c (.slice EA en ec) cwd (.slice IA m ic) NA nn nc Ls buf line run (.slice FA fn fc) now (.slice PA pn pc) hcw hLn hnn2 ((hNr.below hW).more hW.size) (fun x hx => ((hNo x hx).below hW).more hW.size)
  rw [hM] at h
  refine h.mono ?_
  rintro e w' (⟨_, h1, h2⟩ | ⟨s', t, S, β, h0, _⟩)
  · exact ⟨h1, h2⟩
  · cases h0
 have HMAY := Lib.hid hmay
 clear hmay hcw hLn hnn2 hNr hNo hM
 obtain ⟨g, hg⟩ : ∃ g, w.heap.size = g := ⟨_, rfl⟩
 obtain ⟨Z, hZ⟩ : ∃ Z, (w.alloc (.cells #[.slice A n c, .slice EA en ec, .string cwd, .slice IA m ic, .slice NA nn nc, .int .i64 buf, .int .i64 line, .int .i64 run, .slice FA fn fc, .int .i64 now, .slice PA pn pc] 30)).alloc (.cells #[.slice none 0 0, .slice none 0 0, .int .i64 0, .slice none 0 0, .int .i64 0, .int .i64 0, .int .i64 0] 36) = Z := ⟨_, rfl⟩
 have bZ : Below g w Z := by rw [<- hZ, <- hg]; exact below_box (below_one w _) (Nat.le_refl _) _
 have kJ : Blk Z g 30 #[.slice A n c, .slice EA en ec, .string cwd, .slice IA m ic, .slice NA nn nc, .int .i64 buf, .int .i64 line, .int .i64 run, .slice FA fn fc, .int .i64 now, .slice PA pn pc] := by rw [<- hZ, <- hg]; exact (Blk.new w _ _).alloc _
 have kR : Blk Z (g + 1) 36 #[.slice none 0 0, .slice none 0 0, .int .i64 0, .slice none 0 0, .int .i64 0, .int .i64 0, .int .i64 0] := by rw [<- hZ, <- hg]; exact Blk.newNext w _ _ _
 have z0 : Z.cell? ⟨g, 0, none⟩ = some (.slice A n c) := kJ.cell 0
 have z1 : Z.cell? ⟨g, 1, none⟩ = some (.slice EA en ec) := kJ.cell 1
 have z2 : Z.cell? ⟨g, 2, none⟩ = some (.string cwd) := kJ.cell 2
 have z3 : Z.cell? ⟨g, 3, none⟩ = some (.slice IA m ic) := kJ.cell 3
 have z4 : Z.cell? ⟨g, 4, none⟩ = some (.slice NA nn nc) := kJ.cell 4
 have z5 : Z.cell? ⟨g, 5, none⟩ = some (.int .i64 buf) := kJ.cell 5
 have z6 : Z.cell? ⟨g, 6, none⟩ = some (.int .i64 line) := kJ.cell 6
 have z7 : Z.cell? ⟨g, 7, none⟩ = some (.int .i64 run) := kJ.cell 7
 have z8 : Z.cell? ⟨g, 8, none⟩ = some (.slice FA fn fc) := kJ.cell 8
 have z9 : Z.cell? ⟨g, 9, none⟩ = some (.int .i64 now) := kJ.cell 9
 have z10 : Z.cell? ⟨g, 10, none⟩ = some (.slice PA pn pc) := kJ.cell 10
 have hZs := kR.lt
 have HB := Lib.hid bZ
 have HKR := Lib.hid kR
 rw [hg]
 clear bZ kJ kR
 go_enter Tryz.func11, Tryz.ntmps11
 go_wp2_with (first
  | (go_at_call 25; refine (HMAY.out Z (by rw [hg]; exact HB.out)).mono ?_; rintro e w1 ⟨⟨pa, rfl⟩, hb1⟩
     have HR1 := Lib.hid (Blk.on HKR.out hb1))
  | (refine wpList_store_blk rfl 36 (.tmp 4) (.tmp 20) rfl (g + 1) 36 #[.slice none 0 0, .slice none 0 0, .int .i64 0, .slice none 0 0, .int .i64 0, .int .i64 0, .int .i64 0] #[.slice none 0 0, .slice none 0 0, .int .i64 0, .slice none 0 0, .int .i64 0, .int .i64 0, .int .i64 0] rfl rfl HR1.out rfl (by kernel_rfl) (by kernel_rfl) ?_
     intro w2 b2 g2
     obtain ⟨q0, q1, q2, q3, q4, q5, q6⟩ := cells7 b2))
 refine bodyPost_ret (v := .tuple #[.agg #[.slice none 0 0, .slice none 0 0, .int .i64 0, .slice none 0 0, .int .i64 0, .int .i64 0, .int .i64 0], .bool false]) (by simp [results, Tryz.results11, go_sem, q0, q1, q2, q3, q4, q5, q6]) rfl ?_
 have hzs := HB.out.size
 exact ⟨rfl, (HB.out.trans (hb1.mono (by omega))).grown g2 (Nat.le_trans (by omega) hb1.size) (fun k hk => by cases hk; omega)⟩
set_option maxHeartbeats 2000000 in
theorem runActsNoT (w : World) (A : Option Addr) (c n : Nat) (EA : Option Addr) (ec en : Nat) (cwd : ByteArray) (IA : Option Addr) (ic m : Nat) (NA : Option Addr) (nc nn : Nat) (Ls : List NodeIt) (buf line run : Int) (FA : Option Addr) (fc fn : Nat) (now : Int) (PA : Option Addr) (pc pn : Nat) (LA : Option Addr) (ln lc : Nat)
 (hcw : cwd.size <= 1048576) (hLn : Ls.length = nn) (hnn2 : nn <= 1048576) (hNr : Reads w w.heap.size 6 NA nn (nodesC Ls)) (hNo : ∀ x ∈ Ls, NodeOk w w.heap.size x)
 (hM : Abs.mayT (Abs.LS.init.run (Ls.map NodeIt.nd)) (limBad n buf line run now) cwd.data.toList = none) : Calls Tryz.prog 6 #[.agg #[.slice A n c, .slice EA en ec, .string cwd, .slice IA m ic, .slice NA nn nc, .int .i64 buf, .int .i64 line, .int .i64 run, .slice FA fn fc, .int .i64 now, .slice PA pn pc], .slice LA ln lc] w fun e w' => e = .returned (.tuple #[.agg #[.slice none 0 0, .slice none 0 0, .int .i64 0, .slice none 0 0, .int .i64 0, .int .i64 0, .int .i64 0], .bool false]) /\ Below w.heap.size w w' := by
 have hmf : ∀ (fn : Fn) (first cap : Array Value) (w : World), (Instr.makeFunc fn first cap).run Tryz.prog w = .ok (.func fn first cap) w := fun _ _ _ _ => rfl
 have hrun : ∀ W f, Below w.heap.size w W -> Calls Tryz.prog 11 #[.agg #[.slice A n c, .slice EA en ec, .string cwd, .slice IA m ic, .slice NA nn nc, .int .i64 buf, .int .i64 line, .int .i64 run, .slice FA fn fc, .int .i64 now, .slice PA pn pc], f] W fun e w' => e = .returned (.tuple #[.agg #[.slice none 0 0, .slice none 0 0, .int .i64 0, .slice none 0 0, .int .i64 0, .int .i64 0, .int .i64 0], .bool false]) /\ Below W.heap.size W w' := fun W f hW =>
  runNoT W A c n EA ec en cwd IA ic m NA nc nn Ls buf line run FA fc fn now PA pc pn f hcw hLn hnn2 ((hNr.below hW).more hW.size) (fun x hx => ((hNo x hx).below hW).more hW.size) hM
 have HRUN := Lib.hid hrun
 clear hrun hcw hLn hnn2 hNr hNo hM
 obtain ⟨g, hg⟩ : ∃ g, w.heap.size = g := ⟨_, rfl⟩
 obtain ⟨Z, hZ⟩ : ∃ Z, ((w.alloc (.cells #[.slice A n c, .slice EA en ec, .string cwd, .slice IA m ic, .slice NA nn nc, .int .i64 buf, .int .i64 line, .int .i64 run, .slice FA fn fc, .int .i64 now, .slice PA pn pc] 30)).alloc (.cells #[.slice LA ln lc] 31)).alloc (.cells #[.slice none 0 0, .slice none 0 0, .int .i64 0, .slice none 0 0, .int .i64 0, .int .i64 0, .int .i64 0] 36) = Z := ⟨_, rfl⟩
 have bZ : Below g w Z := by rw [<- hZ, <- hg]; exact below_box (below_box (below_one w _) (Nat.le_refl _) _) (Nat.le_refl _) _
 have kJ : Blk Z g 30 #[.slice A n c, .slice EA en ec, .string cwd, .slice IA m ic, .slice NA nn nc, .int .i64 buf, .int .i64 line, .int .i64 run, .slice FA fn fc, .int .i64 now, .slice PA pn pc] := by rw [<- hZ, <- hg]; exact ((Blk.new w _ _).alloc _).alloc _
 have kR : Blk Z (g + 1 + 1) 36 #[.slice none 0 0, .slice none 0 0, .int .i64 0, .slice none 0 0, .int .i64 0, .int .i64 0, .int .i64 0] := by
  rw [<- hZ, <- hg]
  have := Blk.newNext (w.alloc (.cells #[.slice A n c, .slice EA en ec, .string cwd, .slice IA m ic, .slice NA nn nc, .int .i64 buf, .int .i64 line, .int .i64 run, .slice FA fn fc, .int .i64 now, .slice PA pn pc] 30)) (.cells #[.slice LA ln lc] 31) 36 #[.slice none 0 0, .slice none 0 0, .int .i64 0, .slice none 0 0, .int .i64 0, .int .i64 0, .int .i64 0]
  rwa [World.size_alloc] at this
 have z0 : Z.cell? ⟨g, 0, none⟩ = some (.slice A n c) := kJ.cell 0
 have z1 : Z.cell? ⟨g, 1, none⟩ = some (.slice EA en ec) := kJ.cell 1
 have z2 : Z.cell? ⟨g, 2, none⟩ = some (.string cwd) := kJ.cell 2
 have z3 : Z.cell? ⟨g, 3, none⟩ = some (.slice IA m ic) := kJ.cell 3
 have z4 : Z.cell? ⟨g, 4, none⟩ = some (.slice NA nn nc) := kJ.cell 4
 have z5 : Z.cell? ⟨g, 5, none⟩ = some (.int .i64 buf) := kJ.cell 5
 have z6 : Z.cell? ⟨g, 6, none⟩ = some (.int .i64 line) := kJ.cell 6
 have z7 : Z.cell? ⟨g, 7, none⟩ = some (.int .i64 run) := kJ.cell 7
 have z8 : Z.cell? ⟨g, 8, none⟩ = some (.slice FA fn fc) := kJ.cell 8
 have z9 : Z.cell? ⟨g, 9, none⟩ = some (.int .i64 now) := kJ.cell 9
 have z10 : Z.cell? ⟨g, 10, none⟩ = some (.slice PA pn pc) := kJ.cell 10
 have hZs := kR.lt
 have HB := Lib.hid bZ
 have HKR := Lib.hid kR
 rw [hg]
 clear bZ kJ kR
 go_enter Tryz.func6, Tryz.ntmps6
 go_wp2_with (first
  | (go_at_call 11; refine (HRUN.out Z _ (by rw [hg]; exact HB.out)).mono ?_; rintro e w1 ⟨rfl, hb1⟩
     have HR1 := Lib.hid (Blk.on HKR.out hb1))
  | (refine wpList_store_blk rfl 36 (.tmp 4) (.tmp 9) rfl (g + 1 + 1) 36 #[.slice none 0 0, .slice none 0 0, .int .i64 0, .slice none 0 0, .int .i64 0, .int .i64 0, .int .i64 0] #[.slice none 0 0, .slice none 0 0, .int .i64 0, .slice none 0 0, .int .i64 0, .int .i64 0, .int .i64 0] rfl rfl HR1.out rfl (by kernel_rfl) (by kernel_rfl) ?_
     intro w2 b2 g2
     obtain ⟨q0, q1, q2, q3, q4, q5, q6⟩ := cells7 b2))
 refine bodyPost_ret (v := .tuple #[.agg #[.slice none 0 0, .slice none 0 0, .int .i64 0, .slice none 0 0, .int .i64 0, .int .i64 0, .int .i64 0], .bool false]) (by simp [results, Tryz.results6, go_sem, q0, q1, q2, q3, q4, q5, q6]) rfl ?_
 have hzs := HB.out.size
 exact ⟨rfl, (HB.out.trans (hb1.mono (by omega))).grown g2 (Nat.le_trans (by omega) hb1.size) (fun k hk => by cases hk; omega)⟩
end
section
open Go.RowKit Go.Maps Go.Shelf
structure ResOwn (w : World) (B : Nat) (Ao : Option Addr) (no co : Nat) (Ae : Option Addr) (ne ce : Nat) (An : Option Addr) (nn cn : Nat) (lo le : List UInt8) (Ns : List NodeIt) : Prop where
 h1 : lo.length = no
 h2 : le.length = ne
 ln : Ns.length = nn
 out : w.ownsRow B 5 1 (.slice Ao no co) no (bytesC lo)
 err : w.ownsRow B 5 1 (.slice Ae ne ce) ne (bytesC le)
 nodes : NodesOwn w B (.slice An nn cn) Ns
theorem ResOwn.nil (w : World) (B : Nat) : ResOwn w B none 0 0 none 0 0 none 0 0 [] [] [] := ⟨rfl, rfl, rfl, World.ownsRow_nil _ _ _ _, World.ownsRow_nil _ _ _ _, NodesOwn.nil _ _⟩
section
variable {w w' : World} {B : Nat} {Ao : Option Addr} {no co : Nat} {Ae : Option Addr} {ne ce : Nat} {An : Option Addr} {nn cn : Nat} {lo le : List UInt8} {Ns : List NodeIt}
theorem ResOwn.keep (h : ResOwn w B Ao no co Ae ne ce An nn cn lo le Ns) (hk : ∀ b, B <= b -> b < w.heap.size -> w'.heap[b]? = w.heap[b]?) : ResOwn w' B Ao no co Ae ne ce An nn cn lo le Ns :=
 ⟨h.h1, h.h2, h.ln, ownsRow_same h.out fun b hb => hk b (h.out.lt b hb).1 (h.out.lt b hb).2, ownsRow_same h.err fun b hb => hk b (h.err.lt b hb).1 (h.err.lt b hb).2, nodes_keep h.nodes hk⟩
theorem own_reads {B size n c : Nat} {e : TypeId} {A : Option Addr} {xs : List Value} (h : w.ownsRow B e size (.slice A n c) n xs) : Reads w w.heap.size size A n xs /\ n <= maxLen := by
 obtain ⟨A', c', e1, h1, h2, hr⟩ := own_slice h
 cases e1
 exact ⟨hr, Nat.le_trans h1 h2⟩
theorem ResOwn.tells (h : ResOwn w B Ao no co Ae ne ce An nn cn lo le Ns) : ResTells w Ao no Ae ne An nn lo le Ns := by
 have hr := h.nodes.row
 rw [h.ln] at hr
 exact ⟨h.h1, h.h2, h.ln, (own_reads hr).2, (own_reads h.out).1, (own_reads h.err).1, (own_reads hr).1, fun x hx => (own_reads (h.nodes.data x hx)).1⟩
end
def RunsTo (w : World) (jc : Array Value) (lv : Value) (is : Bool) (no ne nn : Nat) (lo le : List UInt8) (st : Int) (D : List Abs.Nd) (sp pk us : Int) : Prop :=
 ∀ W, Below w.heap.size w W -> Calls Tryz.prog 6 #[.agg jc, lv] W fun e w' => ∃ Ao co Ae ce An cn Ns, e = .returned (.tuple #[.agg #[.slice Ao no co, .slice Ae ne ce, .int .i64 st, .slice An nn cn, .int .i64 sp, .int .i64 pk, .int .i64 us], .bool is]) /\
  ResOwn w' W.heap.size Ao no co Ae ne ce An nn cn lo le Ns /\ Ns.map NodeIt.nd = D /\ Below W.heap.size W w'
def stopH (a : ActIt) : Bool := decide (a.k = 4) && decide (1099511627776 < a.n)
namespace PF
variable {fl : List (Int × Int)}
theorem grew_acts : ∀ (l : List ActIt) (s : PF), Grew fl s (acts fl s l).1 (bulk l) (bulk l)
 | [], s => Grew.refl s
 | a :: l, s => by
   have hb : bulk (a :: l) = a.bs.length + 1 + bulk l := by simp [bulk]
   have hg := grew_act (fl := fl) s a.k a.n a.bs
   unfold acts
   rw [hb]
   split
   · exact hg.more (by omega) (by omega)
   · exact (hg.trans (grew_acts l _)).more (Nat.le_refl _) (by omega)
theorem held_le : ∀ (l : List ActIt), (∀ a ∈ l, stopH a = false) -> held_ l <= (l.length : Int) * 1099511627776
 | [], _ => by simp [held_]
 | a :: l, h => by
   have ih := held_le l fun b hb => h b (by simp [hb])
   have h0 := h a (by simp)
   simp only [stopH, Bool.and_eq_false_iff, decide_eq_false_iff_not] at h0
   have hc : held_ (a :: l) = (if a.k = 4 then max 0 a.n else 0) + held_ l := by simp [held_]
   rw [hc, List.length_cons]
   have h2 : (if a.k = 4 then max 0 a.n else 0) <= 1099511627776 := by split <;> omega
   have h3 : ((l.length + 1 : Nat) : Int) * 1099511627776 = (l.length : Int) * 1099511627776 + 1099511627776 := by omega
   omega
end PF
structure JobIn (w : World) (A : Option Addr) (n : Nat) (EA : Option Addr) (en : Nat) (cwd : ByteArray) (IA : Option Addr) (ic m : Nat) (NA : Option Addr) (nn : Nat) (FA : Option Addr) (fc fn : Nat) (PA : Option Addr) (pn : Nat)
 (args env : List ByteArray) (inb : List UInt8) (Ls : List NodeIt) (fl : List (Int × Int)) (pks : List Int) : Prop where
 ar : Reads w w.heap.size 1 A n (strsC args)
 an : args.length = n
 am : n <= 1048576
 er : Reads w w.heap.size 1 EA en (strsC env)
 en_ : env.length = en
 em : en <= 1048576
 cm : cwd.size <= 1048576
 ir : Bytes w w.heap.size (.slice IA m ic) inb
 in_ : inb.length = m
 im : m <= 1048576
 nr : Reads w w.heap.size 6 NA nn (nodesC Ls)
 nn_ : Ls.length = nn
 nm : nn <= 1048576
 nodes : ∀ x ∈ Ls, NodeOk w w.heap.size x
 fr : Faults w (.slice FA fn fc) fl
 fn_ : fl.length = fn
 fm : fn <= 1048576
 pr : Reads w w.heap.size 1 PA pn (numsC pks)
 pn_ : pn = pks.length
 pm : pn <= 1048576
structure ActsGiven (w : World) (LA : Option Addr) (ln : Nat) (l : List ActIt) : Prop where
 row : Reads w w.heap.size 3 LA ln (actsC l)
 len : l.length = ln
 most : ln <= 1048576
 bytes : ∀ a ∈ l, Bytes w w.heap.size (.slice a.A a.bs.length a.c) a.bs /\ a.bs.length <= 1048576
 bulk : PF.bulk l <= 4194304
 kinds : ∀ a ∈ l, -9223372036854775808 <= a.k /\ a.k <= 9223372036854775807
 nums : ∀ a ∈ l, -9223372036854775808 <= a.n /\ a.n <= 9223372036854775807
section
variable {w : World} {A : Option Addr} {c n : Nat} {EA : Option Addr} {ec en : Nat} {cwd : ByteArray} {IA : Option Addr} {ic m : Nat} {NA : Option Addr} {nc nn : Nat} {buf line run : Int} {FA : Option Addr} {fc fn : Nat} {now : Int} {PA : Option Addr} {pc pn : Nat} {args env : List ByteArray} {inb : List UInt8} {Ls : List NodeIt} {fl : List (Int × Int)} {pks : List Int} {LA : Option Addr} {lc ln : Nat} {l : List ActIt}
theorem fits_given (ha : ActsGiven w LA ln l) (hl : ∀ a ∈ l, stopH a = false) (hi : inb.length <= 1048576) (hf : fl.length <= 1048576) : (Flow.first inb (.slice none 0 0)).pl.FitsAll fl l := by
 have hb := ha.bulk
 have hh := PF.held_le l hl
 have hm := ha.most
 rw [ha.len] at hh
 refine PF.fits_small l _ (Nat.zero_le _) ha.nums ?_ (fun b => ?_) ⟨0, rfl, ?_⟩
 · show 0 + (fl.length - 0) + inb.length + PF.bulk l + 2 < _
   omega
 · show 0 + inb.length + PF.bulk l <= _
   omega
 · show (0 : Int) + PF.held_ l < _
   omega
theorem runs_yes (h : JobIn w A n EA en cwd IA ic m NA nn FA fc fn PA pn args env inb Ls fl pks) (ha : ActsGiven w LA ln l) (hl : ∀ a ∈ l, stopH a = false) (s : Abs.LS) (hM : Abs.mayT (Abs.LS.init.run (Ls.map NodeIt.nd)) (limBad n buf line run now) cwd.data.toList = some s)
 (S : PF) (st : Int) (hS : PF.acts fl (Flow.first inb (.slice none 0 0)).pl l = (S, st)) :
 RunsTo w #[.slice A n c, .slice EA en ec, .string cwd, .slice IA m ic, .slice NA nn nc, .int .i64 buf, .int .i64 line, .int .i64 run, .slice FA fn fc, .int .i64 now, .slice PA pn pc] (.slice LA ln lc) true (S.said true).length (S.said false).length s.T.dump.length (S.said true) (S.said false) st s.T.dump (S.steps : Int) S.peak (S.used : Int) := by
 intro W hW
 have hsz := hW.size
 have hg := (PF.grew_acts (fl := fl) l (Flow.first inb (.slice none 0 0)).pl).said
 rw [hS] at hg
 have hb := ha.bulk
 have him := h.im
 have hii := h.in_
 refine (runActsT W A c n EA ec en cwd IA ic m NA nc nn Ls buf line run FA fc fn now PA pc pn args env inb fl pks ((h.ar.below hW).more hsz) h.an (by have := h.am; omega) ((h.er.below hW).more hsz) h.en_ (by have := h.em; omega) h.in_ ((h.ir.below hW).more hsz) (by omega)
  h.cm h.nn_ h.nm ((h.nr.below hW).more hsz) (fun x hx => ((h.nodes x hx).below hW).more hsz) h.fn_ (h.fr.below hW) (by have := h.fm; omega) h.pn_ ((h.pr.below hW).more hsz) (by have := h.pm; omega)
  LA lc ln l ha.len ((ha.row.below hW).more hsz) (by have := ha.most; omega) (fun a hx => ⟨((ha.bytes a hx).1.below hW).more hsz, by have := (ha.bytes a hx).2; omega⟩) ha.kinds (fits_given ha hl (by omega) (by have := h.fn_; have := h.fm; omega)) S st hS (fun b => ?_) s hM).mono ?_
 · have h1 := hg b
   have h2 : ((Flow.first inb (.slice none 0 0)).pl.said b).length = 0 := rfl
   have h3 : (Flow.first inb (.slice none 0 0)).pl.inb.length = inb.length := rfl
   dsimp only at h1
   omega
 · rintro e w' ⟨Ao, co, Ae, ce, An, cn, Ns, rfl, hN, hD, ho, he, hb'⟩
   have hln : Ns.length = s.T.dump.length := by rw [<- hD, List.length_map]
   rw [hln] at hN
   exact ⟨Ao, co, Ae, ce, An, cn, Ns, by rw [hln], ⟨rfl, rfl, hln, ho, he, hN⟩, hD, hb'⟩
theorem runs_no (h : JobIn w A n EA en cwd IA ic m NA nn FA fc fn PA pn args env inb Ls fl pks) (hM : Abs.mayT (Abs.LS.init.run (Ls.map NodeIt.nd)) (limBad n buf line run now) cwd.data.toList = none) :
 RunsTo w #[.slice A n c, .slice EA en ec, .string cwd, .slice IA m ic, .slice NA nn nc, .int .i64 buf, .int .i64 line, .int .i64 run, .slice FA fn fc, .int .i64 now, .slice PA pn pc] (.slice LA ln lc) false 0 0 0 [] [] 0 [] 0 0 0 := by
 intro W hW
 have hsz := hW.size
 refine (runActsNoT W A c n EA ec en cwd IA ic m NA nc nn Ls buf line run FA fc fn now PA pc pn LA ln lc h.cm h.nn_ h.nm ((h.nr.below hW).more hsz) (fun x hx => ((h.nodes x hx).below hW).more hsz) hM).mono ?_
 rintro e w' ⟨rfl, hb⟩
 exact ⟨none, 0, none, 0, none, 0, [], rfl, ResOwn.nil _ _, rfl, hb⟩
theorem Faults.reads {w : World} {FA : Option Addr} {fn fc : Nat} {fl : List (Int × Int)} (h : Faults w (.slice FA fn fc) fl) : Reads w w.heap.size 2 FA fn (faultV fl) := by
 obtain ⟨A', c', e, _, _, _, hr⟩ := h
 cases e
 exact hr
end
end
section
set_option maxRecDepth 100000
open Go.ChangeShapes Go.WideShapes Go.ChangeAt Go.RowKit Go.Maps
theorem Tryz.oneInt : Tryz.prog.cellsOf 3 = 1 := by kernel_rfl
theorem Tryz.oneStr : Tryz.prog.cellsOf 9 = 1 := by kernel_rfl
theorem Tryz.oneByte : Tryz.prog.cellsOf 5 = 1 := by kernel_rfl
theorem Tryz.twoFault : Tryz.prog.cellsOf 44 = 2 := by kernel_rfl
theorem Tryz.threeAct : Tryz.prog.cellsOf 34 = 3 := by kernel_rfl
theorem Tryz.sixNode : Tryz.prog.cellsOf 111 = 6 := by kernel_rfl
theorem Tryz.elevenJob : Tryz.prog.cellsOf 30 = 11 := by kernel_rfl
theorem bulk_ints {H : Type} (k : IntKind) (l : List Int) : Rows.uptoBulkAll (lits (H := H) k l) = l.length := by
 induction l with
 | nil => rfl
 | cons z l ih =>
   show Rows.uptoBulk (DataW.lit (H := H) (.int k z)) + Rows.uptoBulkAll (lits (H := H) k l) = l.length + 1
   rw [ih]
   simp only [Rows.uptoBulk]
   omega
theorem bulk_append {H : Type} (l l' : List (DataW H)) : Rows.uptoBulkAll (l ++ l') = Rows.uptoBulkAll l + Rows.uptoBulkAll l' := by
 induction l with
 | nil => simp [Rows.uptoBulkAll]
 | cons d l ih =>
   show Rows.uptoBulk d + Rows.uptoBulkAll (l ++ l') = (Rows.uptoBulk d + Rows.uptoBulkAll l) + _
   rw [ih]
   omega
section
variable {H : Type} {enc : TypeId × Value -> H} {W : World}
theorem read_items {α : Type} {k : Nat} (encI : α -> List Value) (good : α -> Prop) (size : α -> Nat) (hk0 : 0 < k) (hlen : ∀ x, (encI x).length = k) {e t : TypeId} (ht : Tryz.prog.underlying t = some (.slice e)) (hk : Tryz.prog.cellsOf e = k)
 (hone : ∀ {cs : List Value} {d : DataW H} {ps : List MemPlace} {n : Nat}, DataW.trod enc Tryz.prog W 0 (fun _ => true) true n e cs = some (d, ps) -> ∃ x, cs = encI x /\ good x /\ size x <= Rows.uptoBulk d)
 {fuel : Nat} {cs : List Value} {y : DataW H × List MemPlace} (h : DataW.trod enc Tryz.prog W 0 (fun _ => true) true fuel t cs = some y) :
 ∃ (A : Option Addr) (len cap : Nat) (l : List α), cs = [.slice A len cap] /\ len <= cap /\ cap <= maxLen /\ (A = none -> cap = 0) /\ l.length = len /\ Reads W W.heap.size k A len (l.flatMap encI) /\ (∀ x ∈ l, good x) /\ (l.map size).sum <= Rows.uptoBulk y.1 /\ len <= Rows.uptoBulk y.1 := by
 rcases Deep.open_slice ht h with ⟨rfl, rfl⟩ | ⟨a, len, cap, m, n, D, Pl, rfl, _, hl, hm, hmm, rfl, hx⟩
 · exact ⟨none, 0, 0, [], rfl, Nat.le_refl _, by unfold maxLen; omega, fun _ => rfl, rfl, ⟨by simp, fun h => absurd h (Nat.lt_irrefl 0)⟩, by simp, by simp, by simp⟩
 · have hlm : len <= m := by rw [hmm]; split <;> omega
   have key : ∀ q, q <= len -> ∃ l : List α, l.length = q /\ (∀ i x, l[i]? = some x -> W.cells? 0 (a.add (i * k)) k = some (encI x)) /\ (∀ x ∈ l, good x) /\ (l.map size).sum <= Rows.uptoBulkAll ((List.range q).map D) /\ q <= Rows.uptoBulkAll ((List.range q).map D) := by
    intro q
    induction q with
    | zero => intro _; exact ⟨[], rfl, by simp, by simp, by simp, by simp⟩
    | succ q ih =>
      intro hq
      obtain ⟨l, h1, h2, h3, h4, h5⟩ := ih (by omega)
      obtain ⟨cs', hc, hy⟩ := hx q (by omega)
      rw [hk] at hc
      obtain ⟨x, rfl, hg, hs⟩ := hone hy
      have hb1 := bulk_one (D q)
      refine ⟨l ++ [x], by simp [h1], ?_, ?_, ?_, ?_⟩
      · intro i z hz
        by_cases hi : i < q
        · rw [List.getElem?_append_left (by omega)] at hz
          exact h2 i z hz
        · rw [List.getElem?_append_right (by omega)] at hz
          have hi0 : i - l.length = 0 := by
           have := (List.getElem?_eq_some_iff.1 hz).1
           simp at this
           omega
          rw [hi0] at hz
          simp at hz
          subst hz
          rw [show i = q by omega]
          exact hc
      · intro z hz
        rcases List.mem_append.1 hz with hz | hz
        · exact h3 z hz
        · rw [List.mem_singleton] at hz
          subst hz
          exact hg
      · rw [List.range_succ, List.map_append (f := D), bulk_append, List.map_append, List.sum_append]
        simp only [List.map_cons, List.map_nil, List.sum_cons, List.sum_nil, Rows.uptoBulkAll]
        omega
      · rw [List.range_succ, List.map_append, bulk_append]
        simp only [List.map_cons, List.map_nil, Rows.uptoBulkAll]
        omega
   obtain ⟨l, h1, h2, h3, h4, h5⟩ := key len (Nat.le_refl _)
   have hb : Rows.uptoBulkAll ((List.range len).map D) <= Rows.uptoBulk (DataW.slice ((List.range len).map D) ((List.range (m - len)).map fun j => D (len + j))) := by
    simp only [Rows.uptoBulk]
    omega
   refine ⟨some a, len, cap, l, rfl, hl, hm, fun e => (by cases e), h1, ⟨by rw [flatMap_len hlen, h1], fun hn => ⟨a, rfl, ?_, fun j u hu => ?_⟩⟩, h3, by dsimp only; omega, by dsimp only; omega⟩
   · obtain ⟨x, hx0⟩ : ∃ x, l[0]? = some x := ⟨_, List.getElem?_eq_getElem (by omega)⟩
     obtain ⟨_, hc1, hc2⟩ := World.cells?_some (h2 0 x hx0)
     have hc3 := hc2 0 hk0
     rw [List.getElem?_eq_getElem (by omega), Deep.add_add, Nat.zero_mul] at hc3
     have := World.block_lt_of_cell? W _ hc3
     rwa [block_of_add] at this
   · have hj : j < l.length * k := by
      have := (List.getElem?_eq_some_iff.1 hu).1
      rwa [flatMap_len hlen] at this
     have hi : j / k < l.length := Nat.div_lt_of_lt_mul (by rwa [Nat.mul_comm] at hj)
     have hr : j % k < k := Nat.mod_lt _ hk0
     have hjk : j / k * k + j % k = j := Nat.div_add_mod' j k
     obtain ⟨x, hxi⟩ : ∃ x, l[j / k]? = some x := ⟨_, List.getElem?_eq_getElem hi⟩
     have hf := flatMap_at hlen l (j / k) (j % k) x hxi hr
     rw [hjk, hu] at hf
     obtain ⟨_, hc1, hc2⟩ := World.cells?_some (h2 _ x hxi)
     have hc3 := hc2 (j % k) hr
     rw [Deep.add_add, hjk] at hc3
     rw [hc3, <- hf]
theorem read_bytes {fuel : Nat} {cs : List Value} {y : DataW H × List MemPlace} (h : DataW.trod enc Tryz.prog W 0 (fun _ => true) true fuel 23 cs = some y) :
 ∃ (A : Option Addr) (c : Nat) (bs : List UInt8), cs = [.slice A bs.length c] /\ Bytes W W.heap.size (.slice A bs.length c) bs /\ bs.length <= Rows.uptoBulk y.1 := by
 rcases open_ints Tryz.underlying23 Tryz.underlying5 Tryz.oneByte h with ⟨rfl, rfl⟩ | ⟨a, len, cap, zs, rfl, _, hl, hm, hz, rfl, hcell, hws⟩
 · exact ⟨none, 0, [], rfl, Bytes.nil _ _, by simp⟩
 · simp only [if_true] at hz
   have hlen : (zs.take len).length = len := by rw [List.length_take]; omega
   have hbl : ((zs.take len).map fun z => UInt8.ofNat z.toNat).length = len := by rw [List.length_map]; exact hlen
   refine ⟨some a, cap, (zs.take len).map fun z => UInt8.ofNat z.toNat, by rw [hbl], ⟨some a, cap, rfl, by rw [hbl]; exact hl, hm, fun e => by simp at e, ⟨by simp [bytesC], fun hn => ⟨a, rfl, ?_, fun j u hu => ?_⟩⟩⟩, ?_⟩
   · have hn' : 0 < len := by rw [hbl] at hn; exact hn
     have h := World.block_lt_of_cell? W _ (hcell 0 (by omega))
     rwa [block_of_add] at h
   · simp only [bytesC, List.map_map, List.getElem?_map, Option.map_eq_some_iff, Function.comp_apply] at hu
     obtain ⟨z, hz1, rfl⟩ := hu
     have hj : j < (zs.take len).length := (List.getElem?_eq_some_iff.1 hz1).1
     rw [hlen] at hj
     rw [List.getElem?_take, if_pos hj] at hz1
     have hzm : z ∈ zs := List.mem_of_getElem? hz1
     have hb := Go.bounds_u8 (hws z hzm)
     rw [hcell j (by omega), List.getD_eq_getElem?_getD, hz1, Option.getD_some, UInt8.toNat_ofNat']
     congr 2
     omega
   · rw [hbl]
     simp only [Rows.uptoBulk, bulk_ints]
     rw [hlen]
     omega
theorem read_str {n : Nat} {cs : List Value} {d : DataW H} {ps : List MemPlace} (h : DataW.trod enc Tryz.prog W 0 (fun _ => true) true n 9 cs = some (d, ps)) : ∃ s : ByteArray, cs = [.string s] /\ True /\ s.size + 1 <= Rows.uptoBulk d := by
 obtain ⟨s, rfl, hx, _⟩ := DataW.trod_string Tryz.underlying9 h
 cases hx
 refine ⟨s, rfl, trivial, ?_⟩
 simp only [Rows.uptoBulk]
 rw [Array.length_toList]
 exact Nat.le_refl _
theorem read_int {n : Nat} {cs : List Value} {d : DataW H} {ps : List MemPlace} (h : DataW.trod enc Tryz.prog W 0 (fun _ => true) true n 3 cs = some (d, ps)) : ∃ z : Int, cs = [.int .i64 z] /\ (-9223372036854775808 <= z /\ z <= 9223372036854775807) /\ 1 <= Rows.uptoBulk d := by
 obtain ⟨z, rfl, hx, hw⟩ := DataW.trod_int Tryz.underlying3 h
 exact ⟨z, rfl, Go.bounds_i64 hw, bulk_one d⟩
theorem read_fault {n : Nat} {cs : List Value} {d : DataW H} {ps : List MemPlace} (h : DataW.trod enc Tryz.prog W 0 (fun _ => true) true n 44 cs = some (d, ps)) : ∃ p : Int × Int, cs = [.int .i64 p.1, .int .i64 p.2] /\ True /\ 1 <= Rows.uptoBulk d := by
 obtain ⟨xs, m, _, hx, hl, hxl, hf⟩ := DataW.trod_struct Tryz.underlying44 h
 rw [Tryz.twoFault] at hl
 have hxl' : xs.length = 2 := hxl
 match cs, hl, xs, hxl' with
 | [c0, c1], _, [y0, y1], _ =>
   have f0 := hf 0 _ rfl
   have f1 := hf 1 _ rfl
   simp only [List.getElem?_cons_zero, List.getElem?_cons_succ] at f0 f1
   obtain ⟨z0, e0, _, _⟩ := read_int (d := y0.1) (ps := y0.2) f0
   obtain ⟨z1, e1, _, _⟩ := read_int (d := y1.1) (ps := y1.2) f1
   cases e0
   cases e1
   exact ⟨(z0, z1), rfl, trivial, bulk_one d⟩
theorem read_act {n : Nat} {cs : List Value} {d : DataW H} {ps : List MemPlace} (h : DataW.trod enc Tryz.prog W 0 (fun _ => true) true n 34 cs = some (d, ps)) : ∃ a : ActIt, cs = actC a /\ (Bytes W W.heap.size (.slice a.A a.bs.length a.c) a.bs /\ (-9223372036854775808 <= a.k /\ a.k <= 9223372036854775807) /\ (-9223372036854775808 <= a.n /\ a.n <= 9223372036854775807)) /\ a.bs.length + 1 <= Rows.uptoBulk d := by
 obtain ⟨xs, m, _, hx, hl, hxl, hf⟩ := DataW.trod_struct Tryz.underlying34 h
 rw [Tryz.threeAct] at hl
 have hxl' : xs.length = 3 := hxl
 match cs, hl, xs, hxl' with
 | [c0, c1, c2], _, [y0, y1, y2], _ =>
   have f0 := hf 0 _ rfl
   have f1 := hf 1 _ rfl
   have f2 := hf 2 _ rfl
   simp only [List.getElem?_cons_zero, List.getElem?_cons_succ] at f0 f1 f2
   obtain ⟨z0, e0, b0, _⟩ := read_int (d := y0.1) (ps := y0.2) f0
   obtain ⟨z1, e1, b1, _⟩ := read_int (d := y1.1) (ps := y1.2) f1
   obtain ⟨A, c, bs, e2, b2, l2⟩ := read_bytes f2
   cases e0
   cases e1
   cases e2
   cases hx
   refine ⟨⟨z0, z1, A, c, bs⟩, rfl, ⟨b2, b0, b1⟩, ?_⟩
   simp only [Rows.uptoBulk, Rows.uptoBulkAll, List.map_cons, List.map_nil]
   omega
theorem read_node {n : Nat} {cs : List Value} {d : DataW H} {ps : List MemPlace} (h : DataW.trod enc Tryz.prog W 0 (fun _ => true) true n 111 cs = some (d, ps)) :
 ∃ x : NodeIt, cs = nodeC x /\ (Bytes W W.heap.size x.dv x.data /\ (-9223372036854775808 <= x.mode /\ x.mode <= 9223372036854775807) /\ (-9223372036854775808 <= x.tick /\ x.tick <= 9223372036854775807) /\ (-9223372036854775808 <= x.ino /\ x.ino <= 9223372036854775807)) /\ x.path.size + x.data.length + 1 <= Rows.uptoBulk d := by
 obtain ⟨xs, m, _, hx, hl, hxl, hf⟩ := DataW.trod_struct Tryz.underlying111 h
 rw [Tryz.sixNode] at hl
 have hxl' : xs.length = 6 := hxl
 match cs, hl, xs, hxl' with
 | [c0, c1, c2, c3, c4, c5], _, [y0, y1, y2, y3, y4, y5], _ =>
   have f0 := hf 0 _ rfl
   have f1 := hf 1 _ rfl
   have f2 := hf 2 _ rfl
   have f3 := hf 3 _ rfl
   have f4 := hf 4 _ rfl
   have f5 := hf 5 _ rfl
   simp only [List.getElem?_cons_zero, List.getElem?_cons_succ] at f0 f1 f2 f3 f4 f5
   obtain ⟨s, e0, _, l0⟩ := read_str (d := y0.1) (ps := y0.2) f0
   obtain ⟨b, e1, _⟩ := DataW.trod_bool Tryz.underlying4 f1
   obtain ⟨z2, e2, b2, _⟩ := read_int (d := y2.1) (ps := y2.2) f2
   obtain ⟨z3, e3, b3, _⟩ := read_int (d := y3.1) (ps := y3.2) f3
   obtain ⟨z4, e4, b4, _⟩ := read_int (d := y4.1) (ps := y4.2) f4
   obtain ⟨A, c, bs, e5, b5, l5⟩ := read_bytes f5
   cases e0
   cases e1
   cases e2
   cases e3
   cases e4
   cases e5
   cases hx
   refine ⟨⟨s, b, z2, z3, z4, A, c, bs⟩, rfl, ⟨b5, b2, b3, b4⟩, ?_⟩
   simp only [Rows.uptoBulk, Rows.uptoBulkAll, List.map_cons, List.map_nil]
   omega
theorem strsC_flat (l : List ByteArray) : l.flatMap (fun s => [Value.string s]) = strsC l := by
 induction l with
 | nil => rfl
 | cons a l ih => rw [List.flatMap_cons, ih]; rfl
theorem numsC_flat (l : List Int) : l.flatMap (fun z => [Value.int .i64 z]) = numsC l := by
 induction l with
 | nil => rfl
 | cons a l ih => rw [List.flatMap_cons, ih]; rfl
theorem mem_le_sum {a : Nat} : ∀ {l : List Nat}, a ∈ l -> a <= l.sum
 | b :: l, h => by
   rw [List.sum_cons]
   rcases List.mem_cons.1 h with rfl | h
   · omega
   · have := mem_le_sum h; omega
theorem read_acts {fuel : Nat} {cs : List Value} {y : DataW H × List MemPlace} (h : DataW.trod enc Tryz.prog W 0 (fun _ => true) true fuel 31 cs = some y) (hb : Rows.uptoBulk y.1 <= 1048576) :
 ∃ LA ln lc l, cs = [.slice LA ln lc] /\ ActsGiven W LA ln l := by
 obtain ⟨A, len, cap, l, rfl, h1, h2, h3, h4, h5, h6, h7, h8⟩ := read_items (k := 3) actC (fun a => Bytes W W.heap.size (.slice a.A a.bs.length a.c) a.bs /\ (-9223372036854775808 <= a.k /\ a.k <= 9223372036854775807) /\ (-9223372036854775808 <= a.n /\ a.n <= 9223372036854775807)) (fun a => a.bs.length + 1) (by decide) (fun _ => rfl) Tryz.underlying31 Tryz.threeAct read_act h
 refine ⟨A, len, cap, l, rfl, ⟨h5, h4, by omega, fun a ha => ⟨(h6 a ha).1, ?_⟩, ?_, fun a ha => (h6 a ha).2.1, fun a ha => (h6 a ha).2.2⟩⟩
 · have := mem_le_sum (List.mem_map.2 ⟨a, ha, rfl⟩ : a.bs.length + 1 ∈ l.map fun a => a.bs.length + 1)
   omega
 · show (l.map fun a => a.bs.length + 1).sum <= _
   omega
set_option maxHeartbeats 1000000 in
theorem read_job {fuel : Nat} {cs : List Value} {y : DataW H × List MemPlace} (h : DataW.trod enc Tryz.prog W 0 (fun _ => true) true fuel 30 cs = some y) (hb : Rows.uptoBulk y.1 <= 1048576) :
 ∃ A n c EA en ec cwd IA m ic NA nn nc buf line run FA fn fc now PA pn pc args env inb Ls fl pks, cs = [.slice A n c, .slice EA en ec, .string cwd, .slice IA m ic, .slice NA nn nc, .int .i64 buf, .int .i64 line, .int .i64 run, .slice FA fn fc, .int .i64 now, .slice PA pn pc] /\
  JobIn W A n EA en cwd IA ic m NA nn FA fc fn PA pn args env inb Ls fl pks := by
 obtain ⟨xs, q, _, rfl, hl, hxl, hf⟩ := DataW.trod_struct Tryz.underlying30 h
 rw [Tryz.elevenJob] at hl
 have hxl' : xs.length = 9 := hxl
 match cs, hl, xs, hxl' with
 | [c0, c1, c2, c3, c4, c5, c6, c7, c8, c9, c10], _, [y0, y1, y2, y3, y4, y5, y6, y7, y8], _ =>
   have f0 := hf 0 _ rfl
   have f1 := hf 1 _ rfl
   have f2 := hf 2 _ rfl
   have f3 := hf 3 _ rfl
   have f4 := hf 4 _ rfl
   have f5 := hf 5 _ rfl
   have f6 := hf 6 _ rfl
   have f7 := hf 7 _ rfl
   have f8 := hf 8 _ rfl
   simp only [List.getElem?_cons_zero, List.getElem?_cons_succ] at f0 f1 f2 f3 f4 f5 f6 f7 f8
   simp only [Rows.uptoBulk, Rows.uptoBulkAll, List.map_cons, List.map_nil] at hb
   obtain ⟨A, n, c, args, e0, a1, a2, a3, a4, a5, _, a7, a8⟩ := read_items (k := 1) (fun s : ByteArray => [Value.string s]) (fun _ => True) (fun s => s.size + 1) (by decide) (fun _ => rfl) Tryz.underlying22 Tryz.oneStr read_str f0
   obtain ⟨EA, en, ec, env, e1, b1, b2, b3, b4, b5, _, b7, b8⟩ := read_items (k := 1) (fun s : ByteArray => [Value.string s]) (fun _ => True) (fun s => s.size + 1) (by decide) (fun _ => rfl) Tryz.underlying22 Tryz.oneStr read_str f1
   obtain ⟨cwd, e2, _, g2⟩ := read_str (d := y2.1) (ps := y2.2) f2
   obtain ⟨IA, ic, inb, e3, i1, i2⟩ := read_bytes f3
   obtain ⟨NA, nn, nc, Ls, e4, n1, n2, n3, n4, n5, n6, n7, n8⟩ := read_items (k := 6) nodeC (fun x => Bytes W W.heap.size x.dv x.data /\ (-9223372036854775808 <= x.mode /\ x.mode <= 9223372036854775807) /\ (-9223372036854775808 <= x.tick /\ x.tick <= 9223372036854775807) /\ (-9223372036854775808 <= x.ino /\ x.ino <= 9223372036854775807)) (fun x => x.path.size + x.data.length + 1) (by decide) (fun _ => rfl) Tryz.underlying24 Tryz.sixNode read_node f4
   obtain ⟨FA, fn, fc, fl, e6, p1, p2, p3, p4, p5, _, p7, p8⟩ := read_items (k := 2) (fun p : Int × Int => [Value.int .i64 p.1, Value.int .i64 p.2]) (fun _ => True) (fun _ => 1) (by decide) (fun _ => rfl) Tryz.underlying27 Tryz.twoFault read_fault f6
   obtain ⟨now, e7, _, _⟩ := read_int (d := y7.1) (ps := y7.2) f7
   obtain ⟨PA, pn, pc, pks, e8, k1, k2, k3, k4, k5, _, k7, k8⟩ := read_items (k := 1) (fun z : Int => [Value.int .i64 z]) (fun z => -9223372036854775808 <= z /\ z <= 9223372036854775807) (fun _ => 1) (by decide) (fun _ => rfl) Tryz.underlying28 Tryz.oneInt read_int f8
   obtain ⟨zs, q', _, _, _, hzl, hg⟩ := DataW.trod_struct Tryz.underlying26 f5
   have hzl' : zs.length = 3 := hzl
   match zs, hzl' with
   | [z0, z1, z2], _ =>
     have g0 := hg 0 _ rfl
     have g1 := hg 1 _ rfl
     have g3 := hg 2 _ rfl
     simp only [List.getElem?_cons_zero, List.getElem?_cons_succ] at g0 g1 g3
     obtain ⟨buf, l0, _, _⟩ := read_int (d := z0.1) (ps := z0.2) g0
     obtain ⟨line, l1, _, _⟩ := read_int (d := z1.1) (ps := z1.2) g1
     obtain ⟨run, l2, _, _⟩ := read_int (d := z2.1) (ps := z2.2) g3
     cases e0
     cases e1
     cases e2
     cases e3
     cases e4
     cases e6
     cases e7
     cases e8
     cases l0
     cases l1
     cases l2
     rw [strsC_flat] at a5 b5
     rw [numsC_flat] at k5
     refine ⟨A, n, c, EA, en, ec, cwd, IA, inb.length, ic, NA, nn, nc, buf, line, run, FA, fn, fc, now, PA, pn, pc, args, env, inb, Ls, fl, pks, rfl, ⟨a5, a4, by omega, b5, b4, by omega, by omega, i1, rfl, by omega, n5, n4, by omega, fun x hx => ?_, ⟨FA, fc, by rw [p4], by rw [p4]; exact p1, p2, p3, by rw [p4]; exact p5⟩, p4, by omega, k5, k4.symm, by omega⟩⟩
     have hs := mem_le_sum (List.mem_map.2 ⟨x, hx, rfl⟩ : x.path.size + x.data.length + 1 ∈ Ls.map fun x => x.path.size + x.data.length + 1)
     obtain ⟨q1, q2, q3, q4⟩ := n6 x hx
     exact ⟨by omega, by omega, q1, q2, q3, q4⟩
end
end
end Go.Proofs.YtffffjngodinnaaGreatDoor
