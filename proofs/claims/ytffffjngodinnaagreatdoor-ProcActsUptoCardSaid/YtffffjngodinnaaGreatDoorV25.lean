/-
  Parts of the proof.
-/
import Derived.Test.YtffffjngodinnaaGreatDoorV17
import Derived.Test.YtffffjngodinnaaGreatDoorV24
namespace Go.Proofs.YtffffjngodinnaaGreatDoor
section
set_option maxRecDepth 100000
open Go.RowKit Go.Maps Go.Shelf
set_option maxHeartbeats 1000000 in
theorem go_top (w : World) (p : Nat) (J : PS) (h : ProcOf w p J) (ht : J.top = true) (id : FuncId) (caps : Array Value) :
 Calls Tryz.prog 39 #[.pointer (some ⟨p, 0, none⟩), .func (.func id) #[] caps] w fun e w' => e = .returned (.pointer (some ⟨w.heap.size, 0, none⟩)) /\ MachAt w' w.heap.size p (.func (.func id) #[] caps) false 0 /\ Below w.heap.size w w' := by
 have hb := h.blk
 have c13 : w.cell? ⟨p, 13, none⟩ = some (.bool true) := by rw [hb.cell 13]; simp [procCells, ht]
 have lp := hb.lt
 have km := Blk.new w 92 #[.pointer (some ⟨p, 0, none⟩), .func (.func id) #[] caps, .bool false, .int .i64 0]
 have bm := below_one w (.cells #[.pointer (some ⟨p, 0, none⟩), .func (.func id) #[] caps, .bool false, .int .i64 0] 92)
 have KM := Lib.hid km
 have BM := Lib.hid bm
 clear hb h km bm
 go_enter Tryz.func39, Tryz.ntmps39
 go_wp2_with fail
 go_returns
 exact ⟨rfl, KM.out, BM.out⟩
def ActsPost (l : List ActIt) (fl : List (Int × Int)) (inb : List UInt8) (n : Int) (F : Flow) : Prop := PF.acts fl (Flow.first inb (.slice none 0 0)).pl l = (F.pl, n)
set_option maxHeartbeats 2000000 in
theorem start_acts (w : World) (args : List ByteArray) (inb : List UInt8) (buf line run : Int) (fl : List (Int × Int)) (A : Option Addr) (c : Nat) (l : List ActIt) (hr : Reads w w.heap.size 3 A l.length (actsC l)) (hlen : l.length <= 2097152) (hB : ∀ a ∈ l, Bytes w w.heap.size (.slice a.A a.bs.length a.c) a.bs /\ a.bs.length <= 140737488355328)
 (hk : ∀ a ∈ l, -9223372036854775808 <= a.k /\ a.k <= 9223372036854775807) (hfit : (Flow.first inb (.slice none 0 0)).pl.FitsAll fl l) (bl : Nat) (hbl : Blk w bl 31 #[.slice A l.length c]) :
 StartDoes w args inb buf line run fl 12 #[.pointer (some ⟨bl, 0, none⟩)] (ActsPost l fl inb) := by
 intro W X sv hbW hX hfl _ _ _ _ hfoot
 have c0 : W.cell? ⟨bl, 0, none⟩ = some (.slice A l.length c) := (Blk.on hbl hbW).cell 0
 have hnew := acts_new W X.p A c l ((hr.below hbW).more hbW.size) hlen (fun a ha => ⟨((hB a ha).1.below hbW).more hbW.size, (hB a ha).2⟩)
  (fun m w' => ∃ caps, MachAt w' m X.p (.func (.func 40) #[] caps) false 0 /\ W.heap.size <= m /\ Below W.heap.size W w' /\ MainDoes w' X (Flow.first inb sv) 40 caps (ActsPost l fl inb)) (by
   intro W2 b2 k2 l2 hb2 hs2 hin2
   have hX2 := hX.below hb2
   refine (go_top W2 X.p _ hX2.proc hX2.top _ _).mono ?_
   rintro e w3 ⟨rfl, hm3, hb3⟩
   refine ⟨_, rfl, _, hm3, hb2.size, below_step hb2 hb3 (Nat.le_refl _), ?_⟩
   intro W4 hT4 hJ4
   have hpl : X.p < W.heap.size := hX.proc.blk.lt
   have hkeep : KeptFrom W.heap.size W2 W4 := ⟨Nat.le_trans hb3.size hT4.size, fun g h1 h2 => (hT4.block g (Nat.lt_of_lt_of_le h2 hb3.size) (by rw [List.mem_singleton]; omega)).trans (hb3.block g h2)⟩
   have hst := PF.acts_strip fl l2 l (Flow.first inb sv).pl hs2
   have hst2 := PF.acts_strip fl l l2 (Flow.first inb sv).pl hs2.symm
   have hll : l2.length = l.length := by have := congrArg List.length hs2; simpa using this
   refine (acts_main W4 X (Flow.first inb sv) hJ4 W.heap.size b2 k2 l2 (hin2.keep hkeep) ?_ (by rw [hfl]; exact hst2.2 hfit) ?_ (by rw [hll]; exact hlen)).mono ?_
   · intro g h1 h2 hm
     have := hX.foot_lt g hm
     omega
   · intro a ha
     obtain ⟨j, hj⟩ := List.getElem?_of_mem ha
     have h1 : (l2.map ActIt.strip)[j]? = some a.strip := by rw [List.getElem?_map, hj]; rfl
     rw [hs2, List.getElem?_map, Option.map_eq_some_iff] at h1
     obtain ⟨b, hb, hbs⟩ := h1
     have h2 := hk b (List.mem_of_getElem? hb)
     have h3 : b.k = a.k := congrArg Prod.fst hbs
     rw [h3] at h2
     exact h2
   · rintro e w5 ⟨rfl, F', hF', hJ5, hW5⟩
     refine ⟨_, F', rfl, hJ5, hW5, ?_⟩
     show PF.acts fl (Flow.first inb sv).pl l = (F'.pl, _)
     rw [<- hst.1, hF', hfl])
 obtain ⟨n, hn⟩ : ∃ n, l.length = n := ⟨_, rfl⟩
 rw [hn] at c0 hnew
 have HN := Lib.hid hnew
 clear hnew hr hB hbl hX hfoot hn
 go_enter Tryz.func12, Tryz.ntmps12
 go_wp2_with (go_at_call 13; refine HN.out.mono ?_; rintro e w1 ⟨m, rfl, caps, hm1, hle, hb1, hmain⟩)
 go_returns
 exact ⟨m, 40, caps, rfl, hm1, hle, hb1, enters_of Tryz.func40 (by kernel_rfl) rfl, hmain⟩
set_option maxHeartbeats 2000000 in
theorem runActs_any (w : World) (A : Option Addr) (c n : Nat) (args : List ByteArray) (hr : Reads w w.heap.size 1 A n (strsC args)) (hn : args.length = n) (h1 : 1 <= n) (hn2 : n <= 2097152) (IA : Option Addr) (ic m : Nat) (inb : List UInt8) (hm : inb.length = m) (hiv : Bytes w w.heap.size (.slice IA m ic) inb) (hib : m <= 140737488355328)
 (buf line run : Int) (hlm : LimOk buf line run) (FA : Option Addr) (fc fn : Nat) (fl : List (Int × Int)) (hfn : fl.length = fn) (hfv : Faults w (.slice FA fn fc) fl) (hfl : fn <= 8796093022208)
 (LA : Option Addr) (lc ln : Nat) (l : List ActIt) (hln : l.length = ln) (hlr : Reads w w.heap.size 3 LA ln (actsC l)) (hlen : ln <= 2097152) (hB : ∀ a ∈ l, Bytes w w.heap.size (.slice a.A a.bs.length a.c) a.bs /\ a.bs.length <= 140737488355328)
 (hk : ∀ a ∈ l, -9223372036854775808 <= a.k /\ a.k <= 9223372036854775807) (hfit : (Flow.first inb (.slice none 0 0)).pl.FitsAll fl l) (S : PF) (st : Int) (hS : PF.acts fl (Flow.first inb (.slice none 0 0)).pl l = (S, st)) (hsd : ∀ b, (S.said b).length <= 140737488355328) :
 Calls Tryz.prog 6 #[.agg #[.slice A n c, .slice none 0 0, .string ⟨#[]⟩, .slice IA m ic, .slice none 0 0, .int .i64 buf, .int .i64 line, .int .i64 run, .slice FA fn fc, .int .i64 0, .slice none 0 0], .slice LA ln lc] w fun e w' => ∃ Ao co Ae ce, e = .returned (.tuple #[.agg #[.slice Ao (S.said true).length co, .slice Ae (S.said false).length ce, .int .i64 st, .slice none 0 0, .int .i64 (S.steps : Int), .int .i64 S.peak, .int .i64 (S.used : Int)], .bool true]) /\
  w'.ownsRow w.heap.size 5 1 (.slice Ao (S.said true).length co) (S.said true).length (bytesC (S.said true)) /\ w'.ownsRow w.heap.size 5 1 (.slice Ae (S.said false).length ce) (S.said false).length (bytesC (S.said false)) /\ Below w.heap.size w w' := by
 have hrun : ∀ W bl, Below w.heap.size w W -> Blk W bl 31 #[.slice LA ln lc] -> Calls Tryz.prog 11 #[.agg #[.slice A n c, .slice none 0 0, .string ⟨#[]⟩, .slice IA m ic, .slice none 0 0, .int .i64 buf, .int .i64 line, .int .i64 run, .slice FA fn fc, .int .i64 0, .slice none 0 0], .func (.func 12) #[] #[.pointer (some ⟨bl, 0, none⟩)]] W fun e w' => ∃ ov ev, e = .returned (.tuple #[.agg #[ov, ev, .int .i64 st, .slice none 0 0, .int .i64 (S.steps : Int), .int .i64 S.peak, .int .i64 (S.used : Int)], .bool true]) /\
  w'.ownsRow W.heap.size 5 1 ov (S.said true).length (bytesC (S.said true)) /\ w'.ownsRow W.heap.size 5 1 ev (S.said false).length (bytesC (S.said false)) /\ Below W.heap.size W w' := by
  intro W bl hb hbk
  subst hn hm hfn hln
  refine (run_top W A c args (.slice IA inb.length ic) inb buf line run (.slice FA fl.length fc) fl 12 #[.pointer (some ⟨bl, 0, none⟩)] (ActsPost l fl inb) ((hr.below hb).more hb.size) h1 hn2 ((hiv.below hb).more hb.size) hib hlm (hfv.below hb) hfl
   (enters_of Tryz.func12 (by kernel_rfl) rfl) (start_acts W args inb buf line run fl LA lc l ((hlr.below hb).more hb.size) hlen (fun a ha => ⟨((hB a ha).1.below hb).more hb.size, (hB a ha).2⟩) hk hfit bl hbk) ?_).mono ?_
  · intro n F' hP b
    unfold ActsPost at hP
    rw [hS, Prod.mk.injEq] at hP
    have : F'.said b = S.said b := by rw [hP.1]; rfl
    rw [this]
    exact hsd b
  · rintro e w' ⟨n, F', ov, ev, hP, rfl, h2, h3, h4⟩
    unfold ActsPost at hP
    rw [hS, Prod.mk.injEq] at hP
    obtain ⟨h5, rfl⟩ := hP
    subst h5
    exact ⟨ov, ev, rfl, h2, h3, h4⟩
 have HR := Lib.hid hrun
 obtain ⟨no, hno⟩ : ∃ no, (S.said true).length = no := ⟨_, rfl⟩
 obtain ⟨ne, hne⟩ : ∃ ne, (S.said false).length = ne := ⟨_, rfl⟩
 obtain ⟨us, hus⟩ : ∃ us : Int, (S.used : Int) = us := ⟨_, rfl⟩
 obtain ⟨sp, hsp⟩ : ∃ sp : Int, (S.steps : Int) = sp := ⟨_, rfl⟩
 obtain ⟨pk, hpk⟩ : ∃ pk : Int, S.peak = pk := ⟨_, rfl⟩
 obtain ⟨bo, hbo⟩ : ∃ bo, bytesC (S.said true) = bo := ⟨_, rfl⟩
 obtain ⟨be, hbe⟩ : ∃ be, bytesC (S.said false) = be := ⟨_, rfl⟩
 simp only [hno, hne, hus, hsp, hpk, hbo, hbe] at hrun ⊢
 have HR := Lib.hid hrun
 clear hrun hr hiv hfv hlr hB hk hfit hS hsd hlm hno hne hus hsp hpk hbo hbe
 obtain ⟨g, hg⟩ : ∃ g, w.heap.size = g := ⟨_, rfl⟩
 obtain ⟨Z, hZ⟩ : ∃ Z, ((w.alloc (.cells #[.slice A n c, .slice none 0 0, .string ⟨#[]⟩, .slice IA m ic, .slice none 0 0, .int .i64 buf, .int .i64 line, .int .i64 run, .slice FA fn fc, .int .i64 0, .slice none 0 0] 30)).alloc (.cells #[.slice LA ln lc] 31)).alloc (.cells #[.slice none 0 0, .slice none 0 0, .int .i64 0, .slice none 0 0, .int .i64 0, .int .i64 0, .int .i64 0] 36) = Z := ⟨_, rfl⟩
 have bZ : Below w.heap.size w Z := by rw [<- hZ]; exact below_box (below_box (below_one w _) (Nat.le_refl _) _) (Nat.le_refl _) _
 have kJ : Blk Z g 30 #[.slice A n c, .slice none 0 0, .string ⟨#[]⟩, .slice IA m ic, .slice none 0 0, .int .i64 buf, .int .i64 line, .int .i64 run, .slice FA fn fc, .int .i64 0, .slice none 0 0] := by rw [<- hZ, <- hg]; exact ((Blk.new w _ _).alloc _).alloc _
 have kL : Blk Z (g + 1) 31 #[.slice LA ln lc] := by rw [<- hZ, <- hg]; exact (Blk.newNext w _ _ _).alloc _
 have kR : Blk Z (g + 1 + 1) 36 #[.slice none 0 0, .slice none 0 0, .int .i64 0, .slice none 0 0, .int .i64 0, .int .i64 0, .int .i64 0] := by
  rw [<- hZ, <- hg]
  have := Blk.newNext (w.alloc (.cells #[.slice A n c, .slice none 0 0, .string ⟨#[]⟩, .slice IA m ic, .slice none 0 0, .int .i64 buf, .int .i64 line, .int .i64 run, .slice FA fn fc, .int .i64 0, .slice none 0 0] 30)) (.cells #[.slice LA ln lc] 31) 36 #[.slice none 0 0, .slice none 0 0, .int .i64 0, .slice none 0 0, .int .i64 0, .int .i64 0, .int .i64 0]
  rwa [World.size_alloc] at this
 have hZs : g + 1 + 1 < Z.heap.size := kR.lt
 rw [hg] at bZ
 have HB := Lib.hid bZ
 have HKR := Lib.hid kR
 have HKL := Lib.hid kL
 have z0 : Z.cell? ⟨g, 0, none⟩ = some (.slice A n c) := kJ.cell 0
 have z1 : Z.cell? ⟨g, 1, none⟩ = some (.slice none 0 0) := kJ.cell 1
 have z2 : Z.cell? ⟨g, 2, none⟩ = some (.string ⟨#[]⟩) := kJ.cell 2
 have z3 : Z.cell? ⟨g, 3, none⟩ = some (.slice IA m ic) := kJ.cell 3
 have z4 : Z.cell? ⟨g, 4, none⟩ = some (.slice none 0 0) := kJ.cell 4
 have z5 : Z.cell? ⟨g, 5, none⟩ = some (.int .i64 buf) := kJ.cell 5
 have z6 : Z.cell? ⟨g, 6, none⟩ = some (.int .i64 line) := kJ.cell 6
 have z7 : Z.cell? ⟨g, 7, none⟩ = some (.int .i64 run) := kJ.cell 7
 have z8 : Z.cell? ⟨g, 8, none⟩ = some (.slice FA fn fc) := kJ.cell 8
 have z9 : Z.cell? ⟨g, 9, none⟩ = some (.int .i64 0) := kJ.cell 9
 have z10 : Z.cell? ⟨g, 10, none⟩ = some (.slice none 0 0) := kJ.cell 10
 clear bZ kR kJ kL
 go_enter Tryz.func6, Tryz.ntmps6
 have hmf : ∀ (fn : Fn) (first cap : Array Value) (w : World), (Instr.makeFunc fn first cap).run Tryz.prog w = .ok (.func fn first cap) w := fun _ _ _ _ => rfl
 go_wp2_with (first
  | (go_at_call 11; refine (HR.out Z (g + 1) (by rw [hg]; exact HB.out) HKL.out).mono ?_; rintro e w1 ⟨ov, ev, rfl, hov, hev, hb1⟩
     obtain ⟨Ao, co, rfl, _, _, _⟩ := own_slice hov
     obtain ⟨Ae, ce, rfl, _, _, _⟩ := own_slice hev
     have HR1 := Lib.hid (Blk.on HKR.out hb1))
  | (refine wpList_store_blk rfl 36 (.tmp 4) (.tmp 9) rfl (g + 1 + 1) 36 #[.slice none 0 0, .slice none 0 0, .int .i64 0, .slice none 0 0, .int .i64 0, .int .i64 0, .int .i64 0] #[.slice Ao no co, .slice Ae ne ce, .int .i64 st, .slice none 0 0, .int .i64 sp, .int .i64 pk, .int .i64 us] rfl rfl HR1.out rfl (by kernel_rfl) (by kernel_rfl) ?_
     intro w2 b2 g2
     obtain ⟨q0, q1, q2, q3, q4, q5, q6⟩ := cells7 b2))
 refine bodyPost_ret (v := .tuple #[.agg #[.slice Ao no co, .slice Ae ne ce, .int .i64 st, .slice none 0 0, .int .i64 sp, .int .i64 pk, .int .i64 us], .bool true]) (by simp [results, Tryz.results6, go_sem, q0, q1, q2, q3, q4, q5, q6]) rfl ?_
 have hzs := HB.out.size
 have b01 : Below g w w1 := HB.out.trans (hb1.mono (by omega))
 have hkeep : ∀ k, k < w1.heap.size -> k ≠ g + 1 + 1 -> w2.heap[k]? = w1.heap[k]? := fun k h1 h2 => g2.block k h1 (by simpa using h2)
 have ho2 : ∀ {v : Value} {n : Nat} {xs : List Value}, w1.ownsRow Z.heap.size 5 1 v n xs -> w2.ownsRow g 5 1 v n xs := fun h =>
  Joins.ownsRow_le (ownsRow_same h fun k hk => hkeep k (h.lt k hk).2 (by have := (h.lt k hk).1; omega)) (by omega)
 subst hg
 exact ⟨Ao, co, Ae, ce, rfl, ho2 hov, ho2 hev, (b01.grown g2 b01.size (fun k hk => by cases hk; omega)).mono (by omega)⟩
end
section
set_option maxRecDepth 100000
open Go.RowKit Go.Maps Go.Shelf
set_option maxHeartbeats 2000000 in
theorem mayNo (w : World) : Calls Tryz.prog 25 #[.agg #[.slice none 0 0, .slice none 0 0, .string ⟨#[]⟩, .slice none 0 0, .slice none 0 0, .int .i64 0, .int .i64 0, .int .i64 0, .slice none 0 0, .int .i64 0, .slice none 0 0]] w fun e w' => e = .returned (.tuple #[.pointer none, .bool false]) /\ Below w.heap.size w w' := by
 go_enter Tryz.func25, Tryz.ntmps25
 go_wp2_with (go_at_call 55; refine (loadNone _).mono ?_; rintro e w1 ⟨t, ht0, rfl, hts, hT, hb1⟩
              have bx : Blk w1 w.heap.size 30 #[.slice none 0 0, .slice none 0 0, .string ⟨#[]⟩, .slice none 0 0, .slice none 0 0, .int .i64 0, .int .i64 0, .int .i64 0, .slice none 0 0, .int .i64 0, .slice none 0 0] := Blk.on (Blk.new w _ _) hb1
              have x0 : w1.cell? ⟨w.heap.size, 0, none⟩ = some (.slice none 0 0) := bx.cell 0)
 go_returns
 exact ⟨rfl, below_step (below_one w _) hb1 (Nat.le_refl _)⟩
set_option maxHeartbeats 2000000 in
theorem runNo (w : World) (f : Value) : Calls Tryz.prog 11 #[.agg #[.slice none 0 0, .slice none 0 0, .string ⟨#[]⟩, .slice none 0 0, .slice none 0 0, .int .i64 0, .int .i64 0, .int .i64 0, .slice none 0 0, .int .i64 0, .slice none 0 0], f] w fun e w' => e = .returned (.tuple #[.agg #[.slice none 0 0, .slice none 0 0, .int .i64 0, .slice none 0 0, .int .i64 0, .int .i64 0, .int .i64 0], .bool false]) /\ Below w.heap.size w w' := by
 obtain ⟨g, hg⟩ : ∃ g, w.heap.size = g := ⟨_, rfl⟩
 obtain ⟨Z, hZ⟩ : ∃ Z, (w.alloc (.cells #[.slice none 0 0, .slice none 0 0, .string ⟨#[]⟩, .slice none 0 0, .slice none 0 0, .int .i64 0, .int .i64 0, .int .i64 0, .slice none 0 0, .int .i64 0, .slice none 0 0] 30)).alloc (.cells #[.slice none 0 0, .slice none 0 0, .int .i64 0, .slice none 0 0, .int .i64 0, .int .i64 0, .int .i64 0] 36) = Z := ⟨_, rfl⟩
 have bZ : Below g w Z := by rw [<- hZ, <- hg]; exact below_box (below_one w _) (Nat.le_refl _) _
 have kJ : Blk Z g 30 #[.slice none 0 0, .slice none 0 0, .string ⟨#[]⟩, .slice none 0 0, .slice none 0 0, .int .i64 0, .int .i64 0, .int .i64 0, .slice none 0 0, .int .i64 0, .slice none 0 0] := by rw [<- hZ, <- hg]; exact (Blk.new w _ _).alloc _
 have kR : Blk Z (g + 1) 36 #[.slice none 0 0, .slice none 0 0, .int .i64 0, .slice none 0 0, .int .i64 0, .int .i64 0, .int .i64 0] := by rw [<- hZ, <- hg]; exact Blk.newNext w _ _ _
 have z0 : Z.cell? ⟨g, 0, none⟩ = some (.slice none 0 0) := kJ.cell 0
 have z1 : Z.cell? ⟨g, 1, none⟩ = some (.slice none 0 0) := kJ.cell 1
 have z2 : Z.cell? ⟨g, 2, none⟩ = some (.string ⟨#[]⟩) := kJ.cell 2
 have z3 : Z.cell? ⟨g, 3, none⟩ = some (.slice none 0 0) := kJ.cell 3
 have z4 : Z.cell? ⟨g, 4, none⟩ = some (.slice none 0 0) := kJ.cell 4
 have z5 : Z.cell? ⟨g, 5, none⟩ = some (.int .i64 0) := kJ.cell 5
 have z6 : Z.cell? ⟨g, 6, none⟩ = some (.int .i64 0) := kJ.cell 6
 have z7 : Z.cell? ⟨g, 7, none⟩ = some (.int .i64 0) := kJ.cell 7
 have z8 : Z.cell? ⟨g, 8, none⟩ = some (.slice none 0 0) := kJ.cell 8
 have z9 : Z.cell? ⟨g, 9, none⟩ = some (.int .i64 0) := kJ.cell 9
 have z10 : Z.cell? ⟨g, 10, none⟩ = some (.slice none 0 0) := kJ.cell 10
 have hZs := kR.lt
 have HB := Lib.hid bZ
 have HKR := Lib.hid kR
 rw [hg]
 clear bZ kJ kR
 go_enter Tryz.func11, Tryz.ntmps11
 go_wp2_with (first
  | (go_at_call 25; refine (mayNo Z).mono ?_; rintro e w1 ⟨rfl, hb1⟩
     have HR1 := Lib.hid (Blk.on HKR.out hb1))
  | (refine wpList_store_blk rfl 36 (.tmp 4) (.tmp 20) rfl (g + 1) 36 #[.slice none 0 0, .slice none 0 0, .int .i64 0, .slice none 0 0, .int .i64 0, .int .i64 0, .int .i64 0] #[.slice none 0 0, .slice none 0 0, .int .i64 0, .slice none 0 0, .int .i64 0, .int .i64 0, .int .i64 0] rfl rfl HR1.out rfl (by kernel_rfl) (by kernel_rfl) ?_
     intro w2 b2 g2
     obtain ⟨q0, q1, q2, q3, q4, q5, q6⟩ := cells7 b2))
 refine bodyPost_ret (v := .tuple #[.agg #[.slice none 0 0, .slice none 0 0, .int .i64 0, .slice none 0 0, .int .i64 0, .int .i64 0, .int .i64 0], .bool false]) (by simp [results, Tryz.results11, go_sem, q0, q1, q2, q3, q4, q5, q6]) rfl ?_
 have hzs := HB.out.size
 exact ⟨rfl, (HB.out.trans (hb1.mono (by omega))).grown g2 (Nat.le_trans (by omega) hb1.size) (fun k hk => by cases hk; omega)⟩
set_option maxHeartbeats 2000000 in
theorem runActsNo (w : World) (LA : Option Addr) (ln lc : Nat) : Calls Tryz.prog 6 #[.agg #[.slice none 0 0, .slice none 0 0, .string ⟨#[]⟩, .slice none 0 0, .slice none 0 0, .int .i64 0, .int .i64 0, .int .i64 0, .slice none 0 0, .int .i64 0, .slice none 0 0], .slice LA ln lc] w fun e w' => e = .returned (.tuple #[.agg #[.slice none 0 0, .slice none 0 0, .int .i64 0, .slice none 0 0, .int .i64 0, .int .i64 0, .int .i64 0], .bool false]) /\ Below w.heap.size w w' := by
 have hmf : ∀ (fn : Fn) (first cap : Array Value) (w : World), (Instr.makeFunc fn first cap).run Tryz.prog w = .ok (.func fn first cap) w := fun _ _ _ _ => rfl
 obtain ⟨g, hg⟩ : ∃ g, w.heap.size = g := ⟨_, rfl⟩
 obtain ⟨Z, hZ⟩ : ∃ Z, ((w.alloc (.cells #[.slice none 0 0, .slice none 0 0, .string ⟨#[]⟩, .slice none 0 0, .slice none 0 0, .int .i64 0, .int .i64 0, .int .i64 0, .slice none 0 0, .int .i64 0, .slice none 0 0] 30)).alloc (.cells #[.slice LA ln lc] 31)).alloc (.cells #[.slice none 0 0, .slice none 0 0, .int .i64 0, .slice none 0 0, .int .i64 0, .int .i64 0, .int .i64 0] 36) = Z := ⟨_, rfl⟩
 have bZ : Below g w Z := by rw [<- hZ, <- hg]; exact below_box (below_box (below_one w _) (Nat.le_refl _) _) (Nat.le_refl _) _
 have kJ : Blk Z g 30 #[.slice none 0 0, .slice none 0 0, .string ⟨#[]⟩, .slice none 0 0, .slice none 0 0, .int .i64 0, .int .i64 0, .int .i64 0, .slice none 0 0, .int .i64 0, .slice none 0 0] := by rw [<- hZ, <- hg]; exact ((Blk.new w _ _).alloc _).alloc _
 have kR : Blk Z (g + 1 + 1) 36 #[.slice none 0 0, .slice none 0 0, .int .i64 0, .slice none 0 0, .int .i64 0, .int .i64 0, .int .i64 0] := by
  rw [<- hZ, <- hg]
  have := Blk.newNext (w.alloc (.cells #[.slice none 0 0, .slice none 0 0, .string ⟨#[]⟩, .slice none 0 0, .slice none 0 0, .int .i64 0, .int .i64 0, .int .i64 0, .slice none 0 0, .int .i64 0, .slice none 0 0] 30)) (.cells #[.slice LA ln lc] 31) 36 #[.slice none 0 0, .slice none 0 0, .int .i64 0, .slice none 0 0, .int .i64 0, .int .i64 0, .int .i64 0]
  rwa [World.size_alloc] at this
 have z0 : Z.cell? ⟨g, 0, none⟩ = some (.slice none 0 0) := kJ.cell 0
 have z1 : Z.cell? ⟨g, 1, none⟩ = some (.slice none 0 0) := kJ.cell 1
 have z2 : Z.cell? ⟨g, 2, none⟩ = some (.string ⟨#[]⟩) := kJ.cell 2
 have z3 : Z.cell? ⟨g, 3, none⟩ = some (.slice none 0 0) := kJ.cell 3
 have z4 : Z.cell? ⟨g, 4, none⟩ = some (.slice none 0 0) := kJ.cell 4
 have z5 : Z.cell? ⟨g, 5, none⟩ = some (.int .i64 0) := kJ.cell 5
 have z6 : Z.cell? ⟨g, 6, none⟩ = some (.int .i64 0) := kJ.cell 6
 have z7 : Z.cell? ⟨g, 7, none⟩ = some (.int .i64 0) := kJ.cell 7
 have z8 : Z.cell? ⟨g, 8, none⟩ = some (.slice none 0 0) := kJ.cell 8
 have z9 : Z.cell? ⟨g, 9, none⟩ = some (.int .i64 0) := kJ.cell 9
 have z10 : Z.cell? ⟨g, 10, none⟩ = some (.slice none 0 0) := kJ.cell 10
 have hZs := kR.lt
 have HB := Lib.hid bZ
 have HKR := Lib.hid kR
 rw [hg]
 clear bZ kJ kR
 go_enter Tryz.func6, Tryz.ntmps6
 go_wp2_with (first
  | (go_at_call 11; refine (runNo Z _).mono ?_; rintro e w1 ⟨rfl, hb1⟩
     have HR1 := Lib.hid (Blk.on HKR.out hb1))
  | (refine wpList_store_blk rfl 36 (.tmp 4) (.tmp 9) rfl (g + 1 + 1) 36 #[.slice none 0 0, .slice none 0 0, .int .i64 0, .slice none 0 0, .int .i64 0, .int .i64 0, .int .i64 0] #[.slice none 0 0, .slice none 0 0, .int .i64 0, .slice none 0 0, .int .i64 0, .int .i64 0, .int .i64 0] rfl rfl HR1.out rfl (by kernel_rfl) (by kernel_rfl) ?_
     intro w2 b2 g2
     obtain ⟨q0, q1, q2, q3, q4, q5, q6⟩ := cells7 b2))
 refine bodyPost_ret (v := .tuple #[.agg #[.slice none 0 0, .slice none 0 0, .int .i64 0, .slice none 0 0, .int .i64 0, .int .i64 0, .int .i64 0], .bool false]) (by simp [results, Tryz.results6, go_sem, q0, q1, q2, q3, q4, q5, q6]) rfl ?_
 have hzs := HB.out.size
 exact ⟨rfl, (HB.out.trans (hb1.mono (by omega))).grown g2 (Nat.le_trans (by omega) hb1.size) (fun k hk => by cases hk; omega)⟩
end
section
set_option maxRecDepth 100000
open Go.RowKit Go.Maps Go.Shelf
set_option maxHeartbeats 400000 in
theorem lim_any (w : World) : Calls Tryz.prog 10 #[] w fun e w' => e = .returned (.agg #[.int .i64 8, .int .i64 9, .int .i64 10]) /\ Below w.heap.size w w' := by
 go_enter Tryz.func10, Tryz.ntmps10
 go_wp2_with fail
 go_returns
 exact ⟨rfl, below_one w _⟩
def exActs (g : Nat) : List ActIt := [⟨1, 3, none, 0, []⟩, ⟨3, 0, some ⟨g, 0, none⟩, 1, [120]⟩, ⟨4, 5, none, 0, []⟩, ⟨6, 7, none, 0, []⟩]
structure ExAt (w : World) (g : Nat) : Prop where
 row : Reads w w.heap.size 3 (some ⟨g + 1, 0, none⟩) 4 (actsC (exActs g))
 byte : Reads w w.heap.size 1 (some ⟨g, 0, none⟩) 1 (bytesC [120])
theorem ExAt.below {w w' : World} {g : Nat} (h : ExAt w g) (hb : Below w.heap.size w w') : ExAt w' g := ⟨(h.row.below hb).more hb.size, (h.byte.below hb).more hb.size⟩
theorem ExAt.acts {w : World} {g : Nat} (h : ExAt w g) : ∀ a ∈ exActs g, Bytes w w.heap.size (.slice a.A a.bs.length a.c) a.bs /\ a.bs.length <= 140737488355328 := by
 intro a ha
 simp only [exActs, List.mem_cons, List.not_mem_nil, or_false] at ha
 rcases ha with rfl | rfl | rfl | rfl
 · exact ⟨Bytes.nil _ _, by decide⟩
 · exact ⟨⟨_, _, rfl, Nat.le_refl _, (show 1 <= maxLen by decide), fun e => by simp at e, h.byte⟩, (show 1 <= 140737488355328 by decide)⟩
 · exact ⟨Bytes.nil _ _, by decide⟩
 · exact ⟨Bytes.nil _ _, by decide⟩
theorem addr0 (g j : Nat) : (⟨g, 0, none⟩ : Addr).add j = ⟨g, j, none⟩ := by unfold Addr.add; split <;> simp_all
theorem reads_blk {w : World} {g n size : Nat} {t : TypeId} {fr : Nat × Nat} {cs : Array Value} {xs : List Value} (h : w.heap[g]? = some (.cells cs t fr)) (hx : cs.toList = xs) (hn : xs.length = n * size) : Reads w w.heap.size size (some ⟨g, 0, none⟩) n xs := by
 refine ⟨hn, fun _ => ⟨_, rfl, (Array.getElem?_eq_some_iff.1 h).1, fun j u hu => ?_⟩⟩
 rw [addr0, cell_of_row w g j cs t fr h, <- hu, <- hx, Array.getElem?_toList]
theorem two_new (w : World) (v : Nat) (hv : w.heap.size = v) (bc : Array Value) (hbc : bc.toList = bytesC [97, 98, 99, 100]) (w2 : World)
 (h : Below ((w.alloc (.cells #[.string ⟨#[97]⟩] 9)).alloc (.cells bc 5 (4, 5))).heap.size ((w.alloc (.cells #[.string ⟨#[97]⟩] 9)).alloc (.cells bc 5 (4, 5))) w2) :
 Reads w2 w2.heap.size 1 (some ⟨v, 0, none⟩) 1 (strsC [⟨#[97]⟩]) /\ Reads w2 w2.heap.size 1 (some ⟨v + 1, 0, none⟩) 4 (bytesC [97, 98, 99, 100]) /\ Below w.heap.size w w2 := by
 have k1 : Blk w2 v 9 #[.string ⟨#[97]⟩] := by
  have := ((Blk.new w 9 #[.string ⟨#[97]⟩]).alloc (.cells bc 5 (4, 5))).on h
  rwa [hv] at this
 have k2 : w2.heap[v + 1]? = some (.cells bc 5 (4, 5)) := by
  rw [h.block _ (by simp; omega)]
  have := heap_alloc_new (w.alloc (.cells #[.string ⟨#[97]⟩] 9)) (.cells bc 5 (4, 5))
  rwa [World.size_alloc, hv] at this
 exact ⟨reads_blk k1 rfl rfl, reads_blk k2 hbc rfl, (below_box (below_one w _) (Nat.le_refl _) _).trans (h.mono (by simp; omega))⟩
def exIn : List UInt8 := [97, 98, 99, 100]
def exFl : List (Int × Int) := [(2, 0), (1, 1)]
theorem exFits (fl : List (Int × Int)) (g : Nat) (h : fl.length <= 100) : (Flow.first exIn (.slice none 0 0)).pl.FitsAll fl (exActs g) := by
 refine PF.fits_small _ _ (Nat.zero_le _) ?_ ?_ ?_ ⟨0, rfl, ?_⟩
 · intro a ha
   simp only [exActs, List.mem_cons, List.not_mem_nil, or_false] at ha
   rcases ha with rfl | rfl | rfl | rfl <;> (dsimp only; exact ⟨by decide, by decide⟩)
 · show 0 + (fl.length - 0) + 4 + 5 + 2 < _
   omega
 · intro b
   show 0 + 4 + 5 <= _
   omega
 · have e : PF.held_ (exActs g) = 5 := by simp [PF.held_, exActs]; decide
   rw [e]
   decide
theorem exKinds (g : Nat) : ∀ a ∈ exActs g, -9223372036854775808 <= a.k /\ a.k <= 9223372036854775807 := by
 intro a ha
 simp only [exActs, List.mem_cons, List.not_mem_nil, or_false] at ha
 rcases ha with rfl | rfl | rfl | rfl <;> (dsimp only; exact ⟨by decide, by decide⟩)
theorem ex1 (g : Nat) : ∃ S : PF, PF.acts [] (Flow.first exIn (.slice none 0 0)).pl (exActs g) = (S, 7) /\ S.said true = [97, 98, 99] /\ S.said false = [120] /\ S.steps = 3 /\ S.peak = 5 /\ S.used = 0 :=
 ⟨(PF.acts [] (Flow.first exIn (.slice none 0 0)).pl (exActs g)).1, by kernel_rfl, by kernel_rfl, by kernel_rfl, by kernel_rfl, by kernel_rfl, by kernel_rfl⟩
theorem ex1_run (w : World) (a b g : Nat) (hx : ExAt w g) (ha : Reads w w.heap.size 1 (some ⟨a, 0, none⟩) 1 (strsC [⟨#[97]⟩])) (hb : Reads w w.heap.size 1 (some ⟨b, 0, none⟩) 4 (bytesC exIn)) :
 Calls Tryz.prog 6 #[.agg #[.slice (some ⟨a, 0, none⟩) 1 1, .slice none 0 0, .string ⟨#[]⟩, .slice (some ⟨b, 0, none⟩) 4 4, .slice none 0 0, .int .i64 8, .int .i64 9, .int .i64 10, .slice none 0 0, .int .i64 0, .slice none 0 0], .slice (some ⟨g + 1, 0, none⟩) 4 4] w fun e w' => ∃ Ao co Ae ce, e = .returned (.tuple #[.agg #[.slice Ao 3 co, .slice Ae 1 ce, .int .i64 7, .slice none 0 0, .int .i64 3, .int .i64 5, .int .i64 0], .bool true]) /\
  Reads w' w'.heap.size 1 Ao 3 (bytesC [97, 98, 99]) /\ Reads w' w'.heap.size 1 Ae 1 (bytesC [120]) /\ Below w.heap.size w w' := by
 obtain ⟨S, h1, h2, h3, h4, h5, h6⟩ := ex1 g
 refine (runActs_any w (some ⟨a, 0, none⟩) 1 1 [⟨#[97]⟩] ha rfl (Nat.le_refl _) (by decide) (some ⟨b, 0, none⟩) 4 4 exIn rfl ⟨_, _, rfl, Nat.le_refl _, by decide, fun e => by simp at e, hb⟩ (by decide) 8 9 10 ⟨by decide, by decide, by decide, by decide, by decide⟩ none 0 0 [] rfl ⟨none, 0, rfl, Nat.le_refl _, by decide, fun _ => rfl, Reads.none_⟩ (by decide)
  (some ⟨g + 1, 0, none⟩) 4 4 (exActs g) rfl hx.row (by decide) hx.acts (exKinds g) (exFits [] g (by decide)) S 7 h1 (fun b => by cases b; rw [h3]; decide; rw [h2]; decide)).mono ?_
 rintro e w' ⟨Ao, co, Ae, ce, he, ho, hq, hbel⟩
 rw [h2, h3, h4, h5, h6] at he
 rw [h2] at ho
 rw [h3] at hq
 obtain ⟨_, _, e1, _, _, r1⟩ := own_slice ho
 cases e1
 obtain ⟨_, _, e2, _, _, r2⟩ := own_slice hq
 cases e2
 exact ⟨Ao, co, Ae, ce, he, r1, r2, hbel⟩
theorem ex2 (g : Nat) : ∃ S : PF, PF.acts exFl (Flow.first exIn (.slice none 0 0)).pl (exActs g) = (S, 7) /\ S.said true = [97] /\ S.said false = [120] /\ S.steps = 4 /\ S.peak = 5 /\ S.used = 2 :=
 ⟨(PF.acts exFl (Flow.first exIn (.slice none 0 0)).pl (exActs g)).1, by kernel_rfl, by kernel_rfl, by kernel_rfl, by kernel_rfl, by kernel_rfl, by kernel_rfl⟩
theorem ex2_run (w : World) (a b c g : Nat) (hx : ExAt w g) (ha : Reads w w.heap.size 1 (some ⟨a, 0, none⟩) 1 (strsC [⟨#[97]⟩])) (hb : Reads w w.heap.size 1 (some ⟨b, 0, none⟩) 4 (bytesC exIn)) (hf : Faults w (.slice (some ⟨c, 0, none⟩) 2 2) exFl) :
 Calls Tryz.prog 6 #[.agg #[.slice (some ⟨a, 0, none⟩) 1 1, .slice none 0 0, .string ⟨#[]⟩, .slice (some ⟨b, 0, none⟩) 4 4, .slice none 0 0, .int .i64 8, .int .i64 9, .int .i64 10, .slice (some ⟨c, 0, none⟩) 2 2, .int .i64 0, .slice none 0 0], .slice (some ⟨g + 1, 0, none⟩) 4 4] w fun e w' => ∃ Ao co Ae ce, e = .returned (.tuple #[.agg #[.slice Ao 1 co, .slice Ae 1 ce, .int .i64 7, .slice none 0 0, .int .i64 4, .int .i64 5, .int .i64 2], .bool true]) /\
  Reads w' w'.heap.size 1 Ao 1 (bytesC [97]) /\ Reads w' w'.heap.size 1 Ae 1 (bytesC [120]) /\ Below w.heap.size w w' := by
 obtain ⟨S, h1, h2, h3, h4, h5, h6⟩ := ex2 g
 refine (runActs_any w (some ⟨a, 0, none⟩) 1 1 [⟨#[97]⟩] ha rfl (Nat.le_refl _) (by decide) (some ⟨b, 0, none⟩) 4 4 exIn rfl ⟨_, _, rfl, Nat.le_refl _, by decide, fun e => by simp at e, hb⟩ (by decide) 8 9 10 ⟨by decide, by decide, by decide, by decide, by decide⟩ (some ⟨c, 0, none⟩) 2 2 exFl rfl hf (by decide)
  (some ⟨g + 1, 0, none⟩) 4 4 (exActs g) rfl hx.row (by decide) hx.acts (exKinds g) (exFits exFl g (by decide)) S 7 h1 (fun b => by cases b; rw [h3]; decide; rw [h2]; decide)).mono ?_
 rintro e w' ⟨Ao, co, Ae, ce, he, ho, hq, hbel⟩
 rw [h2, h3, h4, h5, h6] at he
 rw [h2] at ho
 rw [h3] at hq
 obtain ⟨_, _, e1, _, _, r1⟩ := own_slice ho
 cases e1
 obtain ⟨_, _, e2, _, _, r2⟩ := own_slice hq
 cases e2
 exact ⟨Ao, co, Ae, ce, he, r1, r2, hbel⟩
set_option maxHeartbeats 6000000 in
theorem awake_any (W : World) : Calls Tryz.prog 5 #[] W fun e w' => e = .returned (.bool true) /\ Below W.heap.size W w' := by
 have hcv := fun (w : World) (C : Array Value) (n c : Nat) => Lib.run_convert_bytes_const (P := Tryz.prog) w 23 5 C n c Tryz.underlying23 Tryz.underlying5
 go_enter Tryz.func5, Tryz.ntmps5
 go_upto_region 2 with fail
 obtain ⟨V, hV⟩ : ∃ V, (W.alloc (.cells #[.int .u8 120] 5 (1, 2))).alloc (.cells #[.int .i64 1, .int .i64 3, .slice none 0 0, .int .i64 3, .int .i64 0, .slice (some ⟨W.heap.size, 0, none⟩) 1 1, .int .i64 4, .int .i64 5, .slice none 0 0, .int .i64 6, .int .i64 7, .slice none 0 0] 34) = V := ⟨_, rfl⟩
 have bV : Below W.heap.size W V := by rw [<- hV]; exact below_box (below_one W _) (Nat.le_refl _) _
 have xV : ExAt V W.heap.size := by
  have k1 : V.heap[W.heap.size]? = some (.cells #[.int .u8 120] 5 (1, 2)) := by
   rw [<- hV, Below.heap_alloc _ _ _ (by simp)]
   exact heap_alloc_new W _
  have k2 : Blk V (W.heap.size + 1) 34 #[.int .i64 1, .int .i64 3, .slice none 0 0, .int .i64 3, .int .i64 0, .slice (some ⟨W.heap.size, 0, none⟩) 1 1, .int .i64 4, .int .i64 5, .slice none 0 0, .int .i64 6, .int .i64 7, .slice none 0 0] := by
   rw [<- hV]
   have := Blk.new (W.alloc (.cells #[.int .u8 120] 5 (1, 2))) 34 #[.int .i64 1, .int .i64 3, .slice none 0 0, .int .i64 3, .int .i64 0, .slice (some ⟨W.heap.size, 0, none⟩) 1 1, .int .i64 4, .int .i64 5, .slice none 0 0, .int .i64 6, .int .i64 7, .slice none 0 0]
   simpa using this
  exact ⟨reads_blk k2 rfl rfl, reads_blk k1 rfl rfl⟩
 rw [hV]
 clear hV
 obtain ⟨g, hg⟩ : ∃ g, W.heap.size = g := ⟨_, rfl⟩
 rw [hg] at xV bV ⊢
 obtain ⟨v, hv⟩ : ∃ v, V.heap.size = v := ⟨_, rfl⟩
 have hc1 := hcv (V.alloc (.cells #[.string ⟨#[97]⟩] 9)) #[.int .u8 97, .int .u8 98, .int .u8 99, .int .u8 100] 4 4
 rw [World.size_alloc, hv] at hc1
 have hsz1 : ∀ o, (V.alloc o).heap.size = v + 1 := fun o => by rw [World.size_alloc, hv]
 have XV := Lib.hid xV
 have BV := Lib.hid bV
 have hcv2 := hcv
 clear xV bV hcv
 go_upto_region 3 with (first
  | (refine wpList_store_blk rfl 36 (.tmp 2) (.tmp 23) rfl w2.heap.size 36 #[.slice none 0 0, .slice none 0 0, .int .i64 0, .slice none 0 0, .int .i64 0, .int .i64 0, .int .i64 0] #[.slice A2 3 c2, .slice E2 1 d2, .int .i64 7, .slice none 0 0, .int .i64 3, .int .i64 5, .int .i64 0] rfl rfl (Blk.new w2 _ _) rfl (by kernel_rfl) (by kernel_rfl) ?_
     intro w3 q3 g3
     have bb3 : Below w2.heap.size w2 w3 := (below_one w2 _).grown g3 (by simp) (fun k hk => by cases hk; exact Nat.le_refl _))
  | (go_at_call 6; refine (ex1_run w1 v (v + 1) g x1 s1 i1).mono ?_; rintro e w2 ⟨A2, c2, E2, d2, rfl, ro2, re2, bb2⟩)
  | (go_at_call 10; refine (lim_any _).mono ?_; rintro e w1 ⟨rfl, hl1⟩
     obtain ⟨s1, i1, bb1⟩ := two_new V v hv #[.int .u8 97, .int .u8 98, .int .u8 99, .int .u8 100] rfl w1 hl1
     have x1 := XV.out.below bb1))
 obtain ⟨v3, hv3⟩ : ∃ v3, w3.heap.size = v3 := ⟨_, rfl⟩
 have hc3 := hcv2 (w3.alloc (.cells #[.string ⟨#[97]⟩] 9)) #[.int .u8 97, .int .u8 98, .int .u8 99, .int .u8 100] 4 4
 rw [World.size_alloc, hv3] at hc3
 have hsz3 : ∀ o, (w3.alloc o).heap.size = v3 + 1 := fun o => by rw [World.size_alloc, hv3]
 have x3 := x1.below (bb2.trans (bb3.mono bb2.size))
 have b3 : Below W.heap.size W w3 := by rw [hg]; exact ((BV.out.trans (bb1.mono (by have := BV.out.size; omega))).trans (bb2.mono (by have := BV.out.size; have := bb1.size; omega))).trans (bb3.mono (by have := BV.out.size; have := bb1.size; have := bb2.size; omega))
 have ro3 := (ro2.below bb3).more bb3.size
 have re3 := (re2.below bb3).more bb3.size
 have B3 := Lib.hid b3
 have X3 := Lib.hid x3
 have Q3 := Lib.hid q3
 have RO3 := Lib.hid ro3
 have RE3 := Lib.hid re3
 clear b3 x3 q3 ro3 re3 ro2 re2 bb3 bb2 bb1 x1 s1 i1 hl1 g3 hc1 hsz1
 go_upto_region 4 with (first
  | (refine wpList_store_blk rfl 36 (.tmp 4) (.tmp 36) rfl w5.heap.size 36 #[.slice none 0 0, .slice none 0 0, .int .i64 0, .slice none 0 0, .int .i64 0, .int .i64 0, .int .i64 0] #[.slice A5 1 c5, .slice E5 1 d5, .int .i64 7, .slice none 0 0, .int .i64 4, .int .i64 5, .int .i64 2] rfl rfl (Blk.new w5 _ _) rfl (by kernel_rfl) (by kernel_rfl) ?_
     intro w6 q6 g6
     have bb6 : Below w5.heap.size w5 w6 := (below_one w5 _).grown g6 (by simp) (fun k hk => by cases hk; exact Nat.le_refl _))
  | (go_at_call 6; refine (ex2_run (w4.alloc (.cells #[.int .i64 2, .int .i64 0, .int .i64 1, .int .i64 1] 44)) v3 (v3 + 1) w4.heap.size g (x4.below (below_one w4 _)) ((s4.below (below_one w4 _)).more (below_one w4 _).size) ((i4.below (below_one w4 _)).more (below_one w4 _).size) ⟨_, _, rfl, Nat.le_refl _, by decide, fun e => by simp at e, reads_blk (Blk.new w4 _ _) rfl rfl⟩).mono ?_; rintro e w5 ⟨A5, c5, E5, d5, rfl, ro5, re5, bb5⟩)
  | (go_at_call 10; refine (lim_any _).mono ?_; rintro e w4 ⟨rfl, hl4⟩
     obtain ⟨s4, i4, bb4⟩ := two_new w3 v3 hv3 #[.int .u8 97, .int .u8 98, .int .u8 99, .int .u8 100] rfl w4 hl4
     have x4 := X3.out.below bb4))
 have bb36 : Below w3.heap.size w3 w6 := below_step (below_step (below_step bb4 (below_one w4 _) (Nat.le_refl _)) bb5 (Nat.le_refl _)) bb6 (Nat.le_refl _)
 have ro6 := (ro5.below bb6).more bb6.size
 have X6 := Lib.hid (X3.out.below bb36)
 have B6 := Lib.hid (below_step B3.out bb36 (Nat.le_refl _))
 have BB36 := Lib.hid bb36
 have Q6 := Lib.hid q6
 have RO6 := Lib.hid ro6
 clear bb36 q6 ro6 ro5 re5 bb6 bb5 bb4 x4 s4 i4 hl4 g6 hc3 hsz3
 obtain ⟨S0, hS0⟩ : ∃ S, strB [97, 98, 99] = S := ⟨_, rfl⟩
 obtain ⟨S1, hS1⟩ : ∃ S, strB [120] = S := ⟨_, rfl⟩
 obtain ⟨S2, hS2⟩ : ∃ S, strB [97] = S := ⟨_, rfl⟩
 have f0 : (S0.toList == [97, 98, 99]) = true := by rw [<- hS0, strB_toList]; rfl
 have f1 : (S1.toList == [120]) = true := by rw [<- hS1, strB_toList]; rfl
 have f2 : (S2.toList == [97]) = true := by rw [<- hS2, strB_toList]; rfl
 have H0 := Lib.hid hS0
 have H1 := Lib.hid hS1
 have H2 := Lib.hid hS2
 clear hS0 hS1 hS2
 go_wp2_with (first
  | (refine wpList_store_blk rfl 36 (.tmp 6) (.tmp 42) rfl w7.heap.size 36 #[.slice none 0 0, .slice none 0 0, .int .i64 0, .slice none 0 0, .int .i64 0, .int .i64 0, .int .i64 0] #[.slice none 0 0, .slice none 0 0, .int .i64 0, .slice none 0 0, .int .i64 0, .int .i64 0, .int .i64 0] rfl rfl (Blk.new w7 _ _) rfl (by kernel_rfl) (by kernel_rfl) ?_
     intro w8 q8 g8
     have bb68 : Below w6.heap.size w6 w8 := below_step bb7 ((below_one w7 _).grown g8 (by simp) (fun k hk => by cases hk; exact Nat.le_refl _)) (Nat.le_refl _)
     have bb38 : Below w3.heap.size w3 w8 := below_step BB36.out bb68 (Nat.le_refl _)
     have r3 := Blk.on Q3.out bb38
     have r6 := Blk.on Q6.out bb68
     have z0 : w8.cell? ⟨w2.heap.size, 0, none⟩ = some (.slice A2 3 c2) := r3.cell 0
     have z1 : w8.cell? ⟨w2.heap.size, 1, none⟩ = some (.slice E2 1 d2) := r3.cell 1
     have z2 : w8.cell? ⟨w2.heap.size, 2, none⟩ = some (.int .i64 7) := r3.cell 2
     have z4 : w8.cell? ⟨w2.heap.size, 4, none⟩ = some (.int .i64 3) := r3.cell 4
     have z5 : w8.cell? ⟨w2.heap.size, 5, none⟩ = some (.int .i64 5) := r3.cell 5
     have y0 : w8.cell? ⟨w5.heap.size, 0, none⟩ = some (.slice A5 1 c5) := r6.cell 0
     have y4 : w8.cell? ⟨w5.heap.size, 4, none⟩ = some (.int .i64 4) := r6.cell 4
     have y6 : w8.cell? ⟨w5.heap.size, 6, none⟩ = some (.int .i64 2) := r6.cell 6
     have t0 : (convert 23 9 (.slice A2 3 c2)).run Tryz.prog w8 = .ok (.string S0) w8 := convOut H0.out rfl (RO3.out.below bb38)
     have t1 : (convert 23 9 (.slice E2 1 d2)).run Tryz.prog w8 = .ok (.string S1) w8 := convOut H1.out rfl (RE3.out.below bb38)
     have t2 : (convert 23 9 (.slice A5 1 c5)).run Tryz.prog w8 = .ok (.string S2) w8 := convOut H2.out rfl (RO6.out.below bb68))
  | (go_at_call 6; refine (runActsNo w6 _ _ _).mono ?_; rintro e w7 ⟨rfl, bb7⟩))
 go_returns
 exact ⟨rfl, below_step B6.out bb68 (Nat.le_refl _)⟩
end
end Go.Proofs.YtffffjngodinnaaGreatDoor
