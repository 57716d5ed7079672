/-
  Parts of the proof.
-/
import Derived.Test.YtffffjngodinnaaGreatDoorV49
namespace Go.Proofs.YtffffjngodinnaaGreatDoor
section
set_option maxRecDepth 100000
open Go.RowKit Go.Maps Go.Shelf
attribute [local go_sem ↓ high] storeHere_eq
section
variable {w : World} {A : Option Addr} {c n : Nat} {EA : Option Addr} {ec en : Nat} {cwd : ByteArray} {IA : Option Addr} {ic m : Nat} {NA : Option Addr} {nc nn : Nat} {buf line run : Int} {FA : Option Addr} {fc fn : Nat} {now : Int} {PA : Option Addr} {pc pn : Nat} {args env : List ByteArray} {inb : List UInt8} {Ls : List NodeIt} {fl : List (Int × Int)} {pks : List Int} {LA : Option Addr} {lc ln : Nat} {l : List ActIt}
theorem mayT_some {R : Option Abs.LS} {b : Bool} {cw : List UInt8} {s : Abs.LS} (h : Abs.mayT R b cw = some s) : R = some s := by
 unfold Abs.mayT at h
 split at h
 · cases h
 · split at h
   · cases h
   · split at h
     · cases h
     · split at h
       · exact h
       · cases h
set_option maxHeartbeats 8000000 in
theorem refRun_yes (h : JobIn w A n EA en cwd IA ic m NA nn FA fc fn PA pn args env inb Ls fl pks) (ha : ActsGiven w LA ln l) (hl : ∀ a ∈ l, stopH a = false) (s : Abs.LS) (hM : Abs.mayT (Abs.LS.init.run (Ls.map NodeIt.nd)) (limBad n buf line run now) cwd.data.toList = some s)
 (S : PF) (st : Int) (hS : PF.acts fl (pf0 inb) l = (S, st)) :
 RefTo w #[.slice A n c, .slice EA en ec, .string cwd, .slice IA m ic, .slice NA nn nc, .int .i64 buf, .int .i64 line, .int .i64 run, .slice FA fn fc, .int .i64 now, .slice PA pn pc] (.slice LA ln lc) true (S.said true).length (S.said false).length s.T.dump.length (S.said true) (S.said false) st s.T.dump (S.steps : Int) S.peak (S.used : Int) := by
 obtain ⟨lo, hlo⟩ : ∃ lo, S.said true = lo := ⟨_, rfl⟩
 obtain ⟨le, hle⟩ : ∃ le, S.said false = le := ⟨_, rfl⟩
 obtain ⟨no, hno⟩ : ∃ no, lo.length = no := ⟨_, rfl⟩
 obtain ⟨ne, hne⟩ : ∃ ne, le.length = ne := ⟨_, rfl⟩
 obtain ⟨dn, hdn⟩ : ∃ dn, s.T.dump.length = dn := ⟨_, rfl⟩
 obtain ⟨sp, hsp⟩ : ∃ sp : Int, (S.steps : Int) = sp := ⟨_, rfl⟩
 obtain ⟨pk, hpk⟩ : ∃ pk : Int, S.peak = pk := ⟨_, rfl⟩
 obtain ⟨us, hus⟩ : ∃ us : Int, (S.used : Int) = us := ⟨_, rfl⟩
 rw [hlo, hle, hno, hne, hdn, hsp, hpk, hus]
 have HLO := Lib.hid hlo
 have HLE := Lib.hid hle
 have HNO := Lib.hid hno
 have HNE := Lib.hid hne
 have HDN := Lib.hid hdn
 have HSP := Lib.hid hsp
 have HPK := Lib.hid hpk
 have HUS := Lib.hid hus
 clear hlo hle hno hne hdn hsp hpk hus
 intro W hW
 have hj := h.on hW
 have hag := ha.on hW
 clear h hW ha
 obtain ⟨g, hg⟩ : ∃ g, W.heap.size = g := ⟨_, rfl⟩
 obtain ⟨Z, hZ⟩ : ∃ Z, (W.alloc (.cells #[.slice A n c, .slice EA en ec, .string cwd, .slice IA m ic, .slice NA nn nc, .int .i64 buf, .int .i64 line, .int .i64 run, .slice FA fn fc, .int .i64 now, .slice PA pn pc] 30)).alloc (.cells #[.slice none 0 0, .slice none 0 0, .int .i64 0, .slice none 0 0, .int .i64 0, .int .i64 0, .int .i64 0] 36) = Z := ⟨_, rfl⟩
 have bZ : Below W.heap.size W Z := by rw [<- hZ]; exact below_box (below_one W _) (Nat.le_refl _) _
 have kJ : Blk Z g 30 #[.slice A n c, .slice EA en ec, .string cwd, .slice IA m ic, .slice NA nn nc, .int .i64 buf, .int .i64 line, .int .i64 run, .slice FA fn fc, .int .i64 now, .slice PA pn pc] := by rw [<- hZ, <- hg]; exact (Blk.new W _ _).alloc _
 have kR : Blk Z (g + 1) 36 #[.slice none 0 0, .slice none 0 0, .int .i64 0, .slice none 0 0, .int .i64 0, .int .i64 0, .int .i64 0] := by rw [<- hZ, <- hg]; exact Blk.newNext W _ _ _
 have hjz := hj.on bZ
 have hagz := hag.on bZ
 have hmay := refMayJ Z A n c (.slice EA en ec) cwd (.slice IA m ic) NA nn nc Ls buf line run (.slice FA fn fc) now (.slice PA pn pc) hjz.cm hjz.nn_ hjz.nm hjz.nr hjz.nodes
 rw [hM] at hmay
 unfold jobC at hmay
 have hrun := mayT_some hM
 have HMAY := Lib.hid hmay
 have HRUN := Lib.hid hrun
 have HJ := Lib.hid hjz
 have HA := Lib.hid hagz
 have HL := Lib.hid hl
 have HS := Lib.hid hS
 have hZs := kR.lt
 have lg := kJ.lt
 rw [hg] at bZ
 have HB := Lib.hid bZ
 have HWG := Lib.hid hg
 have HKR := Lib.hid kR
 have KJ := Lib.hid kJ
 have jsz : (Tryz.prog.info? 30).map (·.size) = some (#[.slice A n c, .slice EA en ec, .string cwd, .slice IA m ic, .slice NA nn nc, .int .i64 buf, .int .i64 line, .int .i64 run, .slice FA fn fc, .int .i64 now, .slice PA pn pc] : Array Value).size := by kernel_rfl
 have JSZ := Lib.hid jsz
 rw [hg]
 clear bZ kJ kR hmay hj hjz hM jsz hrun hag hagz hl hS
 go_enter Tryz.func7, Tryz.ntmps7
 go_upto_region 4 with (first
  | (refine wpList_load_row rfl 30 (.tmp 2) rfl g rfl 30 #[.slice A n c, .slice EA en ec, .string cwd, .slice IA m ic, .slice NA nn nc, .int .i64 buf, .int .i64 line, .int .i64 run, .slice FA fn fc, .int .i64 now, .slice PA pn pc] (0, 0) _ KJ.out Tryz.underlying30 rfl JSZ.out ?_)
  | (go_at_call 14; refine HMAY.out.mono ?_; rintro e w1 ⟨rfl, hb1⟩
     have HR1 := Lib.hid (Blk.on HKR.out hb1)
     have HJ1 := Lib.hid (Blk.on KJ.out hb1)))
 have j1 := HJ.out.on hb1
 have hload := refLoad w1 NA nc nn Ls j1.nn_ j1.nm j1.nr j1.nodes _ HRUN.out
 have q4 : w1.cell? ⟨g, 4, none⟩ = some (.slice NA nn nc) := HJ1.out.cell 4
 have lg1 := HJ1.out.lt
 have HLOAD := Lib.hid hload
 have HB1 := Lib.hid hb1
 clear j1 hload hb1
 go_upto_region 5 with (go_at_call 15; refine HLOAD.out.mono ?_; rintro e w2 ⟨hb2, (⟨e0, _⟩ | ⟨s', tp, bs, hs', hok, rfl, hT⟩)⟩; (· cases e0))
 obtain rfl : s = s' := by cases hs'; rfl
 have hb02 := HB1.out.trans (hb2.mono HB1.out.size)
 have J2 := Blk.on HJ1.out hb2
 have q8 : w2.cell? ⟨g, 8, none⟩ = some (.slice FA fn fc) := J2.cell 8
 have q9 : w2.cell? ⟨g, 9, none⟩ = some (.int .i64 now) := J2.cell 9
 have lg2 := J2.lt
 have R2 := Blk.on HR1.out hb2
 have i2 := HJ.out.on hb02
 have hnew := refKernNew w2 tp FA fc fn fl i2.fn_ (Faults.reads i2.fr) i2.fm now
 have HNEW := Lib.hid hnew
 have HJ2 := Lib.hid J2
 have HR2 := Lib.hid R2
 have HI2 := Lib.hid i2
 have HA2 := Lib.hid (HA.out.on hb02)
 have HT := Lib.hid (And.intro hok hT)
 have HB2 := Lib.hid hb02
 have HW12 := Lib.hid hb2.size
 clear J2 R2 i2 hnew hok hT hs' hb02 hb2 q4 lg1
 go_upto_region 6 with (go_at_call 16; refine HNEW.out.mono ?_; rintro e w3 ⟨k, rfl, hK3, hb3⟩)
 obtain ⟨M, hMd⟩ : ∃ M, w2.heap.size = M := ⟨_, rfl⟩
 rw [hMd] at hK3 hb3
 have hM3 : M <= w3.heap.size := by rw [<- hMd]; exact hb3.size
 have htab := refTable w3 M k tp [] fl 0 now hK3 hM3
 have HTAB := Lib.hid htab
 have HB3 := Lib.hid hb3
 clear htab hK3 hb3 q8 q9
 go_upto_region 7 with (go_at_call 17; refine HTAB.out.mono ?_; rintro e w4 ⟨q, rfl, hK4, hq4, hMq, hb4⟩)
 have hM4 : M <= w4.heap.size := Nat.le_trans hM3 hb4.size
 obtain ⟨V, hV⟩ : ∃ V, w4.alloc (.cells #[.pointer (some ⟨q, 0, none⟩), .int .i64 0, .int .i64 0, .int .i64 0, .int .i64 0, .bool false] 61) = V := ⟨_, rfl⟩
 obtain ⟨r, hr⟩ : ∃ r, w4.heap.size = r := ⟨_, rfl⟩
 have bV : Below w4.heap.size w4 V := by rw [<- hV]; exact below_one w4 _
 have hRS : RSet w2 M k q tp r inb [] 0 0 0 fl now V := ⟨hK4.below bV, Blk.on hq4 bV, by rw [<- hV, <- hr]; exact Blk.new w4 _ _, HB3.out.trans (hb4.trans (bV.mono hM4)), Nat.le_trans hM4 bV.size, ⟨hMq, by rw [<- hr]; exact hM4, by simp⟩, by simp, by simp, by simp, by simp⟩
 rw [hV, hr]
 clear hV hr bV hK4 hq4 hMq hb4 hM4 hM3
 have hMg : g + 1 < M := by rw [<- hMd]; exact HR2.out.lt
 have hst : ∀ U xs a b d, RSet w2 M k q tp r inb xs a b d fl now U -> U.cell? ⟨r, 0, none⟩ = some (.pointer (some ⟨q, 0, none⟩)) /\ U.cell? ⟨g, 3, none⟩ = some (.slice IA m ic) /\ r < U.heap.size /\ g < U.heap.size := fun U xs a b d hU => by
  have hb := hU.below
  rw [<- hMd] at hb
  have j := Blk.on HJ2.out hb
  exact ⟨hU.run.cell 0, j.cell 3, hU.run.lt, j.lt⟩
 have hsrc : ∀ U, RSet w2 M k q tp r inb [] 0 0 0 fl now U -> Calls Tryz.prog 19 #[.pointer (some ⟨k, 0, none⟩), .slice IA m ic] U fun e w' => e = .returned (.int .i64 1) /\ ∃ x, RSet w2 M k q tp r inb [x] 0 0 0 fl now w' := fun U hU => by
  have hb := hU.below
  rw [<- hMd] at hb
  have j := HI2.out.on hb
  obtain ⟨A', c', e, _, _, _, hrd⟩ := j.ir
  rw [j.in_] at e hrd
  cases e
  exact hU.source IA ic m j.in_ hrd j.im
 have hput0 : ∀ U x, RSet w2 M k q tp r inb [x] 0 0 0 fl now U -> Calls Tryz.prog 18 #[.pointer (some ⟨q, 0, none⟩), .int .i64 0, .int .i64 1] U fun e w' => e = .returned (.int .i64 0) /\ RSet w2 M k q tp r inb [x] 1 0 0 fl now w' := fun U x hU => hU.put (by simp) 0 0 x 1 0 0 (by decide) rfl (tab_ints k 0 0 0) rfl rfl
 have hput1 : ∀ U x y z, RSet w2 M k q tp r inb [x, y, z] 1 0 0 fl now U -> Calls Tryz.prog 18 #[.pointer (some ⟨q, 0, none⟩), .int .i64 1, .int .i64 2] U fun e w' => e = .returned (.int .i64 0) /\ RSet w2 M k q tp r inb [x, y, z] 1 2 0 fl now w' := fun U x y z hU => hU.put (by simp) 1 1 y 1 2 0 (by decide) rfl (tab_ints k 1 0 0) rfl rfl
 have hput2 : ∀ U x y z, RSet w2 M k q tp r inb [x, y, z] 1 2 0 fl now U -> Calls Tryz.prog 18 #[.pointer (some ⟨q, 0, none⟩), .int .i64 2, .int .i64 3] U fun e w' => e = .returned (.int .i64 0) /\ RSet w2 M k q tp r inb [x, y, z] 1 2 3 fl now w' := fun U x y z hU => hU.put (by simp) 2 2 z 1 2 3 (by decide) rfl (tab_ints k 1 2 0) rfl rfl
 have HST := Lib.hid hst
 have HSRC := Lib.hid hsrc
 have HP0 := Lib.hid hput0
 have HP1 := Lib.hid hput1
 have HP2 := Lib.hid hput2
 have HRS := Lib.hid hRS
 obtain ⟨r0, g3, lr, lgV⟩ := hst V _ _ _ _ hRS
 have HMD := Lib.hid hMd
 clear hst hsrc hput0 hput1 hput2 hRS lg2 hMd
 have hRSd : RSet w2 M k q tp r inb [] 0 0 0 fl now V.drew := HRS.out.on (below_drewN' (Below.refl _ _))
 go_region_held3 (fun U => U.cell? ⟨r, 0, none⟩ = some (.pointer (some ⟨q, 0, none⟩)) /\ U.cell? ⟨g, 3, none⟩ = some (.slice IA m ic))
  (first | (go_split_ands; refine ⟨?_, ?_⟩ <;> assumption) | go_keep)
  (first
  | (go_at_call 19; refine (HSRC.out _ hRSd).mono ?_; rintro e5 w5 ⟨rfl, x0, hR5⟩
     obtain ⟨r05, g35, lr5, lg5⟩ := HST.out _ _ _ _ _ hR5)
  | (go_at_call 18; refine (HP0.out _ _ hR5).mono ?_; rintro e6 w6 ⟨rfl, hR6⟩
     obtain ⟨r06, g36, lr6, lg6⟩ := HST.out _ _ _ _ _ hR6))
 have HR6 := Lib.hid hR6
 clear hR6 hR5 hRSd r05 g35 lr5 lg5
 go_upto_region 9 with (go_at_call 20; refine (HR6.out.sink (.inl rfl)).mono ?_; rintro e7 w7 ⟨rfl, x1, hR7⟩)
 have HR7 := Lib.hid hR7
 clear hR7
 go_upto_region 10 with (go_at_call 20; refine (HR7.out.sink (.inr rfl)).mono ?_; rintro e8 w8 ⟨rfl, x2, hR8⟩; obtain ⟨r08, g38, lr8, lg8⟩ := HST.out _ _ _ _ _ hR8)
 have HR8 := Lib.hid hR8
 clear hR8
 go_upto_region 11 with (go_at_call 18; refine (HP1.out _ _ _ _ HR8.out).mono ?_; rintro e9 w9 ⟨rfl, hR9⟩; obtain ⟨r09, g39, lr9, lg9⟩ := HST.out _ _ _ _ _ hR9)
 have HR9 := Lib.hid hR9
 clear hR9
 go_upto_region 12 with (go_at_call 18; refine (HP2.out _ _ _ _ HR9.out).mono ?_; rintro eA wA ⟨rfl, hRA⟩)
 have hbA := hRA.below
 have hflm : fl.length <= 1048576 := by rw [HI2.out.fn_]; exact HI2.out.fm
 have hready := hRA.ready hflm
 have hLoop : RLoop w2 M k q tp r x0 x1 x2 fl now l (S, st) 0 (pf0 inb) 0 false wA := by
  have hb := HA2.out.bulk
  have hhl := PF.held_le l HL.out
  have hm := HA2.out.most
  have him := HI2.out.im
  have hin := HI2.out.in_
  rw [HA2.out.len] at hhl
  refine ⟨hready, hbA, .inr ⟨rfl, rfl, HS.out⟩, ?_, fun b => ?_, ?_, 0, rfl, ?_⟩
  · show 0 + (fl.length - 0) + inb.length + PF.bulk l + 2 < _
    omega
  · show 0 + inb.length + PF.bulk l <= _
    omega
  · show inb.length <= _
    omega
  · show ((0 : Nat) : Int) + PF.held_ l < _
    omega
 have HLP := Lib.hid hLoop
 have hln := HA2.out.len
 have hlm := HA2.out.most
 clear hLoop hready hbA hRA hflm HST HSRC HP0 HP1 HP2
 go_wp2_with fail
 go_loopw [13] (fun iv wr => ∃ (i : Nat) (S' : PF) (st' : Int) (ov : Bool), i <= ln /\ iv = .int .i64 (i : Int) /\ Hid (RLoop w2 M k q tp r x0 x1 x2 fl now l (S, st) i S' st' ov wr)) (fun iv _ => ln - (intOf iv).toNat)
 case atStart => exact ⟨0, _, 0, false, Nat.zero_le _, rfl, HLP⟩
 case round =>
  obtain ⟨i, S', st', ov, hi, rfl, HLR⟩ := hrel
  have r5 : wr.cell? ⟨r, 5, none⟩ = some (.bool ov) := HLR.out.run.run.cell 5
  have lrW := HLR.out.run.run.lt
  have hbW : Below w2.heap.size w2 wr := by rw [HMD.out]; exact HLR.out.below
  by_cases hgo : i < ln /\ ov = false
  · obtain ⟨hlt, rfl⟩ := hgo
    obtain ⟨a, ha⟩ : ∃ a, l[i]? = some a := ⟨_, List.getElem?_eq_getElem (by rw [hln]; exact hlt)⟩
    have hmem : a ∈ l := List.mem_of_getElem? ha
    have hstill : Still wr M a.A a.bs.length a.c a.bs := by
     obtain ⟨A', c', e, hc1, _, _, hrd⟩ := (HA2.out.bytes a hmem).1
     cases e
     refine Still.of_reads rfl hc1 ?_ HLR.out.run.low.2
     rw [<- HMD.out]
     exact hrd.below hbW
    have hdo := HLR.out.does a ha hstill (HA2.out.nums a hmem)
    obtain ⟨gb, off, hLA, hgb, hc⟩ := reads_flat (HA2.out.row.below hbW) (by intro e; have := HA2.out.row.1; rw [e] at this; simp at this; omega)
    have hra : wr.rangeAt gb (off + i * 3) (actC a) := fun j v hv => by
     have hj : j < 3 := (List.getElem?_eq_some_iff.1 hv).1
     have := hc _ _ ((actsC_at ha j hj).trans hv)
     rwa [<- Nat.add_assoc] at this
    have hgl : gb < wr.heap.size := by have := hbW.size; omega
    have hi0 : (0 : Int) <= (i : Int) := by omega
    have hi1 : (i : Int) < (ln : Int) := by omega
    unfold actC at hra
    obtain ⟨ak, an, aA, ac, ab⟩ := a
    dsimp only at hra hdo
    obtain ⟨bl, hbl⟩ : ∃ bl, ab.length = bl := ⟨_, rfl⟩
    rw [hbl] at hra hdo
    have HDO := Lib.hid hdo
    subst hLA
    clear hc ha hmem hstill hdo hbl hbW hgb
    go_wp2_with (first
     | (refine wpList_load_mid rfl _ _ rfl gb (off + i * 3) rfl [.int .i64 ak, .int .i64 an, .slice aA bl ac] _ hra Tryz.underlying34 rfl (by kernel_rfl) ?_)
     | (go_at_call 21; refine HDO.out.mono ?_; rintro e w' ⟨rfl, S2, st2, ov2, hL2⟩))
    refine ⟨⟨i + 1, S2, st2, ov2, by omega, congrArg _ (by omega), Lib.hid hL2⟩, ?_⟩
    simp only [intOf]
    omega
  · have hR : (S', st') = (S, st) := by
     rcases HLR.out.ends with ⟨_, e⟩ | ⟨e1, rfl, e2⟩
     · exact e
     · have hil : ¬ i < l.length := by rw [hln]; intro e; exact hgo ⟨e, e1⟩
       rw [List.drop_eq_nil_iff.2 (by omega)] at e2
       exact e2
    obtain ⟨rfl, rfl⟩ : S' = S /\ st' = st := by cases hR; exact ⟨rfl, rfl⟩
    have hrun := HLR.out.run
    obtain ⟨v1, hx1, ho1⟩ := hrun.rk.out
    obtain ⟨v2, hx2, ho2⟩ := hrun.rk.err
    have hlo := HLO.out
    have hle := HLE.out
    have hno := HNO.out
    have hne := HNE.out
    have hdn := HDN.out
    have hsp := HSP.out
    have hpk := HPK.out
    have hus := HUS.out
    rw [hlo, hno] at ho1
    rw [hle, hne] at ho2
    obtain ⟨Ao, co, rfl, _, _⟩ := ho1.form
    obtain ⟨Ae, ce, rfl, _, _⟩ := ho2.form
    have hcells : ∀ U, Below wr.heap.size wr U -> U.cell? ⟨r, 4, none⟩ = some (.int .i64 st') /\ U.cell? ⟨r, 1, none⟩ = some (.int .i64 sp) /\ U.cell? ⟨r, 3, none⟩ = some (.int .i64 pk) /\ U.cell? ⟨k, 4, none⟩ = some (.int .i64 us) /\ r < U.heap.size /\ k < U.heap.size := fun U hU => by
     obtain ⟨hu, _⟩ := hrun.below hU
     obtain ⟨lv, tv, fv, hk, _⟩ := hu.rk.kern.mem
     rw [hus] at hk
     have hr := hu.run
     rw [hsp, hpk] at hr
     exact ⟨hr.cell 4, hr.cell 1, hr.cell 3, hk.cell 4, hr.lt, hk.lt⟩
    have hs1 : ∀ U, Below wr.heap.size wr U -> Calls Tryz.prog 22 #[.pointer (some ⟨k, 0, none⟩), .int .i64 2] U fun e w' => e = .returned (.slice Ao no co) /\ w' = U := fun U hU => refSaid (hrun.rk.kern.below hU) (by simp) 1 x1 rfl _ (Blk.on hx1 hU)
    have hs2 : ∀ U, Below wr.heap.size wr U -> Calls Tryz.prog 22 #[.pointer (some ⟨k, 0, none⟩), .int .i64 3] U fun e w' => e = .returned (.slice Ae ne ce) /\ w' = U := fun U hU => refSaid (hrun.rk.kern.below hU) (by simp) 2 x2 rfl _ (Blk.on hx2 hU)
    have hdump : ∀ U, Below wr.heap.size wr U -> Calls Tryz.prog 23 #[.pointer (some ⟨tp, 0, none⟩)] U fun e w' => ∃ An cn Ns w5, e = .returned (.slice An dn cn) /\ Below U.heap.size U w' /\ (storeHere 36 (.pointer (some ⟨g + 1, 0, none⟩)) (.agg #[.slice Ao no co, .slice Ae ne ce, .int .i64 st', .slice An dn cn, .int .i64 sp, .int .i64 pk, .int .i64 us])).run Tryz.prog w' = .ok () w5 /\
     Blk w5 (g + 1) 36 #[.slice Ao no co, .slice Ae ne ce, .int .i64 st', .slice An dn cn, .int .i64 sp, .int .i64 pk, .int .i64 us] /\ ResTells w5 Ao no Ae ne An dn lo le Ns /\ Ns.map NodeIt.nd = s.T.dump /\ Below W.heap.size W w5 /\ w5.cell? ⟨r, 4, none⟩ = some (.int .i64 st') /\ w5.cell? ⟨r, 1, none⟩ = some (.int .i64 sp) /\ w5.cell? ⟨r, 3, none⟩ = some (.int .i64 pk) /\ w5.cell? ⟨k, 4, none⟩ = some (.int .i64 us) /\ r < w5.heap.size /\ k < w5.heap.size := fun U hU => by
     have hbU : Below w2.heap.size w2 U := below_thru hbW hU
     refine (refDumpT U w1.heap.size tp s nn HT.out.1 bs (HT.out.2.below hbU) HI2.out.nm).mono ?_
     rintro e w' ⟨v, Ns, rfl, hN, hD, hbd⟩
     have hl2 : Ns.length = dn := by rw [<- hdn, <- hD, List.length_map]
     have hrow := hN.row
     rw [hl2] at hrow
     obtain ⟨An, cn, rfl, hc1, hc2, _⟩ := own_slice hrow
     have hz := Blk.on (Blk.on HR2.out hbU) hbd
     obtain ⟨w5, hst5, b5, g5⟩ := run_storeHere (P := Tryz.prog) 36 #[.slice Ao no co, .slice Ae ne ce, .int .i64 st', .slice An dn cn, .int .i64 sp, .int .i64 pk, .int .i64 us] hz (by rfl) (by kernel_rfl) (by kernel_rfl)
     have hUW := hU.size
     have hbs := hbd.size
     have hlow := hrun.low.2
     have hk5 : ∀ b, b < w'.heap.size -> b ≠ g + 1 -> w5.heap[b]? = w'.heap[b]? := fun b hb hne => g5.block b hb (by intro e; cases e; exact hne rfl)
     have hkW : ∀ b, M <= b -> b < wr.heap.size -> w5.heap[b]? = wr.heap[b]? := fun b hb hlt => ((hk5 b (by omega) (by omega)).trans (hbd.block b (by omega))).trans (hU.block b hlt)
     have hN5 := nodes_keep hN fun b hb hlt => hk5 b hlt (by omega)
     have hr5 := hN5.row
     rw [hl2] at hr5
     obtain ⟨A1, c1, e1, _, rd1⟩ := (ho1.same fun b hb => hkW b (ho1.lt hb).1 (ho1.lt hb).2).form
     cases e1
     obtain ⟨A2, c2, e2, _, rd2⟩ := (ho2.same fun b hb => hkW b (ho2.lt hb).1 (ho2.lt hb).2).form
     cases e2
     obtain ⟨hu, _⟩ := hrun.below (below_thru hU hbd)
     obtain ⟨lv, tv, fv, hkk, _⟩ := hu.rk.kern.mem
     rw [hus] at hkk
     have hrr := hu.run
     rw [hsp, hpk] at hrr
     have hr1 := hu.low.1
     have hk1 := hu.rk.kern.low
     have br5 := (hk5 r hrr.lt (by omega)).trans hrr
     have bk5 := (hk5 k hkk.lt (by omega)).trans hkk
     refine ⟨An, cn, Ns, w5, rfl, hbd, hst5, b5, ⟨hno, hne, hl2, (own_reads hr5).2, rd1, rd2, (own_reads hr5).1, fun x hx => (own_reads (hN5.data x hx)).1⟩, hD, ?_, Blk.cell br5 4, Blk.cell br5 1, Blk.cell br5 3, Blk.cell bk5 4, Blk.lt br5, Blk.lt bk5⟩
     have hg1 := HMD.out
     rw [HWG.out]
     exact (((HB.out.trans (HB2.out.mono (Nat.le_of_lt lg))).trans (hbU.mono (by omega))).trans (hbd.mono (by omega))).grown g5 (by omega) (fun k hk => by cases hk; omega)
    have HC := Lib.hid hcells
    have HS1 := Lib.hid hs1
    have HS2 := Lib.hid hs2
    have HD := Lib.hid hdump
    obtain ⟨k4, k1, k3, kk, lr', lk'⟩ := hcells wr (Below.refl _ _)
    have hgo' : i = ln \/ (i < ln /\ ov = true) := by
     rcases Nat.lt_or_ge i ln with h1 | h1
     · exact .inr ⟨h1, by cases ov with
        | true => rfl
        | false => exact absurd ⟨h1, rfl⟩ hgo⟩
     · exact .inl (by omega)
    have bd : Below wr.heap.size wr wr.drew := below_drewN' (Below.refl _ _)
    clear hcells hs1 hs2 hdump hgo hrun hx1 hx2 ho1 ho2 hno hne hdn hsp hpk hus hlo hle hR hbW
    rcases hgo' with rfl | ⟨hlt, rfl⟩
    all_goals
     go_upto_region 16 with fail
     go_region_held3 (fun U => U.cell? ⟨r, 4, none⟩ = some (.int .i64 st') /\ U.cell? ⟨r, 1, none⟩ = some (.int .i64 sp) /\ U.cell? ⟨r, 3, none⟩ = some (.int .i64 pk) /\ U.cell? ⟨k, 4, none⟩ = some (.int .i64 us))
      (first | (go_split_ands; refine ⟨?_, ?_, ?_, ?_⟩ <;> assumption) | go_keep)
      (first
      | (go_at_call 22; have hq2 := HS1.out _ bd; (with_reducible refine hq2.mono ?_); clear hq2; rintro e5 w6 ⟨rfl, rfl⟩)
      | (go_at_call 22; have hq2 := HS2.out _ bd; (with_reducible refine hq2.mono ?_); clear hq2; rintro e5 w6 ⟨rfl, rfl⟩)
      | (go_at_call 23; have hq2 := HD.out _ bd; (with_reducible refine hq2.mono ?_); clear hq2; rintro e6 w7 ⟨An, cn, Ns, w5, rfl, hb7, hst5, hb5, hT5, hD5, hB5, y4, y1, y3, yk, ly7, ly8⟩
         obtain ⟨m4, m1, m3, mk, lr7, lk7⟩ := HC.out w7 (below_thru bd hb7)))
     go_wp2_with fail
     obtain ⟨q0, q1, q2, q3, q4, q5, q6⟩ := cells7 hb5
     refine bodyPost_ret (v := .tuple #[.agg #[.slice Ao no co, .slice Ae ne ce, .int .i64 st', .slice An dn cn, .int .i64 sp, .int .i64 pk, .int .i64 us], .bool true]) (by simp [results, Tryz.results7, go_sem, q0, q1, q2, q3, q4, q5, q6]) rfl ?_
     exact ⟨Ao, co, Ae, ce, An, cn, Ns, rfl, hT5, hD5, by rw [<- HWG.out]; exact hB5⟩
end
end
end Go.Proofs.YtffffjngodinnaaGreatDoor
