/-
  Parts of the proof.
-/
import Derived.Test.YtffffjngodinnaaGreatDoorV23
import Derived.Deep.DeepCutAuto
namespace Go.Proofs.YtffffjngodinnaaGreatDoor
section
set_option maxRecDepth 100000
open Go.RowKit Go.Maps
theorem cloneI_nil (w : World) : Calls Tryz.prog 28 #[.slice none 0 0] w fun e w' => e = .returned (.slice none 0 0) /\ w' = w := by
 have heq := fun (W : World) => Lib.run_eql_slice_nil (P := Tryz.prog) W 28 3 none 0 0 0 0 Tryz.underlying28
 go_enter Tryz.func28, Tryz.ntmps28
 go_wp2
 go_returns
 exact ⟨rfl, rfl⟩
theorem Faults.below {w w' : World} {v : Value} {l : List (Int × Int)} (h : Faults w v l) (hb : Below w.heap.size w w') : Faults w' v l := by
 obtain ⟨A, cap, e, h1, h2, h3, h4⟩ := h
 exact ⟨A, cap, e, h1, h2, h3, (h4.below hb).more hb.size⟩
def StartDoes (w : World) (args : List ByteArray) (inb : List UInt8) (buf line run : Int) (fl : List (Int × Int)) (ids : FuncId) (scap : Array Value) (Post : Int -> Flow -> Prop) : Prop :=
 ∀ W X sv, Below w.heap.size w W -> JobOf W X (Flow.first inb sv) -> X.K.fl = fl -> X.B.args = args -> X.B.buf = buf -> X.B.line = line -> X.B.run = run -> (∀ g ∈ X.foot (Flow.first inb sv), w.heap.size <= g) ->
  Calls Tryz.prog ids (#[.pointer (some ⟨X.p, 0, none⟩)] ++ scap) W fun e w' => ∃ m id caps, e = .returned (.pointer (some ⟨m, 0, none⟩)) /\ MachAt w' m X.p (.func (.func id) #[] caps) false 0 /\ W.heap.size <= m /\ Below W.heap.size W w' /\
   (∀ args W, (callFunc id args).run Tryz.prog W = .ok (.enter id args) W) /\ MainDoes w' X (Flow.first inb sv) id caps Post
set_option maxHeartbeats 4000000 in
theorem run_top (w : World) (A : Option Addr) (c : Nat) (args : List ByteArray) (iv : Value) (inb : List UInt8) (buf line run : Int) (fv0 : Value) (fl : List (Int × Int)) (ids : FuncId) (scap : Array Value) (Post : Int -> Flow -> Prop)
 (hr : Reads w w.heap.size 1 A args.length (strsC args)) (hn : 1 <= args.length) (hn2 : args.length <= 2097152) (hiv : Bytes w w.heap.size iv inb) (hib : inb.length <= 140737488355328) (hl : LimOk buf line run) (hfv0 : Faults w fv0 fl) (hfl : fl.length <= 8796093022208)
 (hen : ∀ args W, (callFunc ids args).run Tryz.prog W = .ok (.enter ids args) W) (hst : StartDoes w args inb buf line run fl ids scap Post) (hpo : ∀ n F', Post n F' -> ∀ b, (F'.said b).length <= 140737488355328) :
 Calls Tryz.prog 11 #[.agg (jobCells (.slice A args.length c) (.slice none 0 0) iv buf line run fv0), .func (.func ids) #[] scap] w fun e w' => ∃ n F' ov ev, Post n F' /\
  e = .returned (.tuple #[.agg #[ov, ev, .int .i64 n, .slice none 0 0, .int .i64 (F'.steps : Int), .int .i64 F'.peak, .int .i64 (F'.used : Int)], .bool true]) /\
  w'.ownsRow w.heap.size 5 1 ov (F'.said true).length (bytesC (F'.said true)) /\ w'.ownsRow w.heap.size 5 1 ev (F'.said false).length (bytesC (F'.said false)) /\ Below w.heap.size w w' := by
 have HR := Lib.hid hr
 have HN := Lib.hid hn
 have HN2 := Lib.hid hn2
 have HIV := Lib.hid hiv
 have HIB := Lib.hid hib
 have HL := Lib.hid hl
 have HFV := Lib.hid hfv0
 have HFL := Lib.hid hfl
 have HEN := Lib.hid hen
 have HST := Lib.hid hst
 have HPO := Lib.hid hpo
 clear hr hn hn2 hiv hib hl hen hst hpo hfv0 hfl
 obtain ⟨n, hnn⟩ : ∃ n, args.length = n := ⟨_, rfl⟩
 have HNN := Lib.hid hnn
 rw [hnn]
 clear hnn
 go_enter Tryz.func11, Tryz.ntmps11
 go_upto_region 1 with fail
 obtain ⟨jc, hjc⟩ : ∃ jc, jobCells (.slice A n c) (.slice none 0 0) iv buf line run fv0 = jc := ⟨_, rfl⟩
 have j0 : jc[0]? = some (.slice A n c) := by rw [<- hjc]; rfl
 have j1 : jc[1]? = some (.slice none 0 0) := by rw [<- hjc]; rfl
 have j2 : jc[2]? = some (.string ⟨#[]⟩) := by rw [<- hjc]; rfl
 have j3 : jc[3]? = some iv := by rw [<- hjc]; rfl
 have j5 : jc[5]? = some (.int .i64 buf) := by rw [<- hjc]; rfl
 have j6 : jc[6]? = some (.int .i64 line) := by rw [<- hjc]; rfl
 have j7 : jc[7]? = some (.int .i64 run) := by rw [<- hjc]; rfl
 have j8 : jc[8]? = some fv0 := by rw [<- hjc]; rfl
 have j9 : jc[9]? = some (.int .i64 0) := by rw [<- hjc]; rfl
 have j10 : jc[10]? = some (.slice none 0 0) := by rw [<- hjc]; rfl
 have jsz : (Tryz.prog.info? 30).map (·.size) = some jc.size := by rw [<- hjc]; kernel_rfl
 rw [hjc]
 have hmay : ∀ W, Calls Tryz.prog 25 #[.agg jc] W fun e w' => ∃ t h, e = .returned (.tuple #[ptrV t, .bool true]) /\ W.heap.size <= t /\ TreeOf w' t (emptyT h) /\ Below W.heap.size W w' := fun W => by
  rw [<- hjc, <- HNN.out]
  exact mayNil W A args.length c (.slice none 0 0) iv buf line run fv0 HN.out HL.out
 unfold ptrV at hmay
 obtain ⟨g, hg⟩ : ∃ g, w.heap.size = g := ⟨_, rfl⟩
 obtain ⟨Z, hZ⟩ : ∃ Z, (w.alloc (.cells jc 30)).alloc (.cells #[.slice none 0 0, .slice none 0 0, .int .i64 0, .slice none 0 0, .int .i64 0, .int .i64 0, .int .i64 0] 36) = Z := ⟨_, rfl⟩
 have bZ : Below g w Z := by rw [<- hZ, <- hg]; exact below_box (below_one w _) (Nat.le_refl _) _
 have jb : Blk Z g 30 jc := by rw [<- hZ, <- hg]; exact (Blk.new w _ _).alloc _
 have rb : Blk Z (g + 1) 36 #[.slice none 0 0, .slice none 0 0, .int .i64 0, .slice none 0 0, .int .i64 0, .int .i64 0, .int .i64 0] := by rw [<- hZ, <- hg]; exact Blk.newNext w _ _ _
 have bZ2 : g <= Z.heap.size := by have := rb.lt; omega
 rw [hZ, hg]
 have HJC := Lib.hid hjc
 have HG := Lib.hid hg
 have HZ := Lib.hid hZ
 clear hjc hg hZ
 have hnew : ∀ k W, Below w.heap.size w W -> Calls Tryz.prog 27 #[.pointer (some ⟨k, 0, none⟩), .slice A n c, .slice none 0 0, .string ⟨#[]⟩, .agg #[.int .i64 buf, .int .i64 line, .int .i64 run]] W fun e w' => ∃ p tb av ev all, e = .returned (.pointer (some ⟨p, 0, none⟩)) /\ W.heap.size <= p /\ W.heap.size <= tb /\
  ProcOf w' p { k := k, tb := tb, av := av, args := args, ev := ev, env := [], cwd := ⟨#[]⟩, buf := buf, line := line, run := run, held := 0, peak := 0, lv := .slice none 0 0, log := [], at_ := 0, may := false, top := false, steps := 0, all := all } /\
  Blk w' all 89 #[.slice none 0 0, .slice none 0 0, .int .i64 (-1)] /\
  TableOf w' tb k (fun _ => .nilIface) /\ Below W.heap.size W w' /\ (∀ b, av.ownBlock = some b -> W.heap.size <= b) /\ (∀ b, ev.ownBlock = some b -> W.heap.size <= b) /\ W.heap.size <= all := fun k W hW => by
  rw [<- HNN.out]
  exact procNew W k A none c 0 args [] ⟨#[]⟩ buf line run ((HR.out.below hW).more hW.size) Reads.none_ HN2.out (by simp)
 have HNEW := Lib.hid hnew
 clear hnew
 go_upto_region 7 with (first
  | (refine wpList_load_row rfl 30 (.tmp 2) rfl g rfl 30 jc (0, 0) _ jb Tryz.underlying30 rfl jsz ?_)
  | (go_at_call 25; refine (hmay Z).mono ?_; rintro e w1 ⟨t, h0, rfl, hts, hT, hb1⟩
     have jb1 := Blk.on jb hb1
     have x0 : w1.cell? ⟨g, 0, none⟩ = some (.slice A n c) := (jb1.cell 0).trans j0
     have x1 : w1.cell? ⟨g, 1, none⟩ = some (.slice none 0 0) := (jb1.cell 1).trans j1
     have x8 : w1.cell? ⟨g, 8, none⟩ = some fv0 := (jb1.cell 8).trans j8
     have x9 : w1.cell? ⟨g, 9, none⟩ = some (.int .i64 0) := (jb1.cell 9).trans j9)
  | (go_at_call 26; refine (kNew w1 t fv0 fl (HFV.out.below (by rw [HG.out]; exact bZ.trans (below_step (Below.refl g Z) hb1 bZ2))) HFL.out 0).mono ?_; rintro e w2 ⟨k, fv, tm, rfl, hk, htm, hfv, hK, hb2⟩
     have jb2 := Blk.on jb1 hb2
     have y0 : w2.cell? ⟨g, 0, none⟩ = some (.slice A n c) := (jb2.cell 0).trans j0
     have y1 : w2.cell? ⟨g, 1, none⟩ = some (.slice none 0 0) := (jb2.cell 1).trans j1
     have y2 : w2.cell? ⟨g, 2, none⟩ = some (.string ⟨#[]⟩) := (jb2.cell 2).trans j2
     have y5 : w2.cell? ⟨g, 5, none⟩ = some (.int .i64 buf) := (jb2.cell 5).trans j5
     have y6 : w2.cell? ⟨g, 6, none⟩ = some (.int .i64 line) := (jb2.cell 6).trans j6
     have y7 : w2.cell? ⟨g, 7, none⟩ = some (.int .i64 run) := (jb2.cell 7).trans j7
     have BW2 : Below w.heap.size w w2 := (by rw [HG.out]; exact bZ.trans (below_step (below_step (Below.refl g Z) (hb1.mono (Nat.le_refl _)) bZ2) hb2 bZ2)))
  | (go_at_call 27; refine (HNEW.out k w2 BW2).mono ?_; rintro e w3 ⟨p, tb, av, ev, all, rfl, hp0, htb0, hP, hAll, hTb, hb3, hav, hev, hall⟩
     have q12 : w3.cell? ⟨p, 12, none⟩ = some (.bool false) := hP.blk.cell 12
     have q13 : w3.cell? ⟨p, 13, none⟩ = some (.bool false) := hP.blk.cell 13
     have s12 : w3.frozen? ⟨p, 12, none⟩ = false := hP.blk.frozen 12
     have s13 : w3.frozen? ⟨p, 13, none⟩ = false := hP.blk.frozen 13))
 have s2 := hb2.size
 have s1 := hb1.size
 have s3 := hb3.size
 obtain ⟨L, hL⟩ : ∃ L, w1.heap.size = L := ⟨_, rfl⟩
 have hgL : g <= L := by omega
 obtain ⟨K0, hK0⟩ : ∃ K : KS, K = { t := t, now := 0, fv := fv, fl := fl, used := 0, last := 0, tb := tm, tn := 0, tf := fun _ => none } := ⟨_, rfl⟩
 rw [<- hK0] at hK
 obtain ⟨J0, hJ0⟩ : ∃ J : PS, J = { k := k, tb := tb, av := av, args := args, ev := ev, env := [], cwd := ⟨#[]⟩, buf := buf, line := line, run := run, held := 0, peak := 0, lv := .slice none 0 0, log := [], at_ := 0, may := false, top := false, steps := 0, all := all } := ⟨_, rfl⟩
 rw [<- hJ0] at hP
 have htl := (hT.blk).lt
 have M3 : Mid w3 L g jc t h0 k p tb all J0 K0 (fun _ => .nilIface) (.slice none 0 0) := by
  refine ⟨Blk.on jb2 hb3, Blk.on (Blk.on (Blk.on rb hb1) hb2) hb3, hP, hK.below hb3, hTb, (hT.below hb2).below hb3, hAll, ?_, ?_, ?_⟩
  · have h1 := (hT.item (h0 + 1) (rootItem h0) (by simp [emptyT])).2.2 rfl
    have h2 := h1.1.lt
    have h3 := hT.files.lt
    rw [hK0]
    simp only [rootItem, emptyT] at h2 h3 ⊢
    omega
  · rw [hJ0, hK0]
    intro b hb
    simp only [List.mem_append, List.mem_cons, List.not_mem_nil, or_false, Option.mem_toList] at hb
    rcases hb with (((((rfl | rfl | rfl | rfl | rfl) | hb) | hb) | hb) | hb)
    · omega
    · omega
    · omega
    · omega
    · omega
    · have := hfv b hb; omega
    · have := hav b hb; omega
    · have := hev b hb; omega
    · simp [Value.ownBlock] at hb
  · have h3 := hT.files.lt
    simp only [emptyT] at h3
    exact ⟨by omega, by omega, hgL⟩
 have b3 : Below g w w3 := bZ.trans (below_step (below_step (below_step (Below.refl g Z) (hb1.mono (Nat.le_refl _)) bZ2) hb2 bZ2) hb3 bZ2)
 obtain ⟨J, hJ⟩ : ∃ J : PS, J = { J0 with may := true, top := true } := ⟨_, rfl⟩
 obtain ⟨Y, hY⟩ : ∃ Y, (w3.setCell ⟨p, 13, none⟩ (.bool true)).setCell ⟨p, 12, none⟩ (.bool true) = Y := ⟨_, rfl⟩
 have MY : Mid Y L g jc t h0 k p tb all J K0 (fun _ => .nilIface) (.slice none 0 0) := by
  have TY : Turns [p] w3 Y := by rw [<- hY]; exact ((Turns.refl _ w3).setCell ⟨p, 13, none⟩ _ (fun _ => List.mem_singleton.2 rfl)).setCell ⟨p, 12, none⟩ _ (fun _ => List.mem_singleton.2 rfl)
  have pb : Blk Y p 85 (procCells J) := by
   have h1 := (M3.proc.blk.set_ 13 (.bool true)).set_ 12 (.bool true)
   rw [hY] at h1
   rw [hJ]
   exact h1
  have hq := M3.proc.blk
  refine M3.one hq (.inl rfl) TY ⟨pb, ?_, ?_, ?_⟩ ((TY.block _ (Blk.lt M3.table) (by rw [List.mem_singleton]; exact Blk.ne_ M3.table hq (by decide))).trans M3.table) ((TY.block _ M3.crowd.lt (by rw [List.mem_singleton]; exact Blk.ne_ M3.crowd hq (by decide))).trans M3.crowd) (by rw [hJ]; exact ⟨rfl, rfl, rfl⟩)
  · rw [hJ]; exact ownsRow_same M3.proc.args fun b hb => TY.block b (M3.proc.args.lt b hb).2 (by rw [List.mem_singleton]; rintro rfl; exact own_blk_ne M3.proc.args hq (by decide) hb)
  · rw [hJ]; exact ownsRow_same M3.proc.env fun b hb => TY.block b (M3.proc.env.lt b hb).2 (by rw [List.mem_singleton]; rintro rfl; exact own_blk_ne M3.proc.env hq (by decide) hb)
  · rw [hJ]; exact ownsRow_same M3.proc.log fun b hb => TY.block b (M3.proc.log.lt b hb).2 (by rw [List.mem_singleton]; rintro rfl; exact own_blk_ne M3.proc.log hq (by decide) hb)
 have bY : Below g w Y := by
  rw [<- hY]
  exact (b3.setCell (p := ⟨p, 13, none⟩) (by show g <= p; omega) _).setCell (p := ⟨p, 12, none⟩) (by show g <= p; omega) _
 have hLY : L <= Y.heap.size := by rw [<- hY, World.size_setCell, World.size_setCell]; omega
 have f17 : Y.cell? ⟨p, 17, none⟩ = some (.pointer (some ⟨all, 0, none⟩)) := by rw [MY.proc.blk.cell 17, hJ, hJ0]; rfl
 have f10 : Y.cell? ⟨g, 10, none⟩ = some (.slice none 0 0) := (MY.job.cell 10).trans j10
 have a1 : Y.cell? ⟨all, 1, none⟩ = some (.slice none 0 0) := MY.crowd.cell 1
 have a2 : Y.frozen? ⟨all, 1, none⟩ = false := MY.crowd.frozen 1
 have hap : all ≠ p := Blk.ne_ MY.crowd MY.proc.blk (by decide)
 have hag : all ≠ g := Blk.ne_ MY.crowd MY.job (by decide)
 rw [hY]
 have HJ0 := Lib.hid hJ0
 have HJ := Lib.hid hJ
 have HK0 := Lib.hid hK0
 clear hY M3 b3 hJ hJ0 hK0 hT hK hP hAll hTb hb3 hb2 hb1 jb jb1 jb2 rb x0 x1 x8 x9 y0 y1 y2 y5 y6 y7 q12 q13 s12 s13 bZ
 go_region_held3 (fun W => W.cell? ⟨p, 17, none⟩ = some (.pointer (some ⟨all, 0, none⟩)) /\ W.cell? ⟨g, 10, none⟩ = some (.slice none 0 0))
  (first | (go_split_ands; refine ⟨?_, ?_⟩ <;> first | assumption | (rw [World.cell?_setCell_other _ _ _ _ (by simp; omega)]; assumption)) | go_keep)
  (first | (go_at_call 28; refine (cloneI_nil _).mono ?_; rintro e w9 ⟨rfl, rfl⟩))
 go_upto_region 8 with fail
 obtain ⟨V, hV⟩ : ∃ V, (Y.setCell ⟨all, 1, none⟩ (.slice none 0 0)).drew = V := ⟨_, rfl⟩
 rw [hV]
 have MV : Mid V L g jc t h0 k p tb all J K0 (fun _ => .nilIface) (.slice none 0 0) := by
  have TV : Turns [all] Y V := by rw [<- hV]; exact ((Turns.refl _ Y).setCell ⟨all, 1, none⟩ _ (fun _ => List.mem_singleton.2 rfl)).drew
  refine MY.one MY.crowd (.inr (.inr rfl)) TV (MY.proc.turns TV ?_) ((TV.block _ (Blk.lt MY.table) (by rw [List.mem_singleton]; exact Blk.ne_ MY.table MY.crowd (by decide))).trans MY.table) ?_ ⟨rfl, rfl, rfl⟩
  · intro b hb hm
    exact MY.proc.off MY.crowd (by decide) (by decide) (by decide) ((List.mem_singleton.1 hm) ▸ hb)
  · rw [<- hV]; exact (MY.crowd.set_ 1 (.slice none 0 0)).drew
 have hLV : L <= V.heap.size := by rw [<- hV]; show L <= (Y.setCell _ _).heap.size; rw [World.size_setCell]; exact hLY
 have hallg : g <= all := Nat.le_trans hgL (MY.news all (by simp))
 have bV : Below g w V := by
  rw [<- hV]
  exact below_drewN (bY.setCell (p := ⟨all, 1, none⟩) hallg _) 1
 have v1 : V.cell? ⟨p, 1, none⟩ = some (.pointer (some ⟨tb, 0, none⟩)) := by rw [MV.proc.blk.cell 1, HJ.out, HJ0.out]; rfl
 have v3 : V.cell? ⟨g, 3, none⟩ = some iv := (MV.job.cell 3).trans j3
 have MVd := MV.same (Y' := V.drew) (Turns.refl _ V).drew
 have hgw : w.heap.size = g := HG.out
 have hgV : g <= V.heap.size := by have := bV.size; omega
 have hK0l : K0.last = 0 := by rw [HK0.out]
 have hK0n : K0.tn = 0 := by rw [HK0.out]
 have hivV : Bytes V.drew V.drew.heap.size iv inb := (HIV.out.below (w' := V.drew) (by rw [hgw]; exact below_drewN bV 1)).more bV.size
 have hsrc : Calls Tryz.prog 30 #[.pointer (some ⟨k, 0, none⟩), iv] V.drew fun e w' => ∃ s u K1, e = .returned (.int .i64 1) /\ V.drew.heap.size <= s /\
  Blk w' s 159 #[u] /\ OffRow w' V.drew.heap.size 5 u inb.length (bytesC inb) /\ KernOf w' k K1 /\ Turns [k, K0.tb] V.drew w' /\ Adds K0 K1 1 (sourceV s) :=
  (kSource V.drew k K0 MVd.kern (by omega) (by omega) iv inb hivV HIB.out).mono fun e w' ⟨s, u, he, h1, h2, h3, h4, h5⟩ => ⟨s, u, _, he.trans (by rw [hK0l]; rfl), h1, h2, h3, h4, h5, Adds.of (by rw [hK0l]) (by rw [hK0n]) _⟩
 have HSRC := Lib.hid hsrc
 have HMV := Lib.hid MVd
 have HK0L := Lib.hid hK0l
 have HK0N := Lib.hid hK0n
 have hgtb : tb ≠ g := Blk.ne_ MV.table MV.job (by decide)
 have hptb : tb ≠ p := Blk.ne_ MV.table MV.proc.blk (by decide)
 clear hsrc MVd hivV hgw hV hK0l hK0n MY bY f17 f10 a1 a2 hap
 go_region_held3 (fun W => W.cell? ⟨p, 1, none⟩ = some (.pointer (some ⟨tb, 0, none⟩)) /\ W.cell? ⟨g, 3, none⟩ = some iv)
  (first | (go_split_ands; refine ⟨?_, ?_⟩ <;> first | assumption | (rw [World.cell?_setCell_other _ _ _ _ (by simp; omega)]; assumption)) | go_keep)
  (first
  | (go_at_call 30; refine HSRC.out.mono ?_; rintro e w5 ⟨sb, sv, K1, rfl, hsb, hS5, hR5, hK5, hT5, hA5⟩
     have M5 := HMV.out.kernel hT5 hK5 hA5.same
     have u1 : w5.cell? ⟨p, 1, none⟩ = some (.pointer (some ⟨tb, 0, none⟩)) := (by rw [M5.proc.blk.cell 1, HJ.out, HJ0.out]; rfl)
     have u3 : w5.cell? ⟨g, 3, none⟩ = some iv := (M5.job.cell 3).trans j3
     have hput := kPut w5 tb k _ _ M5.kern M5.table 0 (by decide) rfl 1 (by omega) _ _ hA5.tf (fun W => as_source_file _ W) (fun w' => w' = w5) (takenSource w5 k sb) (fun _ e => by rw [e])
     have HPUT := Lib.hid hput; clear hput)
  | (go_at_call 29; refine HPUT.out.mono ?_; rintro e w6 ⟨rfl, w5', h5, rfl⟩; obtain rfl : w5 = w5' := h5.symm))
 have hD6 := M5.table.set 0 (by decide) (sourceV sb)
 obtain ⟨w6, hw6⟩ : ∃ w6, w5.setCell ⟨tb, 0 + 1, none⟩ (sourceV sb) = w6 := ⟨_, rfl⟩
 have T6 : Turns [tb] w5 w6 := by rw [<- hw6]; exact (Turns.refl _ w5).setCell ⟨tb, 0 + 1, none⟩ _ (fun _ => List.mem_singleton.2 rfl)
 rw [hw6] at hD6
 have M6 : Mid w6 L g jc t h0 k p tb all J K1 _ (.slice none 0 0) := M5.one M5.table (.inr (.inl rfl)) T6 (M5.proc.turns T6 (fun b hb hm => M5.proc.off M5.table (by decide) (by decide) (by decide) ((List.mem_singleton.1 hm) ▸ hb))) hD6 ((T6.block _ M5.crowd.lt (by rw [List.mem_singleton]; exact Blk.ne_ M5.crowd M5.table (by decide))).trans M5.crowd) ⟨rfl, rfl, rfl⟩
 have h56 : V.heap.size <= w6.heap.size := Nat.le_trans hT5.size T6.size
 have hb6 : Below g V w6 := by
  have h1 : Below g V w5 := by
   have h0 : Turns [k, K0.tb] V w5 := ⟨hT5.os, hT5.tape, hT5.output, hT5.size, hT5.block⟩
   exact h0.below hgV (by
    intro b hb
    have hn := MV.news b
    simp only [List.mem_cons, List.not_mem_nil, or_false] at hb
    have : L <= b := by
     rcases hb with rfl | rfl
     · exact hn (by simp)
     · exact hn (by simp)
    omega)
  exact h1.trans (T6.below (Nat.le_trans hgV hT5.size) (by
   intro b hb
   rw [List.mem_singleton] at hb
   have := MV.news b (by simp [hb])
   omega))
 have HB6 := Lib.hid hb6
 clear hb6
 have S6 : Blk w6 sb 159 #[sv] := (T6.block _ hS5.lt (by rw [List.mem_singleton]; exact Blk.ne_ hS5 M5.table (by decide))).trans hS5
 have R6 := hR5.same (w' := w6) fun b hb => T6.block b (hR5.lt hb).2 (by rw [List.mem_singleton]; rintro rfl; exact hR5.blk_ne M5.table (by decide) hb)
 have hk1 := kSink1 w6 k K1 1 M6.kern hA5.last hA5.tn (by decide)
 have HK1 := Lib.hid hk1
 have HA5 := Lib.hid hA5
 have hw6' : w5.setCell ⟨tb, 1, none⟩ (.iface 157 (.pointer (some ⟨sb, 0, none⟩))) = w6 := hw6
 clear hk1 hw6 HPUT HSRC hD6 T6 hS5 hR5 M5 hT5 hK5 hA5
 go_upto_region 12 with (first
  | (go_at_call 31; have hM7 := M7; refine HK2.out.mono ?_; rintro e w8 ⟨K3, rfl, hS8, hK8, hT8, hA8⟩
     have M8 := M7.kernel hT8 hK8 hA8.same
     have q1 : w8.cell? ⟨p, 1, none⟩ = some (.pointer (some ⟨tb, 0, none⟩)) := (by rw [M8.proc.blk.cell 1, HJ.out, HJ0.out]; rfl)
     have hput := kPut w8 tb k K3 _ M8.kern M8.table 1 (by decide) rfl 2 (by omega) _ _ ((hA8.old 2 (by decide)).trans HA7.out.tf) (fun W => as_sink_file _ W) (fun w' => w' = w8) (takenSink w8 k w6.heap.size) (fun _ e => by rw [e])
     have HPUT := Lib.hid hput; clear hput
     have HA8 := Lib.hid hA8; clear hA8)
  | (go_at_call 31; refine HK1.out.mono ?_; rintro e w7 ⟨K2, rfl, hS7, hK7, hT7, hA7⟩
     have M7 := M6.kernel hT7 hK7 hA7.same
     have hk2 := kSink1 w7 k K2 2 M7.kern hA7.last hA7.tn (by decide)
     have HK2 := Lib.hid hk2; clear hk2
     have HA7 := Lib.hid hA7; clear hA7)
  | (go_at_call 29; have hM9 := M9; refine HPUT2.out.mono ?_; rintro e w10 ⟨rfl, w9', h9, hw10⟩; obtain rfl : w9 = w9' := h9.symm
     have hD10 := M9.table.set 2 (by decide) (sinkV w7.heap.size)
     have T10 : Turns [tb] w9 w10 := (by rw [hw10]; exact (Turns.refl _ w9).setCell ⟨tb, 2 + 1, none⟩ _ (fun _ => List.mem_singleton.2 rfl))
     have hD10' : TableOf w10 tb k _ := (by rw [hw10]; exact hD10)
     have M10 := M9.one M9.table (.inr (.inl rfl)) T10 (M9.proc.turns T10 (fun b hb hm => M9.proc.off M9.table (by decide) (by decide) (by decide) ((List.mem_singleton.1 hm) ▸ hb))) hD10' ((T10.block _ M9.crowd.lt (by rw [List.mem_singleton]; exact Blk.ne_ M9.crowd M9.table (by decide))).trans M9.crowd) ⟨rfl, rfl, rfl⟩
     have HT10 := Lib.hid T10
     clear hD10 hD10' T10 hw10)
  | (go_at_call 29; have hM8 := M8; refine HPUT.out.mono ?_; rintro e w9 ⟨rfl, w8', h8, hw9⟩; obtain rfl : w8 = w8' := h8.symm
     have hD9 := M8.table.set 1 (by decide) (sinkV w6.heap.size)
     have T9 : Turns [tb] w8 w9 := (by rw [hw9]; exact (Turns.refl _ w8).setCell ⟨tb, 1 + 1, none⟩ _ (fun _ => List.mem_singleton.2 rfl))
     have hD9' : TableOf w9 tb k _ := (by rw [hw9]; exact hD9)
     have M9 := M8.one M8.table (.inr (.inl rfl)) T9 (M8.proc.turns T9 (fun b hb hm => M8.proc.off M8.table (by decide) (by decide) (by decide) ((List.mem_singleton.1 hm) ▸ hb))) hD9' ((T9.block _ M8.crowd.lt (by rw [List.mem_singleton]; exact Blk.ne_ M8.crowd M8.table (by decide))).trans M8.crowd) ⟨rfl, rfl, rfl⟩
     have q1 : w9.cell? ⟨p, 1, none⟩ = some (.pointer (some ⟨tb, 0, none⟩)) := (by rw [M9.proc.blk.cell 1, HJ.out, HJ0.out]; rfl)
     have hput2 := kPut w9 tb k K3 _ M9.kern M9.table 2 (by decide) rfl 3 (by omega) _ _ HA8.out.tf (fun W => as_sink_file _ W) (fun w' => w' = w9) (takenSink w9 k w7.heap.size) (fun _ e => by rw [e])
     have HPUT2 := Lib.hid hput2
     have HT9 := Lib.hid T9
     clear hput2 hD9 hD9' T9 hw9))
 have HT8 := Lib.hid hT8
 have HT7 := Lib.hid hT7
 have hs0 : K0.used = 0 /\ K0.fl = fl /\ K0.tb = tm := by rw [HK0.out]; exact ⟨rfl, rfl, rfl⟩
 have hJk : J.k = k := by rw [HJ.out, HJ0.out]
 have hJt : J.tb = tb := by rw [HJ.out, HJ0.out]
 have hJz : J.steps = 0 /\ J.held = 0 /\ J.peak = 0 /\ J.may = true /\ J.top = true /\ J.at_ = 0 /\ J.log = [] := by rw [HJ.out, HJ0.out]; exact ⟨rfl, rfl, rfl, rfl, rfl, rfl, rfl⟩
 have k78 : ∀ {ty : TypeId} {cs : Array Value} {b : Nat}, Blk w7 b ty cs -> ty ≠ 142 -> Blk w8 b ty cs := fun hb h1 => (hT8.block _ hb.lt (by
  simp only [List.mem_cons, List.not_mem_nil, or_false, not_or]
  exact ⟨Blk.ne_ hb M7.kern.blk h1, (M7.kern.things.blk_ne hb).symm⟩)).trans hb
 have k67 : ∀ {ty : TypeId} {cs : Array Value} {b : Nat}, Blk w6 b ty cs -> ty ≠ 142 -> Blk w7 b ty cs := fun hb h1 => (hT7.block _ hb.lt (by
  simp only [List.mem_cons, List.not_mem_nil, or_false, not_or]
  exact ⟨Blk.ne_ hb M6.kern.blk h1, (M6.kern.things.blk_ne hb).symm⟩)).trans hb
 have k80 : ∀ {ty : TypeId} {cs : Array Value} {b : Nat}, Blk w8 b ty cs -> ty ≠ 150 -> Blk w10 b ty cs := fun hb h1 => by
  have h2 := (HT9.out.block _ hb.lt (by rw [List.mem_singleton]; exact Blk.ne_ hb M8.table h1)).trans hb
  exact (HT10.out.block _ (Blk.lt h2) (by rw [List.mem_singleton]; exact Blk.ne_ hb M8.table h1)).trans h2
 have T60 : Turns ([k, K0.tb] ++ [tb]) w6 w10 := by
  have e1 : K1.tb = K0.tb := HA5.out.same.1
  have e2 : K2.tb = K0.tb := HA7.out.same.1.trans e1
  rw [e1] at hT7
  rw [e2] at hT8
  exact (((hT7.more (by simp)).trans (hT8.more (by simp))).trans (HT9.out.more (by simp))).trans (HT10.out.more (by simp))
 have e3 : K3.used = 0 := by
  rw [HA8.out.free.1, HA7.out.free.1, HA5.out.free.1, hs0.1]
 have e4 : K3.fl = fl := by
  rw [HA8.out.free.2.1, HA7.out.free.2.1, HA5.out.free.2.1, hs0.2.1]
 have hsV : V.drew.heap.size = V.heap.size := rfl
 have s67 : w6.heap.size <= w7.heap.size := HT7.out.size
 have hL6 : L <= w6.heap.size := Nat.le_trans hLV h56
 have hso6 : w6.heap.size ≠ w7.heap.size := by have := hS7.lt; omega
 have hR10 : OffRow w10 V.drew.heap.size 5 sv inb.length (bytesC inb) := R6.same fun b hb => T60.block b (R6.lt hb).2 (by
  simp only [List.mem_append, List.mem_cons, List.not_mem_nil, or_false, not_or]
  exact ⟨⟨fun e => R6.blk_ne M6.kern.blk (by decide) (e ▸ hb), fun e => by
   obtain ⟨c', t', hq⟩ : ∃ c' t', Blk w6 b t' c' := by
    rcases R6.2 with ⟨e', _⟩ | ⟨g', off, cap, cur, e', _, hgb, _⟩
    · rw [e'] at hb; simp [Value.ownBlock] at hb
    · obtain rfl : g' = b := by rw [e'] at hb; simpa [Value.ownBlock] using hb
      exact ⟨_, _, hgb⟩
   exact M6.kern.things.blk_ne hq (by rw [HA5.out.same.1]; exact e.symm)⟩, fun e => R6.blk_ne M6.table (by decide) (e ▸ hb)⟩)
 have hJob : JobOf w10 (mkJob p J K3 sb w6.heap.size w7.heap.size) (Flow.first inb sv) :=
  M10.jobOf hJk hJt hJz (k80 (k78 (k67 S6 (by decide)) (by decide)) (by decide)) hR10 (k80 (k78 hS7 (by decide)) (by decide)) (k80 hS8 (by decide)) hso6 (by
   intro i hi
   simp only [Job.D, mkJob]
   by_cases i2 : i = 2
   · subst i2; simp
   by_cases i1 : i = 1
   · subst i1; simp
   simp [i1, i2]) e3 ((HA8.out.old 2 (by decide)).trans HA7.out.tf) HA8.out.tf
 have hft := M10.foot hJk hJt hR10 (by rw [hsV]; exact hLV) (Nat.le_trans hLV hsb) hL6 (Nat.le_trans hL6 s67)
 have b10 : Below g w w10 := by
  have h1 : Below g V w6 := HB6.out
  have h2 : Below g w6 w10 := T60.below (Nat.le_trans hgL hL6) (by
   intro b hb
   have hn := M6.news b
   simp only [List.mem_append, List.mem_cons, List.not_mem_nil, or_false] at hb
   have : L <= b := by
    rcases hb with (rfl | rfl) | rfl
    · exact hn (by simp)
    · exact hn (by rw [<- HA5.out.same.1]; simp)
    · exact hn (by simp)
   omega)
  exact bV.trans (h1.trans h2)
 obtain ⟨X, hX⟩ : ∃ X, mkJob p J K3 sb w6.heap.size w7.heap.size = X := ⟨_, rfl⟩
 have hXp : X.p = p := by rw [<- hX]; rfl
 have hXB : X.B = J := by rw [<- hX]; rfl
 have hXK : X.K = K3 := by rw [<- hX]; rfl
 rw [hX] at hJob hft
 have hstart := HST.out w10 X sv (by rw [HG.out]; exact b10) hJob (by rw [hXK]; exact e4) (by rw [hXB, HJ.out, HJ0.out]) (by rw [hXB, HJ.out, HJ0.out]) (by rw [hXB, HJ.out, HJ0.out]) (by rw [hXB, HJ.out, HJ0.out]) (fun b hb => by have := hft b hb; have := HG.out; omega)
 have hstart2 : Calls Tryz.prog ids (#[.pointer (some ⟨p, 0, none⟩)] ++ scap) w10 fun e w' => ∃ m id caps, e = .returned (.pointer (some ⟨m, 0, none⟩)) /\ MachAt w' m X.p (.func (.func id) #[] caps) false 0 /\ w10.heap.size <= m /\ Below w10.heap.size w10 w' /\
  (∀ args W, (callFunc id args).run Tryz.prog W = .ok (.enter id args) W) /\ MainDoes w' X (Flow.first inb sv) id caps Post := by rw [<- hXp]; exact hstart
 have HS := Lib.hid hstart2
 have hen2 := HEN.out
 have HX := Lib.hid (And.intro hX (And.intro hXp (And.intro hXB hXK)))
 have HFT := Lib.hid hft
 have HJOB := Lib.hid hJob
 have HB10 := Lib.hid b10
 have HM10 := Lib.hid M10
 have HJK := Lib.hid hJk
 clear hstart hstart2 hX hXp hXB hXK hft hJob b10 M10 hJk hJt hJz hs0 k78 k67 k80 T60 e3 e4 hR10 M6 M7 M8 M9 hM7 hM8 hM9 MV hw6' hS7 hS8 hK7 hK8 hT7 hT8 S6 R6 hsV
 go_upto_region 16 with (first
  | (go_at_call 32; have hm11 := HM11; refine HGO.out.mono ?_; rintro e w12 ⟨rfl, st, F', hE12, hP12, hm12, hT12, hn12⟩)
  | (refine HS.out.mono ?_; rintro e w11 ⟨m, idm, caps, rfl, hm11, hmw, hb11, hen3, hmain⟩
     have hgo := goOn_top w11 m X (Flow.first inb sv) idm caps Post 0 hm11 (HJOB.out.below hb11) rfl hen3 hmain
     have HGO := Lib.hid hgo
     have HM11 := Lib.hid hm11
     have HMW := Lib.hid hmw; clear hmw
     have HB11 := Lib.hid hb11
     clear hgo hm11 hb11 hen3 hmain))
 have hm11 := HM11.out
 have b11 := HB11.out
 have hXk : X.B.k = k := by rw [HX.out.2.2.1]; exact HJK.out
 have hk12 : KernOf w12 k { K3 with used := F'.used } := by have := hE12.kern; unfold Job.kF at this; rwa [hXk, HX.out.2.2.2] at this
 have hp12 : ProcOf w12 p (X.J F').over := by have := hE12.proc; rwa [HX.out.2.1] at this
 have hth : ∀ b : Bool, K3.tf (numK (if b then 2 else 3)) = some (sinkV (X.sink b)) := by have := hE12.thing; rwa [HX.out.2.2.2] at this
 have J11 : JobOf w11 X (Flow.first inb sv) := HJOB.out.below b11
 have keep12 : ∀ {ty : TypeId} {cs : Array Value} {b : Nat}, Blk w11 b ty cs -> b ∉ X.foot (Flow.first inb sv) -> ty ≠ 92 -> Blk w12 b ty cs := fun hb h1 h2 => (hT12.block _ hb.lt (by
  simp only [List.mem_append, List.mem_cons, List.not_mem_nil, or_false, not_or]
  exact ⟨Blk.ne_ hb hm11 h2, h1⟩)).trans hb
 have r11 : Blk w11 (g + 1) 36 resZ := Blk.on HM10.out.res b11
 have r12 : Blk w12 (g + 1) 36 resZ := keep12 r11 (J11.off r11 (by decide) (by decide) (by decide) (by decide) (by decide) (by decide) (by decide) (by decide) (by decide)) (by decide)
 have hlow := HM10.out.low
 have t11 : TreeOf w11 t (emptyT h0) := HM10.out.tree.below b11
 have t12 : TreeOf w12 t (emptyT h0) := emptyT_keep t11 fun b hb => hT12.block b (by
  have h1 := t11.blk.lt
  have h2 := t11.files.lt
  simp only [emptyT] at h2
  omega) (by
  simp only [List.mem_append, List.mem_cons, List.not_mem_nil, or_false, not_or]
  refine ⟨?_, fun hm => by have := HFT.out b hm; omega⟩
  have e0 := t11.item (h0 + 1) (rootItem h0) (by simp [emptyT])
  rcases hb with rfl | rfl | rfl | rfl
  · exact Blk.ne_ t11.blk hm11 (by decide)
  · exact (e0.2.2 rfl).1.blk_ne hm11
  · exact Blk.ne_ e0.1 hm11 (by decide)
  · exact t11.files.blk_ne hm11)
 have hml := hm12.lt
 have hpl := hp12.blk.lt
 have c3 : w12.cell? ⟨m, 3, none⟩ = some (.int .i64 st) := hm12.cell 3
 have c15 : w12.cell? ⟨p, 15, none⟩ = some (.int .i64 (F'.steps : Int)) := hp12.blk.cell 15
 have c9 : w12.cell? ⟨p, 9, none⟩ = some (.int .i64 F'.peak) := hp12.blk.cell 9
 have hres : ∀ W, Below w12.heap.size w12 W -> W.cell? ⟨m, 3, none⟩ = some (.int .i64 st) /\ W.cell? ⟨p, 15, none⟩ = some (.int .i64 (F'.steps : Int)) /\ W.cell? ⟨p, 9, none⟩ = some (.int .i64 F'.peak) /\ Below w12.heap.size w12 W := fun W hb =>
  ⟨(Blk.on hm12 hb).cell 3, (Blk.on hp12.blk hb).cell 15, (Blk.on hp12.blk hb).cell 9, hb⟩
 have hB0 : Below w12.heap.size w12 w12.drew := ⟨rfl, rfl, rfl, Nat.le_refl _, fun _ _ => rfl⟩
 have hsaid : ∀ (b : Bool) W, Below w12.heap.size w12 W -> Calls Tryz.prog 33 #[.pointer (some ⟨k, 0, none⟩), .int .i64 ((if b then 2 else 3 : Nat) : Int)] W fun e w' => ∃ u, e = .returned u /\ w'.ownsRow W.heap.size 5 1 u (F'.said b).length (bytesC (F'.said b)) /\ Below W.heap.size W w' := fun b W hb =>
  kSaid W k { K3 with used := F'.used } (hk12.below hb) _ (by cases b <;> decide) (X.sink b) (hth b) 0 (F'.val b) (F'.said b) (Blk.on (hE12.sink b) hb) ((hE12.row b).same fun q hq => hb.block q ((hE12.row b).lt hq).2) (HPO.out st F' hP12 b)
 have hs2 : ∀ W, Below w12.heap.size w12 W -> Calls Tryz.prog 33 #[.pointer (some ⟨k, 0, none⟩), .int .i64 2] W fun e w' => ∃ u, e = .returned u /\ w'.ownsRow W.heap.size 5 1 u (F'.said true).length (bytesC (F'.said true)) /\ Below W.heap.size W w' := hsaid true
 have hs3 : ∀ W, Below w12.heap.size w12 W -> Calls Tryz.prog 33 #[.pointer (some ⟨k, 0, none⟩), .int .i64 3] W fun e w' => ∃ u, e = .returned u /\ w'.ownsRow W.heap.size 5 1 u (F'.said false).length (bytesC (F'.said false)) /\ Below W.heap.size W w' := hsaid false
 have HS2 := Lib.hid hs2
 have HS3 := Lib.hid hs3
 have HRES := Lib.hid hres
 have HT12 := Lib.hid hT12
 have HR12 := Lib.hid r12
 have HTR := Lib.hid t12
 have HK12 := Lib.hid hk12
 have HE12 := Lib.hid hE12
 clear hs2 hs3 hsaid hres hT12 r12 t12 hk12 hE12 hth J11 keep12 r11 t11 hm11 b11 hlow hp12 hm12
 have hmg : m ≠ g + 1 := by
  have h1 := HM11.out
  exact Blk.ne_ h1 (Blk.on HM10.out.res HB11.out) (by decide)
 have hpg : p ≠ g + 1 := Blk.ne_ HM10.out.proc.blk HM10.out.res (by decide)
 have hres3 : ∀ W, Below w12.heap.size w12 W -> W.cell? ⟨m, 3, none⟩ = some (.int .i64 st) /\ W.cell? ⟨p, 15, none⟩ = some (.int .i64 (F'.steps : Int)) /\ W.cell? ⟨p, 9, none⟩ = some (.int .i64 F'.peak) := fun W hb => ⟨(HRES.out W hb).1, (HRES.out W hb).2.1, (HRES.out W hb).2.2.1⟩
 have HRES3 := Lib.hid hres3
 try clear hres3
 try clear HRES
 try clear HR
 try clear HN
 try clear HN2
 try clear HIV
 try clear HFV
 try clear HFL
 try clear HIB
 try clear HL
 try clear HEN
 try clear HST
 try clear HPO
 try clear HNN
 try clear HJC
 try clear HZ
 try clear HNEW
 try clear HJ0
 try clear HJ
 try clear HK0
 try clear HMV
 try clear HK0L
 try clear HK0N
 try clear HK1
 try clear HA5
 try clear HA7
 try clear HA8
 try clear HK2
 try clear HT9
 try clear HT10
 try clear HT8
 try clear HT7
 try clear HS
 try clear HX
 try clear HJK
 try clear HM11
 try clear HM10
 try clear HGO
 try clear HE12
 try clear hJ0
 try clear j0
 try clear j1
 try clear j2
 try clear j3
 try clear j5
 try clear j6
 try clear j7
 try clear j8
 try clear j9
 try clear j10
 try clear jsz
 try clear hmay
 try clear hEq
 try clear hen2
 try clear HB6
 try clear hHeld
 try clear hpl
 try clear hml
 try clear HPUT
 try clear HPUT2
 try clear hk
 try clear htm
 try clear hfv
 try clear hp0
 try clear htb0
 try clear hav
 try clear hev
 try clear hall
 try clear s1
 try clear s2
 try clear s3
 try clear htl
 have HGL := Lib.hid hgL
 try clear hgL
 try clear hLY
 try clear hLV
 try clear hLs
 go_region_held3 (fun W => W.cell? ⟨m, 3, none⟩ = some (.int .i64 st) /\ W.cell? ⟨p, 15, none⟩ = some (.int .i64 (F'.steps : Int)) /\ W.cell? ⟨p, 9, none⟩ = some (.int .i64 F'.peak))
  (first | (with_reducible exact resKeep hmg hpg (HRES3.out _ hB15) _ _ _ _ _ _ _) | (refine HRES3.out _ ?_; (first | with_reducible assumption | with_reducible exact hB0)))
  (first
  | (go_at_call 33; have hq3 := hown13; refine (HS3.out _ hB13).mono ?_; rintro e w14 ⟨ev', rfl, hown14, hb14⟩; obtain ⟨Ae, ce, rfl, _⟩ := own_slice hown14; have hB14 : Below w12.heap.size w12 w14 := below_step hB13 hb14 (Nat.le_refl _))
  | (go_at_call 33; refine (HS2.out _ hB0).mono ?_; rintro e w13 ⟨ov', rfl, hown13, hb13⟩; obtain ⟨Ao, co, rfl, _⟩ := own_slice hown13; have hB13 : Below w12.heap.size w12 w13 := below_step hB0 hb13 (Nat.le_refl _))
  | (go_at_call 34; refine (dumpRoot _ t h0 (HTR.out.below hB14)).mono ?_; rintro e w15 ⟨rfl, hb15⟩
     have hB15 : Below w12.heap.size w12 w15 := below_step hB14 hb15 (Nat.le_refl _)
     have q15 := Blk.on HR12.out hB15
     have z0 : w15.cell? ⟨g + 1, 0, none⟩ = some (.slice none 0 0) := q15.cell 0; have y0 : w15.frozen? ⟨g + 1, 0, none⟩ = false := q15.frozen 0
     have z1 : w15.cell? ⟨g + 1, 1, none⟩ = some (.slice none 0 0) := q15.cell 1; have y1 : w15.frozen? ⟨g + 1, 1, none⟩ = false := q15.frozen 1
     have z2 : w15.cell? ⟨g + 1, 2, none⟩ = some (.int .i64 0) := q15.cell 2; have y2 : w15.frozen? ⟨g + 1, 2, none⟩ = false := q15.frozen 2
     have z3 : w15.cell? ⟨g + 1, 3, none⟩ = some (.slice none 0 0) := q15.cell 3; have y3 : w15.frozen? ⟨g + 1, 3, none⟩ = false := q15.frozen 3
     have z4 : w15.cell? ⟨g + 1, 4, none⟩ = some (.int .i64 0) := q15.cell 4; have y4 : w15.frozen? ⟨g + 1, 4, none⟩ = false := q15.frozen 4
     have z5 : w15.cell? ⟨g + 1, 5, none⟩ = some (.int .i64 0) := q15.cell 5; have y5 : w15.frozen? ⟨g + 1, 5, none⟩ = false := q15.frozen 5
     have z6 : w15.cell? ⟨g + 1, 6, none⟩ = some (.int .i64 0) := q15.cell 6; have y6 : w15.frozen? ⟨g + 1, 6, none⟩ = false := q15.frozen 6)
  | (go_at_call 35; refine (kUsed _ k { K3 with used := F'.used } (HK12.out.below hB15)).mono ?_; rintro e w16 ⟨rfl, h16⟩; obtain rfl : w15 = w16 := h16.symm))
 have bf := set7 q15 (.slice Ao (F'.said true).length co) (.slice Ae (F'.said false).length ce) (.int .i64 st) (.slice none 0 0) (.int .i64 (F'.steps : Int)) (.int .i64 F'.peak) (.int .i64 (F'.used : Int))
 obtain ⟨f0, f1, f2, f3, f4, f5, f6⟩ := cells7 bf
 have hbg : g <= w12.heap.size := by have := HR12.out.lt; omega
 have b12 : Below g w w12 := by
  have h11 : Below g w w11 := HB10.out.trans (HB11.out.mono (by have := HB10.out.size; have := HG.out; omega))
  refine h11.trans (HT12.out.below (by have := h11.size; have := HG.out; omega) ?_)
  intro b hb
  rcases List.mem_append.1 hb with h | h
  · rw [List.mem_singleton] at h
    have := HMW.out
    have := HB10.out.size
    have := HG.out
    omega
  · have := HFT.out b h
    have := HGL.out
    omega
 have b15 : Below g w w15 := b12.trans (hB15.mono hbg)
 have h13 : Below w13.heap.size w13 w15 := below_step hb14 hb15 (Nat.le_refl _)
 have hs12 : w12.drew.heap.size = w12.heap.size := rfl
 have hg1 : g + 1 < w12.heap.size := HR12.out.lt
 have hsz14 := hb14.size
 have hsz13 := hB13.size
 go_wp2_with fail
 refine bodyPost_ret (v := .tuple #[.agg #[.slice Ao (F'.said true).length co, .slice Ae (F'.said false).length ce, .int .i64 st, .slice none 0 0, .int .i64 (F'.steps : Int), .int .i64 F'.peak, .int .i64 (F'.used : Int)], .bool true]) (by simp [results, Tryz.results11, go_sem, f0, f1, f2, f3, f4, f5, f6]) rfl ?_
 refine ⟨st, F', _, _, hP12, rfl, ?_, ?_, ?_⟩
 · exact Joins.ownsRow_le (ownsRow_same (own_on hown13 h13) fun b hb => far7 (by have := (hown13.lt b hb).1; omega) _ _ _ _ _ _ _) (by have := HG.out; omega)
 · exact Joins.ownsRow_le (ownsRow_same (own_on hown14 hb15) fun b hb => far7 (by have := (hown14.lt b hb).1; omega) _ _ _ _ _ _ _) (by have := HG.out; omega)
 · rw [HG.out]
   exact below7 b15 (Nat.le_succ g) _ _ _ _ _ _ _
end
end Go.Proofs.YtffffjngodinnaaGreatDoor
