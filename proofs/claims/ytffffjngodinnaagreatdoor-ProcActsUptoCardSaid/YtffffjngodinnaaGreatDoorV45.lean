/-
  Parts of the proof.
-/
import Derived.Test.YtffffjngodinnaaGreatDoorV44
import Derived.Test.YtffffjngodinnaaGreatDoorV36
namespace Go.Proofs.YtffffjngodinnaaGreatDoor
section
set_option maxRecDepth 100000
open Go.RowKit Go.Maps Go.Shelf
theorem strB_stroke (cwd : ByteArray) : ({ data := #[47] } : ByteArray) ++ cwd = strB (47 :: cwd.data.toList) := by
 apply ByteArray.ext
 simp [strB]
set_option maxHeartbeats 8000000 in
theorem refMayJ (w : World) (A : Option Addr) (n c : Nat) (ev : Value) (cwd : ByteArray) (iv : Value) (NA : Option Addr) (nn nc : Nat) (L : List NodeIt) (buf line run : Int) (fv : Value) (now : Int) (pv : Value)
 (hcw : cwd.size <= 1048576) (hLn : L.length = nn) (hn2 : nn <= 1048576) (hr : Reads w w.heap.size 6 NA nn (nodesC L)) (hL : ∀ x ∈ L, NodeOk w w.heap.size x) :
 Calls Tryz.prog 14 #[.agg (jobC (.slice A n c) ev cwd iv (.slice NA nn nc) buf line run fv now pv)] w fun e w' => e = .returned (.bool (Abs.mayT (Abs.LS.init.run (L.map NodeIt.nd)) (limBad n buf line run now) cwd.data.toList).isSome) /\ Below w.heap.size w w' := by
 obtain ⟨R, hR⟩ : ∃ R, Abs.LS.init.run (L.map NodeIt.nd) = R := ⟨_, rfl⟩
 rw [hR]
 obtain ⟨w1, hw1⟩ : ∃ w1, w.alloc (.cells (jobC (.slice A n c) ev cwd iv (.slice NA nn nc) buf line run fv now pv) 30) = w1 := ⟨_, rfl⟩
 have h1 : Below w.heap.size w w1 := by rw [<- hw1]; exact below_one w _
 have hload := refLoad w1 NA nc nn L hLn hn2 ((hr.below h1).more h1.size) (fun x hx => ((hL x hx).below h1).more h1.size) R hR
 obtain ⟨g, hg⟩ : ∃ g, w.heap.size = g := ⟨_, rfl⟩
 have hb1 : Blk w1 g 30 (jobC (.slice A n c) ev cwd iv (.slice NA nn nc) buf line run fv now pv) := by rw [<- hw1, <- hg]; exact Blk.new w _ _
 have k4 : w1.cell? ⟨g, 4, none⟩ = some (.slice NA nn nc) := hb1.cell 4
 have lg := hb1.lt
 have HLG := Lib.hid (Nat.le_of_lt lg)
 have hcs : ∀ W, Below w1.heap.size w1 W -> W.cell? ⟨g, 0, none⟩ = some (.slice A n c) /\ W.cell? ⟨g, 2, none⟩ = some (.string cwd) /\ W.cell? ⟨g, 5, none⟩ = some (.int .i64 buf) /\ W.cell? ⟨g, 6, none⟩ = some (.int .i64 line) /\ W.cell? ⟨g, 7, none⟩ = some (.int .i64 run) /\ W.cell? ⟨g, 9, none⟩ = some (.int .i64 now) /\ g < W.heap.size := fun W hW => ⟨(Blk.on hb1 hW).cell 0, (Blk.on hb1 hW).cell 2, (Blk.on hb1 hW).cell 5, (Blk.on hb1 hW).cell 6, (Blk.on hb1 hW).cell 7, (Blk.on hb1 hW).cell 9, (Blk.on hb1 hW).lt⟩
 have HL := Lib.hid hload
 have HCS := Lib.hid hcs
 have H1 := Lib.hid h1
 have HCW := Lib.hid hcw
 rw [hg]
 rw [hg] at H1
 clear hload hcs h1 hLn hn2 hr hL hR hb1 hcw
 go_enter Tryz.func14, Tryz.ntmps14
 go_upto_region 1 with fail
 clear hw1 hg
 cases R with
 | none =>
   go_wp2_with (go_at_call 15; refine HL.out.mono ?_; rintro e w2 ⟨hb2, ⟨_, rfl⟩ | ⟨s, t, bs, h, _⟩⟩; first | (obtain ⟨c0, c2, c5, c6, c7, c9, l2⟩ := HCS.out w2 hb2) | (cases h))
   go_returns
   exact ⟨rfl, H1.out.trans (hb2.mono HLG.out)⟩
 | some s =>
   have hld : Calls Tryz.prog 15 #[.slice NA nn nc] w1 fun e w2 => Below w1.heap.size w1 w2 /\ ∃ t bs, e = .returned (.tuple #[.pointer (some ⟨t, 0, none⟩), .int .i64 0]) /\ RTree w2 w1.heap.size t s.T bs := HL.out.mono (by
    rintro e w2 ⟨hb2, ⟨h, _⟩ | ⟨s', t, bs, h, _, rfl, hT⟩⟩
    · cases h
    · cases h; exact ⟨hb2, t, bs, rfl, hT⟩)
   have HLD := Lib.hid hld
   clear hld
   by_cases a1 : (n : Int) < 1
   · have hm : Abs.mayT (some s) (limBad n buf line run now) cwd.data.toList = none := by
      have hb : limBad n buf line run now = true := by unfold limBad; simp [a1]
      rw [hb]; rfl
     have HM := Lib.hid hm
     clear hm
     go_wp2_with (go_at_call 15; refine HLD.out.mono ?_; rintro e w2 ⟨hb2, t, bs, rfl, hT⟩; obtain ⟨c0, c2, c5, c6, c7, c9, l2⟩ := HCS.out w2 hb2)
     go_returns
     exact ⟨by rw [HM.out]; rfl, H1.out.trans (hb2.mono HLG.out)⟩
   by_cases a2 : buf < 1
   · have hm : Abs.mayT (some s) (limBad n buf line run now) cwd.data.toList = none := by
      have hb : limBad n buf line run now = true := by unfold limBad; simp [a2]
      rw [hb]; rfl
     have HM := Lib.hid hm
     clear hm
     go_wp2_with (go_at_call 15; refine HLD.out.mono ?_; rintro e w2 ⟨hb2, t, bs, rfl, hT⟩; obtain ⟨c0, c2, c5, c6, c7, c9, l2⟩ := HCS.out w2 hb2)
     go_returns
     exact ⟨by rw [HM.out]; rfl, H1.out.trans (hb2.mono HLG.out)⟩
   by_cases a3 : line < 1
   · have hm : Abs.mayT (some s) (limBad n buf line run now) cwd.data.toList = none := by
      have hb : limBad n buf line run now = true := by unfold limBad; simp [a3]
      rw [hb]; rfl
     have HM := Lib.hid hm
     clear hm
     go_wp2_with (go_at_call 15; refine HLD.out.mono ?_; rintro e w2 ⟨hb2, t, bs, rfl, hT⟩; obtain ⟨c0, c2, c5, c6, c7, c9, l2⟩ := HCS.out w2 hb2)
     go_returns
     exact ⟨by rw [HM.out]; rfl, H1.out.trans (hb2.mono HLG.out)⟩
   by_cases a4 : run < line
   · have hm : Abs.mayT (some s) (limBad n buf line run now) cwd.data.toList = none := by
      have hb : limBad n buf line run now = true := by unfold limBad; simp [a4]
      rw [hb]; rfl
     have HM := Lib.hid hm
     clear hm
     go_wp2_with (go_at_call 15; refine HLD.out.mono ?_; rintro e w2 ⟨hb2, t, bs, rfl, hT⟩; obtain ⟨c0, c2, c5, c6, c7, c9, l2⟩ := HCS.out w2 hb2)
     go_returns
     exact ⟨by rw [HM.out]; rfl, H1.out.trans (hb2.mono HLG.out)⟩
   by_cases a5 : 1099511627776 < buf
   · have hm : Abs.mayT (some s) (limBad n buf line run now) cwd.data.toList = none := by
      have hb : limBad n buf line run now = true := by unfold limBad; rw [decide_eq_true (show 1099511627776 < max buf run by omega)]; simp
      rw [hb]; rfl
     have HM := Lib.hid hm
     clear hm
     go_wp2_with (go_at_call 15; refine HLD.out.mono ?_; rintro e w2 ⟨hb2, t, bs, rfl, hT⟩; obtain ⟨c0, c2, c5, c6, c7, c9, l2⟩ := HCS.out w2 hb2)
     go_returns
     exact ⟨by rw [HM.out]; rfl, H1.out.trans (hb2.mono HLG.out)⟩
   by_cases a6 : 1099511627776 < run
   · have hm : Abs.mayT (some s) (limBad n buf line run now) cwd.data.toList = none := by
      have hb : limBad n buf line run now = true := by unfold limBad; rw [decide_eq_true (show 1099511627776 < max buf run by omega)]; simp
      rw [hb]; rfl
     have HM := Lib.hid hm
     clear hm
     go_wp2_with (go_at_call 15; refine HLD.out.mono ?_; rintro e w2 ⟨hb2, t, bs, rfl, hT⟩; obtain ⟨c0, c2, c5, c6, c7, c9, l2⟩ := HCS.out w2 hb2)
     go_returns
     exact ⟨by rw [HM.out]; rfl, H1.out.trans (hb2.mono HLG.out)⟩
   by_cases a7 : now < 0
   · have hm : Abs.mayT (some s) (limBad n buf line run now) cwd.data.toList = none := by
      have hb : limBad n buf line run now = true := by unfold limBad; simp [a7]
      rw [hb]; rfl
     have HM := Lib.hid hm
     clear hm
     go_wp2_with (go_at_call 15; refine HLD.out.mono ?_; rintro e w2 ⟨hb2, t, bs, rfl, hT⟩; obtain ⟨c0, c2, c5, c6, c7, c9, l2⟩ := HCS.out w2 hb2)
     go_returns
     exact ⟨by rw [HM.out]; rfl, H1.out.trans (hb2.mono HLG.out)⟩
   by_cases a8 : 1099511627776 < now
   · have hm : Abs.mayT (some s) (limBad n buf line run now) cwd.data.toList = none := by
      have hb : limBad n buf line run now = true := by unfold limBad; simp [a8]
      rw [hb]; rfl
     have HM := Lib.hid hm
     clear hm
     go_wp2_with (go_at_call 15; refine HLD.out.mono ?_; rintro e w2 ⟨hb2, t, bs, rfl, hT⟩; obtain ⟨c0, c2, c5, c6, c7, c9, l2⟩ := HCS.out w2 hb2)
     go_returns
     exact ⟨by rw [HM.out]; rfl, H1.out.trans (hb2.mono HLG.out)⟩
   have hb : limBad n buf line run now = false := by
    unfold limBad
    rw [decide_eq_false a1, decide_eq_false a2, decide_eq_false a3, decide_eq_false a4, decide_eq_false (show ¬ 1099511627776 < max buf run by omega), decide_eq_false a7, decide_eq_false a8]
    rfl
   have HLB := Lib.hid hb
   clear hb
   have hln : (47 :: cwd.data.toList).length <= 2147483648 := by
    have h1 := HCW.out
    have h2 : cwd.data.toList.length = cwd.size := by rw [Array.length_toList]; rfl
    rw [List.length_cons]; omega
   have hfind := fun W t bs (hT : RTree W w1.heap.size t s.T bs) => refFind W w1.heap.size t s.T bs hT [] (47 :: cwd.data.toList) (by decide) hln
   have hre : (strB [] : ByteArray) = ⟨#[]⟩ := rfl
   rw [hre] at hfind
   have hst := strB_stroke cwd
   have no1 : ¬ 9223372036854775807 < 1 + cwd.size := by have := HCW.out; omega
   clear hre hln
   cases hlk : s.T.look [] (47 :: cwd.data.toList) with
   | error er =>
     simp only [hlk] at hfind
     have her := Abs.T.look_ne0 hlk
     have hne : ((er : Int) == 0) = false := by simpa using her
     have hm : Abs.mayT (some s) false cwd.data.toList = none := by unfold Abs.mayT; simp [hlk]
     have HM := Lib.hid hm
     unfold leadsE at hfind
     have HFD := Lib.hid hfind
     clear hm her hlk hfind
     go_wp2_with (first
      | (go_at_call 15; refine HLD.out.mono ?_; rintro e w2 ⟨hb2, t, bs, rfl, hT⟩; obtain ⟨c0, c2, c5, c6, c7, c9, l2⟩ := HCS.out w2 hb2)
      | (go_at_call 41; refine (HFD.out w2 t bs hT).mono ?_; rintro e w3 ⟨rfl, hb3⟩))
     go_returns
     exact ⟨by rw [HLB.out, HM.out]; rfl, H1.out.trans ((below_thru hb2 hb3).mono HLG.out)⟩
   | ok j =>
     simp only [hlk] at hfind
     unfold leadsE at hfind
     dsimp only at hfind
     have HFD := Lib.hid hfind
     cases hz : s.T.get j with
     | none =>
       have HC := Lib.hid (And.intro hlk hz)
       clear hlk hz hfind
       go_wp2_with (go_at_call 15; refine HLD.out.mono ?_; rintro e w2 ⟨hb2, t, bs, rfl, hT⟩; obtain ⟨z, hz⟩ := hT.wf.look_live HC.out.1; rw [HC.out.2] at hz; cases hz)
     | some z =>
       obtain ⟨zd, hzd⟩ : ∃ zd, z.dir = zd := ⟨_, rfl⟩
       have hm : (Abs.mayT (some s) false cwd.data.toList).isSome = zd := by
        unfold Abs.mayT
        simp only [hlk, hz, hzd, Option.any_some, Bool.false_eq_true, if_false]
        cases zd <;> rfl
       have HM := Lib.hid hm
       have HZ := Lib.hid (And.intro hz hzd)
       clear hm hlk hz hzd hfind
       go_wp2_with (first
        | (go_at_call 15; refine HLD.out.mono ?_; rintro e w2 ⟨hb2, t, bs, rfl, hT⟩; obtain ⟨c0, c2, c5, c6, c7, c9, l2⟩ := HCS.out w2 hb2)
        | (go_at_call 41; refine (HFD.out w2 t bs hT).mono ?_; rintro e w3 ⟨rfl, hb3⟩
           have hT3 := hT.below hb3
           obtain ⟨up, dv, nv, hbk, _⟩ := hT3.at_ HZ.out.1
           have i1 : w3.cell? ⟨bAt s.T.ents bs j, 1, none⟩ = some (.bool zd) := by rw [<- HZ.out.2]; exact hbk.cell 1
           have li := hbk.lt)
        | (go_at_call 42; refine (refItem_at hT3 HZ.out.1).mono ?_; rintro e w4 ⟨rfl, h4⟩; obtain rfl : w3 = w4 := h4.symm))
       go_returns
       exact ⟨by rw [HLB.out, HM.out]; rfl, H1.out.trans ((below_thru hb2 hb3).mono HLG.out)⟩
end
end Go.Proofs.YtffffjngodinnaaGreatDoor
