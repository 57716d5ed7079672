/-
  Parts of the proof: Walks over attempt and goOn where main comes to its end; What acts ask of the numbers is met when all is small: plain.
-/
import Derived.Test.YtlncmknikjloeaaGreatDoorV23
import Derived.Test.YtlncmknikjloeaaGreatDoorV22

section
namespace Go.Proofs.YtlncmknikjloeaaGreatDoor
open Go.RowKit Go.Maps

set_option maxRecDepth 100000 in
set_option maxHeartbeats 2000000 in
theorem attempt_over (w : World) (m p : Nat) (id : FuncId) (caps : Array Value) (st : Int) (R : World → World → Int → Prop) (hm : MachAt w m p (.func (.func id) #[] caps) false st)
    (hen : ∀ args W, (callFunc id args).run Tryz.prog W = .ok (.enter id args) W)
    (hmain : ∀ W, Below w.heap.size w W → Calls Tryz.prog id (#[.pointer (some ⟨p, 0, none⟩)] ++ caps) W fun e w' => ∃ n, e = .returned (.int .i64 n) ∧ R W w' n ∧ Keeps W w') :
    Calls Tryz.prog 58 #[.pointer (some ⟨m, 0, none⟩)] w fun e w' => e = .returned (.bool true) ∧ ∃ W w1 n, Below w.heap.size w W ∧ R W w1 n ∧ Blk w1 (w.heap.size + 1) 4 #[.bool false] ∧ Blk w1 m 116 #[.pointer (some ⟨p, 0, none⟩), .func (.func id) #[] caps, .bool false, .int .i64 st] ∧ Turns [m, w.heap.size + 1] w1 w' ∧ MachAt w' m p (.func (.func id) #[] caps) false n := by
  have hmf : ∀ (fn : Fn) (first cap : Array Value) (w : World), (Instr.makeFunc fn first cap).run Tryz.prog w = .ok (.func fn first cap) w := fun _ _ _ _ => rfl
  have HEN := Lib.hid hen
  have HM := Lib.hid hmain
  clear hen hmain
  go_enter_defers Tryz.func58, Tryz.ntmps58
  go_wp2_with fail
  obtain ⟨W, hW⟩ : ∃ W, (w.alloc (.cells #[.pointer (some ⟨m, 0, none⟩)] 43)).alloc (.cells #[.bool false] 4) = W := ⟨_, rfl⟩
  rw [hW]
  have hbW : Below w.heap.size w W := by rw [← hW]; exact below_box (below_one w _) (Nat.le_refl _) _
  have kb : Blk W w.heap.size 43 #[.pointer (some ⟨m, 0, none⟩)] := by rw [← hW]; exact (Blk.new w _ _).alloc _
  have ko : Blk W (w.heap.size + 1) 4 #[.bool false] := by rw [← hW]; exact Blk.newNext w _ _ _
  have km : MachAt W m p (.func (.func id) #[] caps) false st := Blk.on hm hbW
  have vm : MachAt W.drew m p (.func (.func id) #[] caps) false st := km
  have b0 : W.cell? ⟨w.heap.size, 0, none⟩ = some (.pointer (some ⟨m, 0, none⟩)) := kb.cell 0
  have m0 : W.cell? ⟨m, 0, none⟩ = some (.pointer (some ⟨p, 0, none⟩)) := km.cell 0
  have m1 : W.cell? ⟨m, 1, none⟩ = some (.func (.func id) #[] caps) := km.cell 1
  have hcall := HM.out W.drew (hbW.trans (below_drew _ 1))
  have hVs : w.heap.size + 1 < W.heap.size := ko.lt
  have hml : m < w.heap.size := hm.lt
  have KM := Lib.hid km
  have KB := Lib.hid kb
  have KO := Lib.hid ko
  have HC := Lib.hid hcall
  have hen2 := HEN.out
  clear hW km kb ko vm hcall
  go_region_held3 (fun Z => Z.cell? ⟨w.heap.size, 0, none⟩ = some (.pointer (some ⟨m, 0, none⟩)) ∧ Z.cell? ⟨m, 0, none⟩ = some (.pointer (some ⟨p, 0, none⟩)) ∧ Z.cell? ⟨m, 1, none⟩ = some (.func (.func id) #[] caps))
    (first | (refine ⟨?_, ?_, ?_⟩ <;> assumption) | (refine ⟨?_, ?_, ?_⟩ <;> (rw [World.cell?_setCell_other _ _ _ _ (by first | (simp; done) | (simp; omega))]; assumption)) | go_keep)
    (first | (refine HC.out.mono ?_; rintro e w1 ⟨n, rfl, hR1, hk1⟩
              have q := hk1 _ _ _ (show Blk W.drew m 116 _ from KM.out) (.inl rfl)
              have qb := hk1 _ _ _ (show Blk W.drew w.heap.size 43 _ from KB.out) (.inr (.inr rfl))
              have q0 : w1.cell? ⟨m, 0, none⟩ = some (.pointer (some ⟨p, 0, none⟩)) := Blk.cell q 0
              have q1 : w1.cell? ⟨m, 1, none⟩ = some (.func (.func id) #[] caps) := Blk.cell q 1
              have q3 : w1.cell? ⟨m, 3, none⟩ = some (.int .i64 st) := Blk.cell q 3
              have r3 : w1.frozen? ⟨m, 3, none⟩ = false := Blk.frozen q 3
              have p0 : w1.cell? ⟨w.heap.size, 0, none⟩ = some (.pointer (some ⟨m, 0, none⟩)) := Blk.cell qb 0))
  have qo := hk1 _ _ _ (show Blk W.drew (w.heap.size + 1) 4 _ from KO.out) (.inr (.inl rfl))
  have o0 : w1.cell? ⟨w.heap.size + 1, 0, none⟩ = some (.bool false) := Blk.cell qo 0
  have o1 : w1.frozen? ⟨w.heap.size + 1, 0, none⟩ = false := Blk.frozen qo 0
  have hne : ¬ m = w.heap.size + 1 := by omega
  go_wp2_with fail
  refine leaves_cons (f := 69) (args := #[.pointer (some ⟨w.heap.size + 1, 0, none⟩), .pointer (some ⟨w.heap.size, 0, none⟩)]) (by simp) (by simp [go_sem]) ?_
  refine (catch_idle ⟨w.heap.size + 1, 0, none⟩ ⟨w.heap.size, 0, none⟩ _).mono ?_
  rintro e u' w'' ⟨rfl, rfl, rfl⟩
  have z0 : ((w1.setCell ⟨m, 3, none⟩ (.int .i64 n)).setCell ⟨w.heap.size + 1, 0, none⟩ (.bool true)).cell? ⟨w.heap.size + 1, 0, none⟩ = some (.bool true) := Blk.cell ((Blk.far qo (by show w.heap.size + 1 ≠ m; omega) _).set_ 0 (.bool true)) 0
  simp [Leaves, settle, results, Tryz.results58, go_sem, z0]
  have hTm : Turns [m, w.heap.size + 1] w1 ((w1.setCell ⟨m, 3, none⟩ (.int .i64 n)).setCell ⟨w.heap.size + 1, 0, none⟩ (.bool true)) := ((Turns.refl _ w1).setCell _ _ (by simp)).setCell _ _ (by simp)
  exact ⟨W.drew, hbW.trans (below_drew W 1), w1, n, hR1, qo, q, hTm, Blk.far (Blk.set_ q 3 _) (by show m ≠ w.heap.size + 1; omega) _⟩

set_option maxRecDepth 100000 in
set_option maxHeartbeats 4000000 in
theorem goOn_over (w : World) (m p : Nat) (J : PS) (id : FuncId) (caps : Array Value) (st : Int) (D : Nat → Value) (hD : Plain D) (R : World → World → PS → Prop) (hm : MachAt w m p (.func (.func id) #[] caps) false st) (hp : ProcOf w p J) (rs : Int)
    (hen : ∀ args W, (callFunc id args).run Tryz.prog W = .ok (.enter id args) W)
    (hmain : ∀ W, Turns [p] w W → ProcOf W p { J with at_ := 0, held := 0 } → Calls Tryz.prog id (#[.pointer (some ⟨p, 0, none⟩)] ++ caps) W fun e w' => ∃ n, e = .returned (.int .i64 n) ∧ (n = rs ∧ ∃ J1, R W w' J1 ∧ ProcOf w' p J1 ∧ TableOf w' J1.tb J1.k D) ∧ Keeps W w') :
    Calls Tryz.prog 41 #[.pointer (some ⟨m, 0, none⟩)] w fun e w' => e = .returned (.tuple #[]) ∧ ∃ B W w1 J1, Turns [p] w W ∧ R W w1 J1 ∧ ProcOf w1 p J1 ∧ TableOf w1 J1.tb J1.k D ∧ w.heap.size ≤ B ∧ Blk w1 B 4 #[.bool false] ∧ (∃ cs, Blk w1 m 116 cs) ∧ Turns [B, m, p, J1.tb] w1 w' ∧ MachAt w' m p (.func (.func id) #[] caps) true rs ∧ ProcOf w' p J1.over ∧ TableOf w' J1.tb J1.k (fun _ => .nilIface) := by
  have hb := hp.blk
  obtain ⟨V, hV⟩ : ∃ V, w.drew = V := ⟨_, rfl⟩
  have vp : ProcOf V p J := by rw [← hV]; exact hp.same fun _ _ => rfl
  have vm : MachAt V m p (.func (.func id) #[] caps) false st := by rw [← hV]; exact hm
  have pV := vp.blk
  have v0 : V.cell? ⟨m, 0, none⟩ = some (.pointer (some ⟨p, 0, none⟩)) := vm.cell 0
  have v8 : V.cell? ⟨p, 8, none⟩ = some (.int .i64 J.held) := by rw [pV.cell 8]; simp [procCells]
  have v11 : V.cell? ⟨p, 11, none⟩ = some (.int .i64 (J.at_ : Int)) := by rw [pV.cell 11]; simp [procCells]
  have i8 : V.frozen? ⟨p, 8, none⟩ = false := pV.frozen 8
  have i11 : V.frozen? ⟨p, 11, none⟩ = false := pV.frozen 11
  have hmp : m ≠ p := Blk.ne_ hm hb (by decide)
  obtain ⟨Y, hY⟩ : ∃ Y, ((V.setCell ⟨p, 11, none⟩ (.int .i64 0)).setCell ⟨p, 8, none⟩ (.int .i64 0)) = Y := ⟨_, rfl⟩
  have TY : Turns [p] V Y := by rw [← hY]; exact (((Turns.refl _ V).setCell ⟨p, 11, none⟩ _ (fun _ => List.mem_singleton.2 rfl)).setCell ⟨p, 8, none⟩ _ (fun _ => List.mem_singleton.2 rfl))
  have T0 : Turns [p] w Y := by
    have h1 : Turns [p] w V := by rw [← hV]; exact (Turns.refl _ w).drew
    exact h1.trans TY
  have ym : MachAt Y m p (.func (.func id) #[] caps) false st := (TY.block m vm.lt (by rw [List.mem_singleton]; exact hmp)).trans vm
  have yp : ProcOf Y p { J with at_ := 0, held := 0 } := by
    refine ⟨?_, ownsRow_same vp.args fun g hg => TY.block g (vp.args.lt g hg).2 ?_, ownsRow_same vp.env fun g hg => TY.block g (vp.env.lt g hg).2 ?_, ownsRow_same vp.log fun g hg => TY.block g (vp.log.lt g hg).2 ?_⟩
    · rw [← hY]
      have h1 := (pV.set_ 11 (.int .i64 0)).set_ 8 (.int .i64 0)
      rw [show procCells { J with at_ := 0, held := 0 } = ((procCells J).setIfInBounds 11 (.int .i64 0)).setIfInBounds 8 (.int .i64 0) by simp [procCells]]
      exact h1
    all_goals
      rw [List.mem_singleton]
      rintro rfl
    · exact own_blk_ne vp.args pV (by decide) hg
    · exact own_blk_ne vp.env pV (by decide) hg
    · exact own_blk_ne vp.log pV (by decide) hg
  have hys : w.heap.size ≤ Y.heap.size := T0.size
  have hatt := attempt_over Y m p id caps st (fun W w' n => n = rs ∧ ∃ J1, R W w' J1 ∧ ProcOf w' p J1 ∧ TableOf w' J1.tb J1.k D) ym hen (fun W hW => hmain W (T0.trans ((Turns.of_below hW).more (by simp))) (yp.below hW))
  have HA := Lib.hid hatt
  have HT := Lib.hid T0
  clear hatt T0 hen hmain TY ym yp hb pV vp vm
  go_enter Tryz.func41, Tryz.ntmps41
  go_wp2_with fail
  refine still_tail 8 V hV (by kernel_rfl) (by kernel_rfl) ?_
  simp only [List.take_succ_cons, List.take_zero, List.drop_succ_cons, List.drop_zero]
  repeat still_step
  refine wpStill_nil ?_
  go_wp2_with (first
    | (go_at_call 58; refine HA.out.mono ?_; rintro e w1 ⟨rfl, W, w2, n, hW, ⟨rfl, J1, hR, hP, hTb⟩, hB, hMk, hT, hM⟩
       have hBp : ∀ g ∈ J1.foot p, g ∉ [m, Y.heap.size + 1] := fun g hg hm' => by
         simp only [List.mem_cons, List.not_mem_nil, or_false] at hm'
         rcases hm' with rfl | rfl
         · exact hP.off hMk (by decide) (by decide) (by decide) hg
         · exact hP.off hB (by decide) (by decide) (by decide) hg
       have P1 := hP.turns hT hBp
       have T1 : TableOf w1 J1.tb J1.k D := (hT.block _ (Blk.lt hTb) (by simp only [List.mem_cons, List.not_mem_nil, or_false, not_or]; exact ⟨Blk.ne_ hTb hMk (by decide), Blk.ne_ hTb hB (by decide)⟩)).trans hTb)
    | (go_at_call 40; refine (ended_any w1 m p J1 D _ n hM P1 T1 hD).mono ?_; rintro e w3 ⟨rfl, hm3, hp3, ht3, hT3⟩))
  go_returns
  exact ⟨rfl, Y.heap.size + 1, W, w2, J1, HT.out.trans ((Turns.of_below hW).more (by simp)), hR, hP, hTb, by omega, hB, ⟨_, hMk⟩, (hT.more (by simp)).trans (hT3.more (by simp)), hm3, hp3, ht3⟩

end Go.Proofs.YtlncmknikjloeaaGreatDoor
end

section
namespace Go.Proofs.YtlncmknikjloeaaGreatDoor

namespace PF
variable {fl : List (Int × Int)}
/-- what may not grow much -/
structure Grew (fl : List (Int × Int)) (s s' : PF) (d e : Nat) : Prop where
  used : s.used ≤ fl.length → s'.used ≤ fl.length
  steps : s.used ≤ fl.length → s'.steps + s'.left fl + s'.inb.length ≤ s.steps + s.left fl + s.inb.length + d
  said : ∀ b, (s'.said b).length + s'.inb.length ≤ (s.said b).length + s.inb.length + e
theorem Grew.trans {s s' s'' : PF} {d e d' e' : Nat} (h : Grew fl s s' d e) (h' : Grew fl s' s'' d' e') : Grew fl s s'' (d + d') (e + e') :=
  ⟨fun hu => h'.used (h.used hu), fun hu => by have := h.steps hu; have := h'.steps (h.used hu); omega, fun b => by have := h.said b; have := h'.said b; omega⟩
theorem Grew.refl (s : PF) : Grew fl s s 0 0 := ⟨id, fun _ => Nat.le_refl _, fun _ => Nat.le_refl _⟩
theorem Grew.more {s s' : PF} {d e d' e' : Nat} (h : Grew fl s s' d e) (hd : d ≤ d') (he : e ≤ e') : Grew fl s s' d' e' :=
  ⟨h.used, fun hu => by have := h.steps hu; omega, fun b => by have := h.said b; omega⟩
theorem grew_failed {s : PF} (h : wErr (s.next fl) ≠ 0 ∨ (s.next fl).1 = 2) : Grew fl s (s.failed fl) 0 0 := by
  refine ⟨fun hu => (took_le hu).1, fun hu => ?_, fun b => Nat.le_refl _⟩
  have ht := took_lt h hu
  show s.steps + 1 + (fl.length - s.took fl) + s.inb.length ≤ s.steps + (fl.length - s.used) + s.inb.length + 0
  omega
theorem grew_wrote {s : PF} (b : Bool) (bs : List UInt8) : Grew fl s (s.wrote fl b bs) 1 bs.length := by
  refine ⟨fun hu => (took_le hu).1, fun hu => ?_, fun b' => ?_⟩
  · have ht := took_le (fl := fl) hu
    show s.steps + 1 + (fl.length - s.took fl) + s.inb.length ≤ s.steps + (fl.length - s.used) + s.inb.length + 1
    omega
  · show (if b' = b then s.said b ++ bs else s.said b').length + s.inb.length ≤ _
    split
    · subst b'; rw [List.length_append]; omega
    · omega
theorem grew_all : ∀ (f : Nat) (s : PF) (b : Bool) (bs : List UInt8), Grew fl s (all fl f s b bs).1 bs.length bs.length ∧ (all fl f s b bs).1.held = s.held
  | 0, s, b, bs => ⟨(Grew.refl s).more (Nat.zero_le _) (Nat.zero_le _), rfl⟩
  | f + 1, s, b, bs => by
    rw [all]
    split
    · exact ⟨(Grew.refl s).more (Nat.zero_le _) (Nat.zero_le _), rfl⟩
    · rename_i hne
      have hpos := List.length_pos_iff.2 hne
      split
      · rename_i h9
        have ih := grew_all f (s.failed fl) b bs
        exact ⟨((grew_failed (.inl (by rw [h9]; decide))).trans ih.1).more (by omega) (by omega), ih.2⟩
      · split
        · have hp := some_pos (fl := fl) (s := s) hpos
          have ih := grew_all f (s.wrote fl b (bs.take (s.some_ fl bs.length))) b (bs.drop (s.some_ fl bs.length))
          refine ⟨((grew_wrote b (bs.take (s.some_ fl bs.length))).trans ih.1).more ?_ ?_, ih.2⟩
          · rw [List.length_drop]; omega
          · rw [List.length_drop, List.length_take]; omega
        · rename_i h0
          exact ⟨(grew_failed (.inl h0)).more (Nat.zero_le _) (Nat.zero_le _), rfl⟩
/-- what was read counts as what is to be written -/
theorem grew_copies : ∀ (f : Nat) (s : PF) (m : Nat), Grew fl s (copy2 fl (reads fl f s m)).1 1 0 ∧ (copy2 fl (reads fl f s m)).1.held = s.held
  | 0, s, m => ⟨(Grew.refl s).more (by omega) (Nat.le_refl _), rfl⟩
  | f + 1, s, m => by
    rw [reads]
    split
    · rename_i h2
      have ih := grew_copies f (s.failed fl) m
      exact ⟨((grew_failed (.inr h2)).trans ih.1).more (by omega) (by omega), ih.2⟩
    · split
      · rename_i h4
        have hw : wErr (s.next fl) ≠ 0 := by unfold wErr; rw [if_neg (by rw [h4]; decide), if_pos h4]; decide
        exact ⟨(grew_failed (.inl hw)).more (by omega) (Nat.le_refl _), rfl⟩
      · obtain ⟨n, hn⟩ : ∃ n, s.some_ fl (min m s.inb.length) = n := ⟨_, rfl⟩
        have hnl := some_le (fl := fl) (s := s) (min m s.inb.length)
        rw [hn] at hnl ⊢
        have htl : (s.inb.take n).length = n := by rw [List.length_take]; omega
        have ih := grew_all (fl := fl) ((s.read fl n).left fl + (s.inb.take n).length + 1) (s.read fl n) true (s.inb.take n)
        rw [htl] at ih
        have hdl : (s.read fl n).inb.length = s.inb.length - n := List.length_drop
        show Grew fl s (all fl ((s.read fl n).left fl + (s.inb.take n).length + 1) (s.read fl n) true (s.inb.take n)).1 1 0 ∧ (all fl ((s.read fl n).left fl + (s.inb.take n).length + 1) (s.read fl n) true (s.inb.take n)).1.held = s.held
        rw [htl]
        refine ⟨⟨fun hu => ih.1.used (took_le hu).1, fun hu => ?_, fun b => ?_⟩, ih.2⟩
        · have h1 := ih.1.steps (took_le (fl := fl) hu).1
          have h2 := took_le (fl := fl) hu
          have h3 : (s.read fl n).steps = s.steps + 1 := rfl
          have h4 : (s.read fl n).left fl ≤ s.left fl := by show fl.length - s.took fl ≤ fl.length - s.used; omega
          rw [hdl] at h1
          omega
        · have h1 := ih.1.said b
          have h2 : (s.read fl n).said b = s.said b := rfl
          rw [hdl, h2] at h1
          omega
theorem grew_act (s : PF) (k n : Int) (bs : List UInt8) : Grew fl s (s.act fl k n bs).1 (bs.length + 1) bs.length := by
  unfold act
  split
  · exact (grew_copies _ s _).1.more (by omega) (by omega)
  split
  · exact (grew_all _ s true bs).1.more (by omega) (by omega)
  split
  · exact (grew_all _ s false bs).1.more (by omega) (by omega)
  split
  · exact ⟨id, fun _ => by show s.steps + (fl.length - s.used) + s.inb.length ≤ s.steps + (fl.length - s.used) + s.inb.length + _; omega, fun b => by show (s.said b).length + s.inb.length ≤ _; omega⟩
  split
  · exact ⟨id, fun _ => by show s.steps + (fl.length - s.used) + s.inb.length ≤ s.steps + (fl.length - s.used) + s.inb.length + _; omega, fun b => by show (s.said b).length + s.inb.length ≤ _; omega⟩
  split
  · exact (Grew.refl s).more (by omega) (by omega)
  · exact (Grew.refl s).more (by omega) (by omega)
theorem held_act (s : PF) (k n : Int) (bs : List UInt8) (h : Nat) (hh : s.held = (h : Int)) : ∃ h' : Nat, (s.act fl k n bs).1.held = (h' : Int) ∧ (h' : Int) ≤ h + max 0 n := by
  unfold act
  split
  · exact ⟨h, (grew_copies _ s _).2.trans hh, by omega⟩
  split
  · exact ⟨h, (grew_all _ s true bs).2.trans hh, by omega⟩
  split
  · exact ⟨h, (grew_all _ s false bs).2.trans hh, by omega⟩
  split
  · exact ⟨((h : Int) + max 0 n).toNat, by show s.held + max 0 n = _; rw [hh]; omega, by omega⟩
  split
  · refine ⟨(dropped h n).toNat, ?_, ?_⟩
    · show dropped s.held n = _
      rw [hh]
      unfold dropped
      split <;> omega
    · unfold dropped
      split <;> omega
  split
  · exact ⟨h, hh, by omega⟩
  · exact ⟨h, hh, by omega⟩

/-- how much acts bring along; how much they hold -/
def bulk (l : List ActIt) : Nat := (l.map fun a => a.bs.length + 1).sum
def held_ (l : List ActIt) : Int := (l.map fun a => max 0 a.n).sum
theorem held_nonneg (l : List ActIt) : 0 ≤ held_ l := by
  induction l with
  | nil => exact Int.le_refl _
  | cons a l ih => simp only [held_, List.map_cons, List.sum_cons] at ih ⊢; omega
theorem fits_small : ∀ (l : List ActIt) (s : PF), s.used ≤ fl.length → (∀ a ∈ l, -9223372036854775808 ≤ a.n ∧ a.n ≤ 9223372036854775807) → s.steps + s.left fl + s.inb.length + bulk l + 2 < 4611686018427387904 →
    (∀ b, (s.said b).length + s.inb.length + bulk l ≤ 140737488355000) → (∃ h : Nat, s.held = (h : Int) ∧ (h : Int) + held_ l < 4611686018427387904) → s.FitsAll fl l
  | [], _, _, _, _, _, _ => trivial
  | a :: l, s, hu, hn, hs, hd, ⟨h, hh, hhl⟩ => by
    have hb : bulk (a :: l) = a.bs.length + 1 + bulk l := by simp [bulk]
    have hc : held_ (a :: l) = max 0 a.n + held_ l := by simp [held_]
    have hp := held_nonneg l
    rw [hb] at hs
    rw [hc] at hhl
    have hg := grew_act (fl := fl) s a.k a.n a.bs
    obtain ⟨h', h1, h2⟩ := held_act (fl := fl) s a.k a.n a.bs h hh
    refine ⟨⟨hn a (by simp), by omega, fun b => by have := hd b; rw [hb] at this; omega, h, hh, by omega⟩, ?_⟩
    refine fits_small l _ (hg.used hu) (fun x hx => hn x (by simp [hx])) ?_ (fun b => ?_) ⟨h', h1, by omega⟩
    · have := hg.steps hu
      omega
    · have h3 := hg.said b
      have h4 := hd b
      rw [hb] at h4
      omega
end PF

end Go.Proofs.YtlncmknikjloeaaGreatDoor
end
