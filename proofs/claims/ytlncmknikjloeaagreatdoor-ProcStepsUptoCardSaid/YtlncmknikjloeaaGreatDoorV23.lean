/-
  Parts of the proof: A walk over attempt where main has to wait; A walk over goOn where main has to wait.
-/
import Derived.Test.YtlncmknikjloeaaGreatDoorV16
import Derived.OrdersHeld
import Derived.Deep.RegionHeld
import Derived.Test.YtlncmknikjloeaaGreatDoorV10

section
namespace Go.Proofs.YtlncmknikjloeaaGreatDoor
open Go.RowKit Go.Maps

theorem leaves_tmps {P : Program} {fn : Func} {t t' : Array Value} {R : Ending → World → Prop} (h : ∀ w, (results fn t').run P w = (results fn t).run P w) : ∀ (ds : List Deferred) (u : FrameMode) (w : World), Leaves P fn t R ds u w → Leaves P fn t' R ds u w
  | [], .returning, w, hl => by
    obtain ⟨v, h1, h2⟩ := hl
    exact ⟨v, (h w).trans h1, h2⟩
  | [], .panicking _, _, hl => hl
  | [], .run, _, hl => hl
  | _ :: ds, _, w, hl => by
    obtain ⟨h1, fv, cap, f, args, h2, h3, h4⟩ := hl
    refine ⟨h1, fv, cap, f, args, h2, h3, h4.mono fun e u' w' he => ?_⟩
    cases e with
    | returned v => exact leaves_tmps h ds _ _ he
    | panicked c => exact leaves_tmps h ds _ _ he
    | outgrown => exact he

/-- what main keeps of the machine's own blocks -/
def Keeps (W w' : World) : Prop := ∀ g t cs, Blk W g t cs → t = 116 ∨ t = 4 ∨ t = 43 → Blk w' g t cs

set_option linter.unusedSimpArgs false in
set_option maxRecDepth 100000 in
set_option maxHeartbeats 4000000 in
theorem attempt_waits (w : World) (m p : Nat) (id : FuncId) (caps : Array Value) (st : Int) (R : World → World → Prop) (hm : MachAt w m p (.func (.func id) #[] caps) false st)
    (hen : ∀ args W, (callFunc id args).run Tryz.prog W = .ok (.enter id args) W)
    (hmain : ∀ W, Below w.heap.size w W → Calls Tryz.prog id (#[.pointer (some ⟨p, 0, none⟩)] ++ caps) W fun e w' => e = .panicked waitsP ∧ R W w' ∧ Keeps W w') :
    Calls Tryz.prog 58 #[.pointer (some ⟨m, 0, none⟩)] w fun e w' => e = .returned (.bool false) ∧ ∃ W w1, Below w.heap.size w W ∧ R W w1 ∧ Blk w1 (w.heap.size + 1) 4 #[.bool false] ∧ Turns [w.heap.size + 1] w1 w' ∧ MachAt w' m p (.func (.func id) #[] caps) false st := by
  have hmf : ∀ (fn : Fn) (first cap : Array Value) (w : World), (Instr.makeFunc fn first cap).run Tryz.prog w = .ok (.func fn first cap) w := fun _ _ _ _ => rfl
  have HEN := Lib.hid hen
  have HM := Lib.hid hmain
  clear hen hmain
  go_enter_defers Tryz.func58, Tryz.ntmps58
  go_wp2_with fail
  obtain ⟨W, hW⟩ : ∃ W, (w.alloc (.cells #[.pointer (some ⟨m, 0, none⟩)] 43)).alloc (.cells #[.bool false] 4) = W := ⟨_, rfl⟩
  rw [hW]
  have hbW : Below w.heap.size w W := by rw [← hW]; exact below_box (below_one w _) (Nat.le_refl _) _
  have kb : Blk W w.heap.size 43 #[.pointer (some ⟨m, 0, none⟩)] := by rw [← hW]; exact (Blk.new w _ _).alloc _
  have ko : Blk W (w.heap.size + 1) 4 #[.bool false] := by rw [← hW]; exact Blk.newNext w _ _ _
  have km : MachAt W m p (.func (.func id) #[] caps) false st := Blk.on hm hbW
  have x0 : W.drew.cell? ⟨w.heap.size, 0, none⟩ = some (.pointer (some ⟨m, 0, none⟩)) := kb.cell 0
  have x1 : W.drew.cell? ⟨m, 0, none⟩ = some (.pointer (some ⟨p, 0, none⟩)) := km.cell 0
  have x2 : W.drew.cell? ⟨m, 1, none⟩ = some (.func (.func id) #[] caps) := km.cell 1
  have hcall := HM.out W.drew (hbW.trans (below_drew _ 1))
  have hen2 := HEN.out
  have HC := Lib.hid hcall
  clear hW hcall
  refine wp_region_held (S := fun Z => Z.cell? ⟨w.heap.size, 0, none⟩ = some (.pointer (some ⟨m, 0, none⟩)) ∧ Z.cell? ⟨m, 0, none⟩ = some (.pointer (some ⟨p, 0, none⟩)) ∧ Z.cell? ⟨m, 1, none⟩ = some (.func (.func id) #[] caps)) (by kernel_rfl) ?_
  refine wpAnyH_take (i := 0) (v := .pointer (some ⟨m, 0, none⟩)) rfl (by kernel_rfl) (by kernel_rfl) (by kernel_rfl) (fun c a w h => leaves_tmps (fun w => ?_) _ _ _ h) (Or.inl ⟨by rfl, ?_⟩) ⟨x0, x1, x2⟩ ?_
  · simp [results, Tryz.results58, Act.put, go_sem]
  · intro w hSw
    obtain ⟨e0, e1, e2⟩ := hSw
    go_simp
  try simp only [Act.put, List.setIfInBounds_toArray, List.set_cons_zero, List.set_cons_succ]
  refine wpAnyH_take (i := 1) (v := .pointer (some ⟨m, 0, none⟩)) rfl (by kernel_rfl) (by kernel_rfl) (by kernel_rfl) (fun c a w h => leaves_tmps (fun w => ?_) _ _ _ h) (Or.inl ⟨by rfl, ?_⟩) ⟨x0, x1, x2⟩ ?_
  · simp [results, Tryz.results58, Act.put, go_sem]
  · intro w hSw
    obtain ⟨e0, e1, e2⟩ := hSw
    go_simp
  try simp only [Act.put, List.setIfInBounds_toArray, List.set_cons_zero, List.set_cons_succ]
  refine wpAnyH_take (i := 2) (v := .pointer (some ⟨m, 0, none⟩)) rfl (by kernel_rfl) (by kernel_rfl) (by kernel_rfl) (fun c a w h => leaves_tmps (fun w => ?_) _ _ _ h) (Or.inl ⟨by rfl, ?_⟩) ⟨x0, x1, x2⟩ ?_
  · simp [results, Tryz.results58, Act.put, go_sem]
  · intro w hSw
    obtain ⟨e0, e1, e2⟩ := hSw
    go_simp
  try simp only [Act.put, List.setIfInBounds_toArray, List.set_cons_zero, List.set_cons_succ]
  refine wpAnyH_take (i := 3) (v := .pointer (some ⟨m, 1, none⟩)) rfl (by kernel_rfl) (by kernel_rfl) (by kernel_rfl) (fun c a w h => leaves_tmps (fun w => ?_) _ _ _ h) (Or.inl ⟨by rfl, ?_⟩) ⟨x0, x1, x2⟩ ?_
  · simp [results, Tryz.results58, Act.put, go_sem]
  · intro w hSw
    obtain ⟨e0, e1, e2⟩ := hSw
    go_simp
  try simp only [Act.put, List.setIfInBounds_toArray, List.set_cons_zero, List.set_cons_succ]
  refine wpAnyH_take (i := 4) (v := .func (.func id) #[] caps) rfl (by kernel_rfl) (by kernel_rfl) (by kernel_rfl) (fun c a w h => leaves_tmps (fun w => ?_) _ _ _ h) (Or.inl ⟨by rfl, ?_⟩) ⟨x0, x1, x2⟩ ?_
  · simp [results, Tryz.results58, Act.put, go_sem]
  · intro w hSw
    obtain ⟨e0, e1, e2⟩ := hSw
    go_simp
  try simp only [Act.put, List.setIfInBounds_toArray, List.set_cons_zero, List.set_cons_succ]
  refine wpAnyH_take (i := 5) (v := .pointer (some ⟨m, 0, none⟩)) rfl (by kernel_rfl) (by kernel_rfl) (by kernel_rfl) (fun c a w h => leaves_tmps (fun w => ?_) _ _ _ h) (Or.inl ⟨by rfl, ?_⟩) ⟨x0, x1, x2⟩ ?_
  · simp [results, Tryz.results58, Act.put, go_sem]
  · intro w hSw
    obtain ⟨e0, e1, e2⟩ := hSw
    go_simp
  try simp only [Act.put, List.setIfInBounds_toArray, List.set_cons_zero, List.set_cons_succ]
  refine wpAnyH_take (i := 6) (v := .pointer (some ⟨m, 0, none⟩)) rfl (by kernel_rfl) (by kernel_rfl) (by kernel_rfl) (fun c a w h => leaves_tmps (fun w => ?_) _ _ _ h) (Or.inl ⟨by rfl, ?_⟩) ⟨x0, x1, x2⟩ ?_
  · simp [results, Tryz.results58, Act.put, go_sem]
  · intro w hSw
    obtain ⟨e0, e1, e2⟩ := hSw
    go_simp
  try simp only [Act.put, List.setIfInBounds_toArray, List.set_cons_zero, List.set_cons_succ]
  refine wpAnyH_take (i := 7) (v := .pointer (some ⟨m, 0, none⟩)) rfl (by kernel_rfl) (by kernel_rfl) (by kernel_rfl) (fun c a w h => leaves_tmps (fun w => ?_) _ _ _ h) (Or.inl ⟨by rfl, ?_⟩) ⟨x0, x1, x2⟩ ?_
  · simp [results, Tryz.results58, Act.put, go_sem]
  · intro w hSw
    obtain ⟨e0, e1, e2⟩ := hSw
    go_simp
  try simp only [Act.put, List.setIfInBounds_toArray, List.set_cons_zero, List.set_cons_succ]
  refine wpAnyH_take (i := 8) (v := .pointer (some ⟨p, 0, none⟩)) rfl (by kernel_rfl) (by kernel_rfl) (by kernel_rfl) (fun c a w h => leaves_tmps (fun w => ?_) _ _ _ h) (Or.inl ⟨by rfl, ?_⟩) ⟨x0, x1, x2⟩ ?_
  · simp [results, Tryz.results58, Act.put, go_sem]
  · intro w hSw
    obtain ⟨e0, e1, e2⟩ := hSw
    go_simp
  try simp only [Act.put, List.setIfInBounds_toArray, List.set_cons_zero, List.set_cons_succ]
  refine wpAnyH_ready (rs := [9]) (by kernel_rfl) (by simp) ?_
  refine AllReadyH.cons rfl (fun K hK => ?_) ?_
  · rw [if_pos (by rfl)]
    go_simp
    refine HC.out.mono ?_
    rintro e w1 ⟨rfl, hR1, hk1⟩
    have ko1 := hk1 _ _ _ (show Blk W.drew (w.heap.size + 1) 4 #[.bool false] from ko) (.inr (.inl rfl))
    have km1 := hk1 _ _ _ (show Blk W.drew m 116 _ from km) (.inl rfl)
    have hml : m < w.heap.size := hm.lt
    refine leaves_cons (f := 69) (args := #[.pointer (some ⟨w.heap.size + 1, 0, none⟩), .pointer (some ⟨w.heap.size, 0, none⟩)]) (by simp) (by simp [go_sem]) ?_
    refine (catch_waits (w.heap.size + 1) ⟨w.heap.size, 0, none⟩ w1 _ ko1).mono ?_
    rintro e u' w2 ⟨rfl, rfl, hT2, hb2⟩
    have z0 := hb2.cell 0
    simp [Leaves, settle, results, Tryz.results58, go_sem, z0]
    exact ⟨W.drew, hbW.trans (below_drew W 1), w1, hR1, ko1, hT2, (hT2.block m km1.lt (by simp; omega)).trans km1⟩
  · exact AllReadyH.nil

end Go.Proofs.YtlncmknikjloeaaGreatDoor
end

section
namespace Go.Proofs.YtlncmknikjloeaaGreatDoor
open Go.RowKit Go.Maps

set_option maxRecDepth 100000 in
set_option maxHeartbeats 4000000 in
theorem goOn_waits (w : World) (m p : Nat) (J : PS) (id : FuncId) (caps : Array Value) (st : Int) (R : World → World → Prop) (hm : MachAt w m p (.func (.func id) #[] caps) false st) (hp : ProcOf w p J)
    (hen : ∀ args W, (callFunc id args).run Tryz.prog W = .ok (.enter id args) W)
    (hmain : ∀ W, Turns [p] w W → ProcOf W p { J with at_ := 0, held := 0 } → Calls Tryz.prog id (#[.pointer (some ⟨p, 0, none⟩)] ++ caps) W fun e w' => e = .panicked waitsP ∧ R W w' ∧ Keeps W w') :
    Calls Tryz.prog 41 #[.pointer (some ⟨m, 0, none⟩)] w fun e w' => e = .returned (.tuple #[]) ∧ ∃ B W w1, Turns [p] w W ∧ R W w1 ∧ w.heap.size ≤ B ∧ Blk w1 B 4 #[.bool false] ∧ Turns [B] w1 w' ∧ MachAt w' m p (.func (.func id) #[] caps) false st := by
  have hb := hp.blk
  obtain ⟨V, hV⟩ : ∃ V, w.drew = V := ⟨_, rfl⟩
  have vp : ProcOf V p J := by rw [← hV]; exact hp.same fun _ _ => rfl
  have vm : MachAt V m p (.func (.func id) #[] caps) false st := by rw [← hV]; exact hm
  have pV := vp.blk
  have v0 : V.cell? ⟨m, 0, none⟩ = some (.pointer (some ⟨p, 0, none⟩)) := vm.cell 0
  have v8 : V.cell? ⟨p, 8, none⟩ = some (.int .i64 J.held) := by rw [pV.cell 8]; simp [procCells]
  have v11 : V.cell? ⟨p, 11, none⟩ = some (.int .i64 (J.at_ : Int)) := by rw [pV.cell 11]; simp [procCells]
  have i8 : V.frozen? ⟨p, 8, none⟩ = false := pV.frozen 8
  have i11 : V.frozen? ⟨p, 11, none⟩ = false := pV.frozen 11
  have hmp : m ≠ p := Blk.ne_ hm hb (by decide)
  obtain ⟨Y, hY⟩ : ∃ Y, ((V.setCell ⟨p, 11, none⟩ (.int .i64 0)).setCell ⟨p, 8, none⟩ (.int .i64 0)) = Y := ⟨_, rfl⟩
  have TY : Turns [p] V Y := by rw [← hY]; exact (((Turns.refl _ V).setCell ⟨p, 11, none⟩ _ (fun _ => List.mem_singleton.2 rfl)).setCell ⟨p, 8, none⟩ _ (fun _ => List.mem_singleton.2 rfl))
  have T0 : Turns [p] w Y := by
    have h1 : Turns [p] w V := by rw [← hV]; exact (Turns.refl _ w).drew
    exact h1.trans TY
  have ym : MachAt Y m p (.func (.func id) #[] caps) false st := (TY.block m vm.lt (by rw [List.mem_singleton]; exact hmp)).trans vm
  have yp : ProcOf Y p { J with at_ := 0, held := 0 } := by
    refine ⟨?_, ownsRow_same vp.args fun g hg => TY.block g (vp.args.lt g hg).2 ?_, ownsRow_same vp.env fun g hg => TY.block g (vp.env.lt g hg).2 ?_, ownsRow_same vp.log fun g hg => TY.block g (vp.log.lt g hg).2 ?_⟩
    · rw [← hY]
      have h1 := (pV.set_ 11 (.int .i64 0)).set_ 8 (.int .i64 0)
      rw [show procCells { J with at_ := 0, held := 0 } = ((procCells J).setIfInBounds 11 (.int .i64 0)).setIfInBounds 8 (.int .i64 0) by simp [procCells]]
      exact h1
    all_goals
      rw [List.mem_singleton]
      rintro rfl
    · exact own_blk_ne vp.args pV (by decide) hg
    · exact own_blk_ne vp.env pV (by decide) hg
    · exact own_blk_ne vp.log pV (by decide) hg
  have hys : w.heap.size ≤ Y.heap.size := T0.size
  have hatt := attempt_waits Y m p id caps st R ym hen (fun W hW => hmain W (T0.trans ((Turns.of_below hW).more (by simp))) (yp.below hW))
  have HA := Lib.hid hatt
  have HT := Lib.hid T0
  clear hatt T0 hen hmain TY ym yp hb pV vp vm
  go_enter Tryz.func41, Tryz.ntmps41
  go_wp2_with fail
  refine still_tail 8 V hV (by kernel_rfl) (by kernel_rfl) ?_
  simp only [List.take_succ_cons, List.take_zero, List.drop_succ_cons, List.drop_zero]
  repeat still_step
  refine wpStill_nil ?_
  go_wp2_with (first
    | (go_at_call 58; refine HA.out.mono ?_; rintro e w1 ⟨rfl, W, w2, hW, hR, hB, hT, hM⟩))
  go_returns
  exact ⟨rfl, Y.heap.size + 1, W, w2, HT.out.trans ((Turns.of_below hW).more (by simp)), hR, by omega, hB, hT, hM⟩

end Go.Proofs.YtlncmknikjloeaaGreatDoor
end
