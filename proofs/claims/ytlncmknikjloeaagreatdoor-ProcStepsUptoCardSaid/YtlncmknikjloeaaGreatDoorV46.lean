/-
  Parts of the proof: How ProcSteps' process stands ahead of its acts.
-/
import Derived.Test.YtlncmknikjloeaaGreatDoorV45
import Derived.Test.YtlncmknikjloeaaGreatDoorV35

section
namespace Go.Proofs.YtlncmknikjloeaaGreatDoor
open Go.RowKit Go.Maps Go.Shelf

def told0 : Told := ⟨0, .slice none 0 0, [], false, 0, 0, 0, .slice none 0 0, []⟩
theorem plan0 (pcs : List (List UInt8)) : PlanAt pcs 0 false 0 0 told0.back := by
  refine ⟨rfl, ?_, rfl, rfl, rfl, ⟨by decide, by decide, fun h => by cases h⟩, ?_⟩ <;> simp [told0, Told.back]

/-- behind Sink the process and its table are as they were -/
theorem say_mid {w4 w5 w6 : World} {k p tb : Nat} {K0 : KS} {J : PS} (hK4 : KernOf w4 k K0) (hP : ProcOf w5 p J) (hTb : TableOf w5 tb k (fun _ => .nilIface)) (hp0 : w4.heap.size ≤ p) (htb0 : w4.heap.size ≤ tb) (hav : ∀ b, J.av.ownBlock = some b → w4.heap.size ≤ b) (hev : ∀ b, J.ev.ownBlock = some b → w4.heap.size ≤ b)
    (j3 : J.lv = .slice none 0 0) (hT : Turns [k, K0.tb] w5 w6) : ProcOf w6 p J ∧ TableOf w6 tb k (fun _ => .nilIface) := by
  have hkl : k < w4.heap.size := hK4.blk.lt
  have htl : K0.tb < w4.heap.size := hK4.things.lt
  have hn6 : ∀ g, w4.heap.size ≤ g → g ∉ [k, K0.tb] := by
    intro g hg
    simp only [List.mem_cons, List.not_mem_nil, or_false, not_or]
    exact ⟨by omega, by omega⟩
  refine ⟨hP.turns hT fun g hg => hn6 g ?_, (hT.block tb (Blk.lt hTb) (hn6 tb htb0)).trans hTb⟩
  simp only [PS.foot, j3, List.mem_append, List.mem_cons, List.not_mem_nil, or_false, Option.mem_toList] at hg
  rcases hg with ((rfl | hg) | hg) | hg
  · exact hp0
  · exact hav g hg
  · exact hev g hg
  · simp [Value.ownBlock] at hg

/-- a fresh process, its sink put behind its descriptor 1 -/
theorem say_start {w4 w5 w6 w7 : World} {k p tb B : Nat} {K0 K1 : KS} {J : PS} (hK4 : KernOf w4 k K0) (hP : ProcOf w5 p J) (hTb : TableOf w5 tb k (fun _ => .nilIface)) (hp0 : w4.heap.size ≤ p) (htb0 : w4.heap.size ≤ tb) (hav : ∀ b, J.av.ownBlock = some b → w4.heap.size ≤ b) (hev : ∀ b, J.ev.ownBlock = some b → w4.heap.size ≤ b)
    (hJ : J.k = k ∧ J.tb = tb ∧ J.lv = .slice none 0 0 ∧ J.log = [] ∧ J.at_ = 0 ∧ J.may = false ∧ J.top = false ∧ J.steps = 0 ∧ J.held = 0 ∧ J.peak = 0)
    (hS : SinkAt w6 w5.heap.size (.slice none 0 0)) (hK6 : KernOf w6 k K1) (hA : Adds K0 K1 1 (sinkV w5.heap.size)) (hT : Turns [k, K0.tb] w5 w6) (hw7 : w7 = w6.setCell ⟨tb, 1 + 1, none⟩ (sinkV w5.heap.size)) (hfree : K0.used = K0.fl.length)
    (h45 : w4.heap.size ≤ w5.heap.size) (hB : B ≤ w4.heap.size) (hkB : ∀ g ∈ K0.foot k, B ≤ g) :
    SayOf w7 ⟨p, J, K1, w5.heap.size⟩ told0 ∧ (∀ g ∈ (⟨p, J, K1, w5.heap.size⟩ : Say).foot told0, B ≤ g) ∧ Below B w5 w7 := by
  obtain ⟨j1, j2, j3, j4, j5, j6, j7, j8, j9, j10⟩ := hJ
  have hXJ : (⟨p, J, K1, w5.heap.size⟩ : Say).J told0 = J := by
    obtain ⟨⟩ := J
    simp only at j3 j4 j5 j6 j8 j9 j10
    subst j3 j4 j5 j6 j8 j9 j10
    rfl
  have hkl : k < w4.heap.size := hK4.blk.lt
  have htl : K0.tb < w4.heap.size := hK4.things.lt
  have hfp : ∀ g ∈ J.foot p, w4.heap.size ≤ g := by
    intro g hg
    simp only [PS.foot, j3, List.mem_append, List.mem_cons, List.not_mem_nil, or_false, Option.mem_toList] at hg
    rcases hg with ((rfl | hg) | hg) | hg
    · exact hp0
    · exact hav g hg
    · exact hev g hg
    · simp [Value.ownBlock] at hg
  have hn6 : ∀ g, w4.heap.size ≤ g → g ∉ [k, K0.tb] := by
    intro g hg
    simp only [List.mem_cons, List.not_mem_nil, or_false, not_or]
    exact ⟨by omega, by omega⟩
  have hP6 : ProcOf w6 p J := hP.turns hT fun g hg => hn6 g (hfp g hg)
  have hTb6 : TableOf w6 tb k (fun _ => .nilIface) := (hT.block tb (Blk.lt hTb) (hn6 tb htb0)).trans hTb
  have T7 : Turns [tb] w6 w7 := by rw [hw7]; exact (Turns.refl _ w6).setCell ⟨tb, 1 + 1, none⟩ _ (fun _ => List.mem_singleton.2 rfl)
  have hD7 := hTb6.set 1 (by decide) (sinkV w5.heap.size)
  rw [← hw7] at hD7
  have hP7 : ProcOf w7 p J := hP6.turns T7 fun g hg hm => hP6.off hTb6 (by decide) (by decide) (by decide) ((List.mem_singleton.1 hm) ▸ hg)
  have hK7 : KernOf w7 k K1 := hK6.turns T7 fun g hg hm => hK6.off hTb6 (by decide) (by decide) ((List.mem_singleton.1 hm) ▸ hg)
  have hS7 : SinkAt w7 w5.heap.size (.slice none 0 0) := (T7.block _ hS.lt (by rw [List.mem_singleton]; exact Blk.ne_ hS hTb6 (by decide))).trans hS
  refine ⟨⟨?_, ?_, ?_, j7, ?_, hS7, OffRow.nil _ _ _⟩, ?_, ?_⟩
  · rw [hXJ]; exact hP7
  · show KernOf w7 J.k K1
    rw [j1]; exact hK7
  · show K1.used = K1.fl.length
    rw [hA.free.1, hA.free.2.1]; exact hfree
  · show TableOf w7 J.tb J.k _
    rw [j1, j2]
    exact TableOf.congr hD7 fun i _ => rfl
  · intro g hg
    rw [Say.foot, hXJ] at hg
    simp only [List.mem_append, List.mem_cons, List.not_mem_nil, or_false, Option.mem_toList] at hg
    rcases hg with ((hg | hg) | rfl | rfl) | hg
    · exact Nat.le_trans hB (hfp g hg)
    · refine hkB g ?_
      simp only [KS.foot, List.mem_append, List.mem_cons, List.not_mem_nil, or_false, Option.mem_toList, j1, hA.same.1, hA.same.2] at hg ⊢
      exact hg
    · show B ≤ J.tb
      rw [j2]; exact Nat.le_trans hB htb0
    · exact Nat.le_trans hB h45
    · simp [told0, Value.ownBlock] at hg
  · refine (hT.below (Nat.le_trans hB h45) fun g hg => ?_).trans (T7.below (Nat.le_trans hB (Nat.le_trans h45 hT.size)) fun g hg => ?_)
    · simp only [List.mem_cons, List.not_mem_nil, or_false] at hg
      rcases hg with rfl | rfl
      · exact hkB _ (by simp [KS.foot])
      · exact hkB _ (by simp [KS.foot])
    · rw [List.mem_singleton] at hg
      rw [hg]; exact Nat.le_trans hB htb0

/-- how the machine stands behind Acts -/
theorem start_l2 {W w1 w2 : World} {B m : Nat} {X : Say} {S : Told} {parts : List (List UInt8)} (hb1 : Below B W w1) (hB1 : B ≤ w1.heap.size) (hf0 : ∀ g ∈ X.foot told0, B ≤ g) (hm : w1.heap.size ≤ m)
    (ht : Turns (X.foot told0) w1 w2) (hn : ∀ g ∈ X.foot S, g ∈ X.foot told0 ∨ w1.heap.size ≤ g) (hp : PlanAt (Pl.pieces parts) 0 false 0 7 S)
    (his : Waits w2 m w2.heap.size X parts S 0 ∨ Dones w2 m X parts S 0) : L2St W B m w2.heap.size X parts 0 S none 0 0 w2 := by
  have hs : S.said = [] := by rw [plan_said hp]; rfl
  refine ⟨by rw [Pl.cnt_zero]; exact his, fun g hg => ?_, Nat.le_trans hB1 hm, Nat.le_trans hB1 ht.size, Nat.le_refl _, hb1.trans (ht.below hB1 hf0), ?_, by rw [hs]; rfl, fun g hg => ?_⟩
  · rcases hn g hg with h1 | h1
    · exact hf0 g h1
    · exact Nat.le_trans hB1 h1
  · rw [hs]; exact ⟨rfl, .inl ⟨rfl, rfl⟩⟩
  · simp [Value.ownBlock] at hg

theorem acts_l2 (W w8 : World) (B g n : Nat) (X : Say) (ps : List PartIt) (h : SayOf w8 X told0) (hf0 : ∀ g ∈ X.foot told0, B ≤ g) (hb8 : Below B W w8) (hB8 : B ≤ w8.heap.size) (hn : ps.length = n) (hn2 : n ≤ 200) (hbig : (ps.map (·.bs)).flatten.length ≤ 1048576)
    (v : Value) (hown : w8.ownsRow g 41 3 v (n + 1) (actsC (holdIt :: ps.map actOf))) (hpb : ∀ p ∈ ps, Bytes w8 w8.heap.size (partV p) p.bs) :
    Calls Tryz.prog 12 #[.pointer (some ⟨X.p, 0, none⟩), v] w8 fun e w' => ∃ m S, e = .returned (.pointer (some ⟨m, 0, none⟩)) ∧ L2St W B m w'.heap.size X (ps.map (·.bs)) 0 S none 0 0 w' := by
  obtain ⟨A, c, rfl, _, _, hrd⟩ := own_slice hown
  have hlen : (holdIt :: ps.map actOf).length = n + 1 := by simp [hn]
  have hB : ∀ a ∈ (holdIt :: ps.map actOf), Bytes w8 w8.heap.size (.slice a.A a.bs.length a.c) a.bs ∧ a.bs.length ≤ 140737488355328 := by
    intro a ha
    rcases List.mem_cons.1 ha with rfl | ha
    · exact ⟨Bytes.nil _ _, by decide⟩
    · obtain ⟨p, hp, rfl⟩ := List.mem_map.1 ha
      refine ⟨hpb p hp, ?_⟩
      have h1 : p.bs.length ≤ (ps.map (·.bs)).flatten.length := by
        obtain ⟨l1, l2, rfl⟩ := List.append_of_mem hp
        simp
        omega
      show p.bs.length ≤ _
      omega
  have hrd' := hrd
  rw [← hlen] at hrd' ⊢
  rcases Nat.eq_zero_or_pos (Pl.pieces (ps.map (·.bs))).length with hu | hu
  · refine (acts_say_over w8 X told0 h _ (plan0 _) hu.symm hbig (by simp [hn]; omega) A c _ (actOf_strip ps) hrd' hB).mono ?_
    rintro e w' ⟨m, rfl, hm, bl, bk, S, h1, h2, h3, h4, h5, h6⟩
    exact ⟨m, S, rfl, start_l2 hb8 hB8 hf0 hm h4 h5 h3 (.inr ⟨hu.symm, h6, _, ⟨h1, h2⟩, h3⟩)⟩
  · refine (acts_say_wait w8 X told0 h _ (plan0 _) hu hbig (by simp [hn]; omega) A c _ (actOf_strip ps) hrd' hB).mono ?_
    rintro e w' ⟨m, rfl, hm, wb, bl, bk, l', S, h1, h2, h3, h4, h5, h6⟩
    exact ⟨m, S, rfl, start_l2 hb8 hB8 hf0 hm h6.turns h6.news h4 (.inl ⟨hu, wb, _, bl, bk, l', h5.kept.1, h1, h5, h3, h2, h4⟩)⟩

end Go.Proofs.YtlncmknikjloeaaGreatDoor
end
