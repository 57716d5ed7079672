/-
  Parts of the proof: A process that is stepped tells piece after piece: what all, and an act, do; A walk over the main function of acts, whatever they do.
-/
import Derived.Test.YtlncmknikjloeaaGreatDoorV15
import Derived.Test.YtlncmknikjloeaaGreatDoorV22
import Derived.LoopN
import Derived.Test.YtlncmknikjloeaaGreatDoorV13

section
namespace Go.Proofs.YtlncmknikjloeaaGreatDoor
open Go.RowKit Go.Maps

/-- the answer of a piece's write -/
def replOf (p : List UInt8) : Int × Int := ((p.length : Int), 0)
/-- how a process stands that is to tell these pieces: c of them were told ahead of this step, which may do one more or not; it is at piece a; it holds so much -/
structure PlanAt (pcs : List (List UInt8)) (c : Nat) (b : Bool) (a : Nat) (hd : Int) (S : Told) : Prop where
  at_ : S.at_ = a
  log : S.log = (pcs.take (max a c)).map replOf
  may : S.may = (b && decide (a ≤ c))
  steps : S.steps = max a c
  held : S.held = hd
  peak : 0 ≤ S.peak ∧ S.peak ≤ 7 ∧ (hd = 7 → S.peak = 7)
  said : S.said = (pcs.take (max a c)).flatten
/-- how many pieces will have been told -/
def upTo (b : Bool) (c : Nat) : Nat := if b then c + 1 else c

section
variable {pcs : List (List UInt8)} {c a : Nat} {b : Bool} {hd : Int} {S : Told}
theorem PlanAt.len (h : PlanAt pcs c b a hd S) (hc : c ≤ pcs.length) (ha : a ≤ pcs.length) : S.log.length = max a c := by
  rw [h.log, List.length_map, List.length_take]
  omega
theorem PlanAt.again (h : PlanAt pcs c b a hd S) (ha : a < c) : PlanAt pcs c b (a + 1) hd { S with at_ := S.at_ + 1 } := by
  have e : max (a + 1) c = max a c := by omega
  refine ⟨by simp [h.at_], by rw [e]; exact h.log, ?_, by rw [e]; exact h.steps, h.held, h.peak, by rw [e]; exact h.said⟩
  have h1 := h.may
  rw [decide_eq_true (show a ≤ c by omega)] at h1
  rw [decide_eq_true (show a + 1 ≤ c by omega)]
  exact h1
theorem PlanAt.does (h : PlanAt pcs c true c hd S) {bs : List UInt8} (hb : pcs[c]? = some bs) (lv v : Value) : PlanAt pcs c true (c + 1) hd (S.does bs lv v) := by
  have e : max (c + 1) c = c + 1 := by omega
  have e0 : max c c = c := by omega
  have hl : S.log = (pcs.take c).map replOf := by have := h.log; rwa [e0] at this
  have hs : S.said = (pcs.take c).flatten := by have := h.said; rwa [e0] at this
  have ht : S.steps = c := by have := h.steps; rwa [e0] at this
  refine ⟨by simp [Told.does, h.at_], ?_, ?_, ?_, h.held, h.peak, ?_⟩
  · rw [e, List.take_add_one, hb]
    simp [Told.does, hl, replOf]
  · simp [Told.does]
  · rw [e]; simp [Told.does, ht]
  · rw [e, List.take_add_one, hb]
    simp [Told.does, hs]
end

set_option maxRecDepth 100000 in
theorem sayPiece (w : World) (X : Say) (S : Told) (h : SayOf w X S) (pcs : List (List UInt8)) (c a : Nat) (b : Bool) (hd : Int) (hp : PlanAt pcs c b a hd S) (hc : c ≤ pcs.length) (hcl : pcs.length ≤ 1000000) (ha : a < upTo b c) (A : Option Addr) (cp : Nat) (bs : List UInt8) (hbs : pcs[a]? = some bs)
    (hb : Reads w w.heap.size 1 A bs.length (bytesC bs)) (hA : ∀ ad, A = some ad → ad.block ∉ X.foot S) (hcp : bs.length ≤ cp) (hpos : 0 < bs.length) (hl : S.said.length + bs.length ≤ 140737488355000) :
    Calls Tryz.prog 68 #[.pointer (some ⟨X.p, 0, none⟩), .int .i64 1, .slice A bs.length cp] w fun e w' => e = .returned (.tuple #[.int .i64 (bs.length : Int), .int .i64 0]) ∧ ∃ S', SayOf w' X S' ∧ PlanAt pcs c b (a + 1) hd S' ∧ Moved X S S' w w' := by
  have hal : a < pcs.length := (List.getElem?_eq_some_iff.1 hbs).1
  have hlen := hp.len hc (Nat.le_of_lt hal)
  by_cases hac : a < c
  · have hq : S.log[S.at_]? = some ((bs.length : Int), 0) := by
      rw [hp.log, hp.at_, List.getElem?_map, List.getElem?_take, if_pos (by omega), hbs]
      rfl
    refine (sayReplay w X S h _ _ hq (by rw [hlen]; omega) A bs.length cp).mono ?_
    rintro e w' ⟨rfl, h1, h2⟩
    exact ⟨rfl, _, h1, hp.again hac, h2⟩
  · have hb1 : b = true := by cases b; (simp only [upTo, Bool.false_eq_true, if_false] at ha; omega); rfl
    subst hb1
    simp only [upTo, if_true] at ha
    obtain rfl : a = c := by omega
    have e0 : max a a = a := by omega
    refine (sayDo w X S h (by rw [hp.may]; simp) (by rw [hlen, hp.at_]; omega) (by rw [hlen]; omega) (by rw [hp.steps]; omega) A cp bs hb hA hcp hpos hl).mono ?_
    rintro e w' ⟨rfl, lv, v, h1, h2⟩
    exact ⟨rfl, _, h1, hp.does hbs lv v, h2⟩

theorem sayStop (w : World) (X : Say) (S : Told) (h : SayOf w X S) (pcs : List (List UInt8)) (c a : Nat) (b : Bool) (hd : Int) (hp : PlanAt pcs c b a hd S) (hc : c ≤ pcs.length) (hal : a < pcs.length) (ha : a = upTo b c) (A : Option Addr) (m cp : Nat) :
    Calls Tryz.prog 68 #[.pointer (some ⟨X.p, 0, none⟩), .int .i64 1, .slice A m cp] w fun e w' => e = .panicked waitsP ∧ Below w.heap.size w w' := by
  have hlen := hp.len hc (Nat.le_of_lt hal)
  refine sayWait w X S h ?_ ?_ A m cp
  · rw [hp.may]
    cases b with
    | false => rfl
    | true => rw [ha]; simp [upTo]
  · rw [hlen, hp.at_, ha]
    unfold upTo
    split <;> omega

set_option maxRecDepth 100000 in
set_option maxHeartbeats 2000000 in
theorem sayAllGo (w : World) (X : Say) (S : Told) (h : SayOf w X S) (pcs : List (List UInt8)) (c a : Nat) (b : Bool) (hd : Int) (hp : PlanAt pcs c b a hd S) (hc : c ≤ pcs.length) (hcl : pcs.length ≤ 1000000) (ha : a < upTo b c) (A : Option Addr) (cp : Nat) (bs : List UInt8) (hbs : pcs[a]? = some bs)
    (hb : Reads w w.heap.size 1 A bs.length (bytesC bs)) (hA : ∀ ad, A = some ad → ad.block ∉ X.foot S) (hcp : bs.length ≤ cp) (hpos : 0 < bs.length) (hl : S.said.length + bs.length ≤ 140737488355000) :
    Calls Tryz.prog 50 #[.pointer (some ⟨X.p, 0, none⟩), .int .i64 1, .slice A bs.length cp] w fun e w' => e = .returned (.int .i64 (-1)) ∧ ∃ S', SayOf w' X S' ∧ PlanAt pcs c b (a + 1) hd S' ∧ Moved X S S' w w' := by
  obtain ⟨iB, hiB, hB0, hB1, hB2⟩ := info_parts Tryz.infoByte
  have hwr := sayPiece w X S h pcs c a b hd hp hc hcl ha A cp bs hbs hb hA hcp hpos hl
  obtain ⟨m, hm⟩ : ∃ m, bs.length = m := ⟨_, rfl⟩
  rw [hm] at hwr hpos hcp ⊢
  have hcc := fun W => run_cut (P := Tryz.prog) 39 5 iB 1 Tryz.underlying39 hiB hB1 A m cp .i64 (m : Int) m rfl (Nat.le_refl _) W
  rw [Nat.sub_self] at hcc
  have hm0 : ¬ (m : Int) ≤ 0 := by omega
  clear hiB hB0 hB1 hB2 h hp hb hA hl hm hbs
  go_enter Tryz.func50, Tryz.ntmps50
  go_wp2_with fail
  refine wp_loop_rounds 2 ?_
  rw [rounds_succ]
  go_wp2_with (go_at_call 68; refine hwr.mono ?_; rintro e w1 ⟨rfl, S', hS1, hP1, hM1⟩)
  rw [rounds_succ]
  go_wp2_with fail
  go_returns
  exact ⟨rfl, S', hS1, hP1, hM1⟩

set_option maxRecDepth 100000 in
set_option maxHeartbeats 2000000 in
theorem sayAllStop (w : World) (X : Say) (S : Told) (h : SayOf w X S) (pcs : List (List UInt8)) (c a : Nat) (b : Bool) (hd : Int) (hp : PlanAt pcs c b a hd S) (hc : c ≤ pcs.length) (hal : a < pcs.length) (ha : a = upTo b c) (A : Option Addr) (m cp : Nat) (hpos : 0 < m) :
    Calls Tryz.prog 50 #[.pointer (some ⟨X.p, 0, none⟩), .int .i64 1, .slice A m cp] w fun e w' => e = .panicked waitsP ∧ Below w.heap.size w w' := by
  have hwr := sayStop w X S h pcs c a b hd hp hc hal ha A m cp
  have hm0 : ¬ (m : Int) ≤ 0 := by omega
  clear h hp
  go_enter Tryz.func50, Tryz.ntmps50
  go_wp2_with fail
  refine wp_loop_rounds 1 ?_
  rw [rounds_succ]
  go_wp2_with (go_at_call 68; refine hwr.mono ?_; rintro e w1 ⟨rfl, hb1⟩)
  exact ⟨rfl, rfl, hb1⟩

set_option maxRecDepth 100000 in
set_option maxHeartbeats 2000000 in
theorem sayAllNone (w : World) (p fd : Value) (A : Option Addr) (cp : Nat) :
    Calls Tryz.prog 50 #[p, fd, .slice A 0 cp] w fun e w' => e = .returned (.int .i64 (-1)) ∧ w' = w := by
  go_enter Tryz.func50, Tryz.ntmps50
  go_wp2_with fail
  refine wp_loop_rounds 1 ?_
  rw [rounds_succ]
  go_wp2_with fail
  go_returns
  exact ⟨rfl, rfl⟩

/-- acts$1 from a contract of all -/
theorem out_of (w : World) (X : Say) (k n : Int) (A : Option Addr) (m c : Nat) (R : Ending → World → Prop)
    (h : ∀ W, Below w.heap.size w W → Calls Tryz.prog 50 #[.pointer (some ⟨X.p, 0, none⟩), .int .i64 1, .slice A m c] W fun e w' => (e = .returned (.int .i64 (-1)) ∧ R e w')) :
    Calls Tryz.prog 49 #[.pointer (some ⟨X.p, 0, none⟩), .agg #[.int .i64 k, .int .i64 n, .slice A m c]] w fun e w' => e = .returned (.int .i64 (-1)) ∧ R e w' := by
  have hq := h _ (below_one w (.cells #[.int .i64 k, .int .i64 n, .slice A m c] 41))
  have kb := (Blk.new w 41 #[.int .i64 k, .int .i64 n, .slice A m c]).cell 2
  clear h
  go_enter Tryz.func49, Tryz.ntmps49
  go_wp2_with (go_at_call 50; refine hq.mono ?_; rintro e w1 ⟨rfl, hR⟩)
  go_returns
  exact ⟨rfl, hR⟩
theorem out_stop (w : World) (X : Say) (k n : Int) (A : Option Addr) (m c : Nat) (R : World → Prop)
    (h : ∀ W, Below w.heap.size w W → Calls Tryz.prog 50 #[.pointer (some ⟨X.p, 0, none⟩), .int .i64 1, .slice A m c] W fun e w' => (e = .panicked waitsP ∧ R w')) :
    Calls Tryz.prog 49 #[.pointer (some ⟨X.p, 0, none⟩), .agg #[.int .i64 k, .int .i64 n, .slice A m c]] w fun e w' => e = .panicked waitsP ∧ R w' := by
  have hq := h _ (below_one w (.cells #[.int .i64 k, .int .i64 n, .slice A m c] 41))
  have kb := (Blk.new w 41 #[.int .i64 k, .int .i64 n, .slice A m c]).cell 2
  clear h
  go_enter Tryz.func49, Tryz.ntmps49
  go_wp2_with (go_at_call 50; refine hq.mono ?_; rintro e w1 ⟨rfl, hR⟩)
  exact ⟨rfl, rfl, hR⟩

end Go.Proofs.YtlncmknikjloeaaGreatDoor
end

section
namespace Go.Proofs.YtlncmknikjloeaaGreatDoor
open Go.RowKit Go.Maps Go.Shelf

set_option maxRecDepth 100000 in
set_option maxHeartbeats 2000000 in
theorem acts_gen (wb w : World) (p L bl bk : Nat) (l : List ActIt) (hl : ActsIn wb L bl bk l) (hk : ∀ a ∈ l, -9223372036854775808 ≤ a.k ∧ a.k ≤ 9223372036854775807) (hlen : l.length ≤ 2097152)
    (Inv : Nat → World → Prop) (Q : Ending → World → Prop) (hkeep : ∀ i W, Inv i W → KeptFrom L wb W) (hbel : ∀ i W W', Inv i W → Below W.heap.size W W' → Inv i W') (h0 : Inv 0 w) (hend : ∀ W, Inv l.length W → Q (.returned (.int .i64 0)) W)
    (hstep : ∀ i a W, l[i]? = some a → Inv i W → ∃ id, kindOf a.k = some id ∧ ((∀ W', Below W.heap.size W W' → Calls Tryz.prog id #[.pointer (some ⟨p, 0, none⟩), .agg #[.int .i64 a.k, .int .i64 a.n, .slice a.A a.bs.length a.c]] W' fun e w' => ∃ r, e = .returned (.int .i64 r) ∧ r < 0 ∧ Inv (i + 1) w') ∨
      (∀ W', Below W.heap.size W W' → Calls Tryz.prog id #[.pointer (some ⟨p, 0, none⟩), .agg #[.int .i64 a.k, .int .i64 a.n, .slice a.A a.bs.length a.c]] W' fun e w' => e = .panicked waitsP ∧ Q (.panicked waitsP) w'))) :
    Calls Tryz.prog 38 #[.pointer (some ⟨p, 0, none⟩), .pointer (some ⟨bl, 0, none⟩), .pointer (some ⟨bk, 0, none⟩)] w fun e w' => Q e w' := by
  have H0 : Hid (Inv 0 w) := Lib.hid h0
  have HA := Lib.hid hl
  have HK := Lib.hid hk
  have HKE := Lib.hid hkeep
  have HBE := Lib.hid hbel
  have HEND := Lib.hid hend
  have HSTEP := Lib.hid hstep
  obtain ⟨v, hb0, hrow⟩ := hl.box
  obtain ⟨n, hn⟩ : ∃ n, l.length = n := ⟨_, rfl⟩
  rw [hn] at hlen
  obtain ⟨A, cp, hv, _⟩ := own_slice hrow
  rw [hn] at hv
  subst hv
  have c0 : w.cell? ⟨bl, 0, none⟩ = some (.slice A n cp) := Blk.cell (((hkeep 0 w h0).2 _ hl.low.1 hb0.lt).trans hb0) 0
  have HN := Lib.hid hn
  have HROW := Lib.hid hrow
  clear hb0 hrow hl hk h0 hkeep hbel hend hstep hn
  go_enter Tryz.func38, Tryz.ntmps38
  go_wp2_with fail
  go_loopw [12] (fun iv wr => ∃ (i : Nat), i ≤ n ∧ iv = .int .i64 (i : Int) ∧ Hid (Inv i wr)) (fun iv _ => n - (intOf iv).toNat)
  case atStart => exact ⟨0, Nat.zero_le _, rfl, H0⟩
  case round =>
    obtain ⟨i, hi, rfl, HS⟩ := hrel
    by_cases hlt : i < n
    · obtain ⟨a, ha⟩ : ∃ a, l[i]? = some a := ⟨_, List.getElem?_eq_getElem (by rw [HN.out]; exact hlt)⟩
      have hmem : a ∈ l := List.mem_of_getElem? ha
      have HAW := HA.out.keep (HKE.out i wr HS.out)
      have hke := HK.out a hmem
      have hbytes := HAW.bytes a hmem
      obtain ⟨mb, hbk, hmap, _⟩ := HAW.kinds
      obtain ⟨g, hA, hra⟩ : ∃ g, A = some ⟨g, 0, none⟩ ∧ wr.rangeAt g (i * 3) (actC a) := by
        have hr : wr.ownsRow L 41 3 (.slice A n cp) l.length (actsC l) := ownsRow_same HROW.out fun g hg => (HKE.out i wr HS.out).2 g (HROW.out.lt g hg).1 (HROW.out.lt g hg).2
        rcases hr.2 with ⟨_, h0⟩ | ⟨g, cap, cur, e, _, hgb, _, _, _, hcur⟩
        · rw [HN.out] at h0; omega
        · simp only [Value.slice.injEq] at e
          refine ⟨g, e.1, fun j v hv => ?_⟩
          have hj : j < 3 := (List.getElem?_eq_some_iff.1 hv).1
          have h1 := (actsC_at ha j hj).trans hv
          rw [← hcur, List.getElem?_take] at h1
          split at h1
          · rw [Array.getElem?_toList] at h1
            exact (cell_of_row wr g (i * 3 + j) cur 41 (0, 0) hgb).trans h1
          · cases h1
      subst hA
      obtain ⟨id, hkd, hcs⟩ := HSTEP.out i a wr ha HS.out
      obtain ⟨k, m, A', c', bs⟩ := a
      obtain ⟨q, hq⟩ : ∃ q, bs.length = q := ⟨_, rfl⟩
      simp only at hkd hcs
      rw [hq] at hcs
      have hkc : wr.cell? ⟨bk, 0, none⟩ = some (.map (some mb)) := hbk.cell 0
      have hlk := kindF_of k
      obtain ⟨W, hW⟩ : ∃ W, wr.alloc (.cells #[.int .i64 k, .int .i64 m, .slice A' q c'] 41) = W := ⟨_, rfl⟩
      unfold actC at hra
      simp only at hra hke
      rw [hq] at hra
      have hone : (#[.int .i64 k, .int .i64 m, .slice A' q c'] : Array Value).all (·.oneCell') = true := by simp [Value.oneCell']
      have HQ := Lib.hid hq
      have HMAP := Lib.hid hmap
      clear hq hmap hmem HAW hbytes hbk hW ha
      have hen : ∀ args W, (callFunc id args).run Tryz.prog W = .ok (.enter id args) W := (does_kind hkd).2
      rw [hkd] at hlk
      rcases hcs with hcall | hcall
      · have HCALL := Lib.hid hcall
        clear hcall
        go_wp2_with (first
          | (refine wpList_load_mid rfl _ _ rfl g (i * 3) rfl [.int .i64 k, .int .i64 m, .slice A' q c'] _ hra Tryz.underlying41 rfl (by kernel_rfl) ?_)
          | (refine wpList_store_blk rfl 41 (.tmp 6) (.tmp 15) rfl wr.heap.size 41 #[.int .i64 0, .int .i64 0, .slice none 0 0] #[.int .i64 k, .int .i64 m, .slice A' q c'] rfl rfl (Blk.new wr _ _) rfl (by kernel_rfl) hone ?_; intro w2 b2 g2
             have hb2 : Below wr.heap.size wr w2 := (below_one wr _).grown g2 (by simp) (fun j hj => by cases hj; exact Nat.le_refl _)
             have k0 : w2.cell? ⟨wr.heap.size, 0, none⟩ = some (.int .i64 k) := b2.cell 0
             have lk := b2.lt
             have hkc2 : w2.cell? ⟨bk, 0, none⟩ = some (.map (some mb)) := (hb2.cell (World.block_lt_of_cell? wr _ hkc)).trans hkc
             have hmap2 := HMAP.out.same (hb2.block _ HMAP.out.lt))
          | (at_lookup; refine wpList_look_of _ rfl _ _ 107 rfl 3 112 intKeys Tryz.underlying107 (.agg #[.nilFunc]) (actZero _) mb 6 kindF rfl hmap2 _ (kindL k) rfl (keyOf_int_mk Tryz.underlying3 (WalkArith.wf_i64 (by omega))) ?_; rw [hlk]; simp only [Option.map_some, Option.getD_some, Option.isSome_some, kindV])
          | (refine wpList_store_blk rfl 112 (.tmp 7) (.tmp 21) rfl w2.heap.size 112 #[.nilFunc] #[.func (.func id) #[] #[]] rfl rfl (Blk.new w2 _ _) rfl (by kernel_rfl) (by simp [Value.oneCell']) ?_; intro w3 b3 g3
             have hb3 : Below w2.heap.size w2 w3 := (below_one w2 _).grown g3 (by simp) (fun j hj => by cases hj; exact Nat.le_refl _)
             have hbw : Below wr.heap.size wr w3 := below_step hb2 hb3 (Nat.le_refl _)
             have f0 : w3.cell? ⟨w2.heap.size, 0, none⟩ = some (.func (.func id) #[] #[]) := b3.cell 0
             have lf := b3.lt
             have b23 : Blk w3 wr.heap.size 41 #[.int .i64 k, .int .i64 m, .slice A' q c'] := Blk.on b2 hb3)
          | (refine wpList_load_row rfl 41 (.tmp 6) rfl wr.heap.size rfl 41 #[.int .i64 k, .int .i64 m, .slice A' q c'] (0, 0) _ b23 Tryz.underlying41 rfl (by kernel_rfl) ?_)
          | (refine (HCALL.out w3 hbw).mono ?_; rintro e w4 ⟨r, rfl, hr0, hI4⟩))
        go_roundw
        case rel => exact ⟨i + 1, by omega, by go_num, Lib.hid hI4⟩
        case measure => simp [intOf]; omega
      · have HCALL := Lib.hid hcall
        clear hcall
        go_wp2_with (first
          | (refine wpList_load_mid rfl _ _ rfl g (i * 3) rfl [.int .i64 k, .int .i64 m, .slice A' q c'] _ hra Tryz.underlying41 rfl (by kernel_rfl) ?_)
          | (refine wpList_store_blk rfl 41 (.tmp 6) (.tmp 15) rfl wr.heap.size 41 #[.int .i64 0, .int .i64 0, .slice none 0 0] #[.int .i64 k, .int .i64 m, .slice A' q c'] rfl rfl (Blk.new wr _ _) rfl (by kernel_rfl) hone ?_; intro w2 b2 g2
             have hb2 : Below wr.heap.size wr w2 := (below_one wr _).grown g2 (by simp) (fun j hj => by cases hj; exact Nat.le_refl _)
             have k0 : w2.cell? ⟨wr.heap.size, 0, none⟩ = some (.int .i64 k) := b2.cell 0
             have lk := b2.lt
             have hkc2 : w2.cell? ⟨bk, 0, none⟩ = some (.map (some mb)) := (hb2.cell (World.block_lt_of_cell? wr _ hkc)).trans hkc
             have hmap2 := HMAP.out.same (hb2.block _ HMAP.out.lt))
          | (at_lookup; refine wpList_look_of _ rfl _ _ 107 rfl 3 112 intKeys Tryz.underlying107 (.agg #[.nilFunc]) (actZero _) mb 6 kindF rfl hmap2 _ (kindL k) rfl (keyOf_int_mk Tryz.underlying3 (WalkArith.wf_i64 (by omega))) ?_; rw [hlk]; simp only [Option.map_some, Option.getD_some, Option.isSome_some, kindV])
          | (refine wpList_store_blk rfl 112 (.tmp 7) (.tmp 21) rfl w2.heap.size 112 #[.nilFunc] #[.func (.func id) #[] #[]] rfl rfl (Blk.new w2 _ _) rfl (by kernel_rfl) (by simp [Value.oneCell']) ?_; intro w3 b3 g3
             have hb3 : Below w2.heap.size w2 w3 := (below_one w2 _).grown g3 (by simp) (fun j hj => by cases hj; exact Nat.le_refl _)
             have hbw : Below wr.heap.size wr w3 := below_step hb2 hb3 (Nat.le_refl _)
             have f0 : w3.cell? ⟨w2.heap.size, 0, none⟩ = some (.func (.func id) #[] #[]) := b3.cell 0
             have lf := b3.lt
             have b23 : Blk w3 wr.heap.size 41 #[.int .i64 k, .int .i64 m, .slice A' q c'] := Blk.on b2 hb3)
          | (refine wpList_load_row rfl 41 (.tmp 6) rfl wr.heap.size rfl 41 #[.int .i64 k, .int .i64 m, .slice A' q c'] (0, 0) _ b23 Tryz.underlying41 rfl (by kernel_rfl) ?_)
          | (refine (HCALL.out w3 hbw).mono ?_; rintro e w4 ⟨rfl, hQ4⟩))
        exact ⟨rfl, hQ4⟩
    · obtain rfl : i = n := by omega
      have hQ := HEND.out wr (by rw [HN.out]; exact HS.out)
      have HQQ := Lib.hid hQ
      clear hQ
      go_wp2_with fail
      exact HQQ.out

end Go.Proofs.YtlncmknikjloeaaGreatDoor
end
