/-
  Parts of the proof.
-/
import Derived.Test.YtffffjngodinnaaGreatDoorV47
namespace Go.Proofs.YtffffjngodinnaaGreatDoor
section
open Go.RowKit Go.Maps Go.Shelf
namespace PF
variable {fl : List (Int × Int)}
theorem reads_less : ∀ (f : Nat) (s : PF) (m : Nat) (s' : PF) (b : List UInt8), s.used <= fl.length -> reads fl f s m = (s', some b) -> s'.steps + s'.left fl + b.length <= s.steps + s.left fl + s.inb.length + 1 /\ s'.said = s.said /\ b.length <= s.inb.length
 | 0, s, m, s', b, _, h => by cases h
 | f + 1, s, m, s', b, hu, h => by
   rw [reads] at h
   split at h
   · rename_i h2
     have ht := took_lt (fl := fl) (s := s) (.inr h2) hu
     have ih := reads_less f (s.failed fl) m s' b (took_le hu).1 h
     have e1 : (s.failed fl).steps = s.steps + 1 := rfl
     have e2 : (s.failed fl).left fl = fl.length - s.took fl := rfl
     have e3 : (s.failed fl).inb = s.inb := rfl
     have e4 : s.left fl = fl.length - s.used := rfl
     have e5 : (s.failed fl).said = s.said := rfl
     rw [e1, e2, e3, e5] at ih
     exact ⟨by have := ih.1; omega, ih.2.1, ih.2.2⟩
   · split at h
     · cases h
     · cases h
       have hk := took_le (fl := fl) hu
       have hn := some_le (fl := fl) (s := s) (min m s.inb.length)
       refine ⟨?_, rfl, by rw [List.length_take]; omega⟩
       show s.steps + 1 + (fl.length - s.took fl) + _ <= s.steps + (fl.length - s.used) + s.inb.length + 1
       rw [List.length_take]
       omega
end PF
theorem tmod_twice (n : Int) : ((n.tmod 256) + 256).tmod 256 = n % 256 := by
 have h1 : 0 <= n.tmod 256 + 256 := by
  rcases Int.lt_or_le n 0 with h | h
  · have e : n.tmod 256 = -((-n).tmod 256) := by rw [Int.neg_tmod]; simp
    rw [e, Int.tmod_eq_emod_of_nonneg (by omega)]
    omega
  · rw [Int.tmod_eq_emod_of_nonneg h]; omega
 rw [Int.tmod_eq_emod_of_nonneg h1]
 rcases Int.lt_or_le n 0 with h | h
 · have e : n.tmod 256 = -((-n).tmod 256) := by rw [Int.neg_tmod]; simp
   rw [e, Int.tmod_eq_emod_of_nonneg (by omega)]
   omega
 · rw [Int.tmod_eq_emod_of_nonneg h]; omega
section
variable {w w' : World} {M k q tp r x0 x1 x2 : Nat} {fl : List (Int × Int)} {now : Int} {S S' : PF} {st st' : Int} {ov ov' : Bool}
set_option maxRecDepth 100000 in
theorem refWrites0 (w : World) (r : Nat) (A : Option Addr) (c : Nat) : Calls Tryz.prog 53 #[.pointer (some ⟨r, 0, none⟩), .int .i64 1, .slice A 0 c] w fun e w' => e = .returned (.tuple #[]) /\ w' = w := by
 go_enter Tryz.func53, Tryz.ntmps53
 go_wp2_with fail
 go_loopw [2] (fun v wr => v = .slice A 0 c /\ wr = w) (fun _ _ => 0)
 case atStart => exact ⟨rfl, rfl⟩
 case round =>
  obtain ⟨rfl, rfl⟩ := hrel
  go_wp2_with fail
  go_returns
  exact ⟨rfl, rfl⟩
def DoesOk (w : World) (M k q tp r x0 x1 x2 : Nat) (fl : List (Int × Int)) (now : Int) (st : Int) (R : PF × Int) (e : Ending) (w' : World) : Prop := e = .returned (.tuple #[]) /\ Goes M w w' /\ RSt w' M k q tp r x0 x1 x2 fl now R.1 (endSt st R.2) (endOv R.2)
set_option maxRecDepth 100000 in
set_option maxHeartbeats 4000000 in
theorem refDoes_copy (h : RSt w M k q tp r x0 x1 x2 fl now S st false) (n : Int) (A : Option Addr) (bl c : Nat) (bs : List UInt8) (hn : -9223372036854775808 <= n /\ n <= 9223372036854775807) (hs : S.steps + S.left fl + S.inb.length + 3 < 4611686018427387904) (hd : ∀ b, (S.said b).length + S.inb.length <= 140737488355000) (hi : S.inb.length <= 1048576) :
 Calls Tryz.prog 21 #[.pointer (some ⟨r, 0, none⟩), .agg #[.int .i64 1, .int .i64 n, .slice A bl c]] w (DoesOk w M k q tp r x0 x1 x2 fl now st (S.act fl 1 n bs)) := by
 obtain ⟨m, hm⟩ : ∃ m, (max 1 n).toNat = m := ⟨_, rfl⟩
 have hm1 : 1 <= m := by omega
 have hm2 : (m : Int) <= 9223372036854775807 := by omega
 have hact : S.act fl 1 n bs = PF.copy2 fl (PF.reads fl (S.left fl + 1) S m) := by unfold PF.act; rw [if_pos rfl, hm]; rfl
 obtain ⟨R, hR⟩ : ∃ R, PF.reads fl (S.left fl + 1) S m = R := ⟨_, rfl⟩
 rw [hact, hR]
 obtain ⟨w1, hw1⟩ : ∃ w1, w.alloc (.cells #[.int .i64 1, .int .i64 n, .slice A bl c] 34) = w1 := ⟨_, rfl⟩
 obtain ⟨g, hg⟩ : ∃ g, w.heap.size = g := ⟨_, rfl⟩
 have hb1 : Below w.heap.size w w1 := by rw [<- hw1]; exact below_one w _
 have b1 : Blk w1 g 34 #[.int .i64 1, .int .i64 n, .slice A bl c] := by rw [<- hw1, <- hg]; exact Blk.new w _ _
 obtain ⟨h1, g1⟩ := h.below hb1
 have hrd := refReads h1 m hm1 hm2 R hR (by omega) hi
 have g0 : w1.cell? ⟨g, 0, none⟩ = some (.int .i64 1) := b1.cell 0
 have gn : w1.cell? ⟨g, 1, none⟩ = some (.int .i64 n) := b1.cell 1
 have lg := b1.lt
 have hul := h1.rk.used
 have HW : ∀ (w2 : World) (A2 : Option Addr) (n2 c2 : Nat) (b2 : List UInt8), R.2 = some b2 -> Still w2 M A2 n2 c2 b2 -> RSt w2 M k q tp r x0 x1 x2 fl now R.1 st false -> Calls Tryz.prog 53 #[.pointer (some ⟨r, 0, none⟩), .int .i64 1, .slice A2 n2 c2] w2 fun e w' => e = .returned (.tuple #[]) /\ Goes M w2 w' /\ RSt w' M k q tp r x0 x1 x2 fl now (PF.copy2 fl R).1 (endSt st (PF.copy2 fl R).2) (endOv (PF.copy2 fl R).2) := by
  intro w2 A2 n2 c2 b2 hb hst hrs
  obtain ⟨R1, R2⟩ := R
  dsimp only at hb hrs
  subst hb
  have hless := PF.reads_less _ S m R1 b2 hul hR
  have hdt := hd true
  have hx := refWrites hrs true A2 n2 c2 b2 hst _ rfl (by rw [<- hst.1]; omega) (by rw [hless.2.1, <- hst.1]; omega)
  rw [<- hst.1] at hx
  simp only [if_true] at hx
  have e : PF.copy2 fl (R1, some b2) = PF.all fl (R1.left fl + b2.length + 1) R1 true b2 := rfl
  rw [e]
  rw [<- hst.1]
  exact hx
 have HRD := Lib.hid hrd
 have HWW := Lib.hid HW
 have HG1 := Lib.hid g1
 have hn1 := hn.1
 have hn2 := hn.2
 have HMM := Lib.hid hm
 have hne : ((0 : Int) == 1) = false := rfl
 clear h1 g1 hrd HW hul hb1 b1 h hs hd hi hR hact hn hm hm2
 go_enter Tryz.func21, Tryz.ntmps21
 go_upto_region 1 with fail
 try rw [hg]
 try rw [hw1]
 clear hw1 hg
 have fin : ∀ (w2 : World) (e : Ending) (w3 : World), Goes M w1 w2 -> (e = .returned (.tuple #[]) /\ Goes M w2 w3 /\ RSt w3 M k q tp r x0 x1 x2 fl now (PF.copy2 fl R).1 (endSt st (PF.copy2 fl R).2) (endOv (PF.copy2 fl R).2)) -> DoesOk w M k q tp r x0 x1 x2 fl now st (PF.copy2 fl R) e w3 := fun w2 e w3 a b => ⟨b.1, (HG1.out.trans a).trans b.2.1, b.2.2⟩
 have FIN := Lib.hid fin
 clear fin
 by_cases hlt : n < 1
 · have hm1' : m = 1 := by have := HMM.out; omega
   subst hm1'
   go_upto_region 7 with (go_at_call 52; refine HRD.out.mono ?_; rintro e2 w2 ⟨hG2, ⟨hR2, rfl, hS2⟩ | ⟨b2, A2, n2, c2, hb2, rfl, hst2, hS2⟩⟩)
   · go_wp2_with (go_at_call 53; refine (refWrites0 w2 r none 0).mono ?_; rintro e3 w3 ⟨rfl, h3⟩; obtain rfl : w2 = w3 := h3.symm)
     go_returns
     have hc : PF.copy2 fl R = (R.1, 1) := by
      obtain ⟨R1, R2⟩ := R
      dsimp only at hR2
      subst hR2
      rfl
     exact FIN.out w2 _ w2 hG2 ⟨rfl, Goes.refl _ _, by rw [hc]; exact hS2⟩
   · have HW2 := Lib.hid (HWW.out w2 A2 n2 c2 b2 hb2 hst2 hS2)
     clear hb2 hst2 hS2
     go_wp2_with (go_at_call 53; refine HW2.out.mono ?_; rintro e3 w3 ⟨rfl, h3⟩)
     go_returns
     exact FIN.out w2 _ w3 hG2 ⟨rfl, h3⟩
 · obtain ⟨nn, rfl⟩ : ∃ nn : Nat, n = (nn : Int) := ⟨n.toNat, by omega⟩
   have hm1' : m = nn := by have := HMM.out; omega
   subst hm1'
   go_upto_region 7 with (go_at_call 52; refine HRD.out.mono ?_; rintro e2 w2 ⟨hG2, ⟨hR2, rfl, hS2⟩ | ⟨b2, A2, n2, c2, hb2, rfl, hst2, hS2⟩⟩)
   · go_wp2_with (go_at_call 53; refine (refWrites0 w2 r none 0).mono ?_; rintro e3 w3 ⟨rfl, h3⟩; obtain rfl : w2 = w3 := h3.symm)
     go_returns
     have hc : PF.copy2 fl R = (R.1, 1) := by
      obtain ⟨R1, R2⟩ := R
      dsimp only at hR2
      subst hR2
      rfl
     exact FIN.out w2 _ w2 hG2 ⟨rfl, Goes.refl _ _, by rw [hc]; exact hS2⟩
   · have HW2 := Lib.hid (HWW.out w2 A2 n2 c2 b2 hb2 hst2 hS2)
     clear hb2 hst2 hS2
     go_wp2_with (go_at_call 53; refine HW2.out.mono ?_; rintro e3 w3 ⟨rfl, h3⟩)
     go_returns
     exact FIN.out w2 _ w3 hG2 ⟨rfl, h3⟩
set_option maxRecDepth 100000 in
set_option maxHeartbeats 2000000 in
theorem refDoes_out (h : RSt w M k q tp r x0 x1 x2 fl now S st false) (n : Int) (A : Option Addr) (bl c : Nat) (bs : List UInt8) (hb : Still w M A bl c bs) (hs : S.steps + S.left fl + bl + 2 < 4611686018427387904) (hd : ∀ b, (S.said b).length + bl <= 140737488355000) :
 Calls Tryz.prog 21 #[.pointer (some ⟨r, 0, none⟩), .agg #[.int .i64 2, .int .i64 n, .slice A bl c]] w (DoesOk w M k q tp r x0 x1 x2 fl now st (S.act fl 2 n bs)) := by
 have hact : S.act fl 2 n bs = PF.all fl (S.left fl + bl + 1) S true bs := by unfold PF.act; rw [if_neg (by decide), if_pos rfl]; rw [hb.1]
 rw [hact]
 obtain ⟨w1, hw1⟩ : ∃ w1, w.alloc (.cells #[.int .i64 2, .int .i64 n, .slice A bl c] 34) = w1 := ⟨_, rfl⟩
 obtain ⟨g, hg⟩ : ∃ g, w.heap.size = g := ⟨_, rfl⟩
 have hb1 : Below w.heap.size w w1 := by rw [<- hw1]; exact below_one w _
 have b1 : Blk w1 g 34 #[.int .i64 2, .int .i64 n, .slice A bl c] := by rw [<- hw1, <- hg]; exact Blk.new w _ _
 obtain ⟨h1, g1⟩ := h.below hb1
 have hwr := refWrites h1 true A bl c bs (hb.goes g1) _ rfl hs (hd true)
 simp only [if_true] at hwr
 have g0 : w1.cell? ⟨g, 0, none⟩ = some (.int .i64 2) := b1.cell 0
 have g2 : w1.cell? ⟨g, 2, none⟩ = some (.slice A bl c) := b1.cell 2
 have lg := b1.lt
 have HWR := Lib.hid hwr
 have HG1 := Lib.hid g1
 clear h1 g1 hwr hb1 b1 h hs hd hact hb
 go_enter Tryz.func21, Tryz.ntmps21
 go_upto_region 1 with fail
 try rw [hg]
 try rw [hw1]
 clear hw1 hg
 go_wp2_with (go_at_call 53; refine HWR.out.mono ?_; rintro e3 w3 ⟨rfl, h3, h4⟩)
 go_returns
 exact ⟨rfl, HG1.out.trans h3, h4⟩
set_option maxRecDepth 100000 in
set_option maxHeartbeats 2000000 in
theorem refDoes_err (h : RSt w M k q tp r x0 x1 x2 fl now S st false) (n : Int) (A : Option Addr) (bl c : Nat) (bs : List UInt8) (hb : Still w M A bl c bs) (hs : S.steps + S.left fl + bl + 2 < 4611686018427387904) (hd : ∀ b, (S.said b).length + bl <= 140737488355000) :
 Calls Tryz.prog 21 #[.pointer (some ⟨r, 0, none⟩), .agg #[.int .i64 3, .int .i64 n, .slice A bl c]] w (DoesOk w M k q tp r x0 x1 x2 fl now st (S.act fl 3 n bs)) := by
 have hact : S.act fl 3 n bs = PF.all fl (S.left fl + bl + 1) S false bs := by unfold PF.act; rw [if_neg (by decide), if_neg (by decide), if_pos rfl]; rw [hb.1]
 rw [hact]
 obtain ⟨w1, hw1⟩ : ∃ w1, w.alloc (.cells #[.int .i64 3, .int .i64 n, .slice A bl c] 34) = w1 := ⟨_, rfl⟩
 obtain ⟨g, hg⟩ : ∃ g, w.heap.size = g := ⟨_, rfl⟩
 have hb1 : Below w.heap.size w w1 := by rw [<- hw1]; exact below_one w _
 have b1 : Blk w1 g 34 #[.int .i64 3, .int .i64 n, .slice A bl c] := by rw [<- hw1, <- hg]; exact Blk.new w _ _
 obtain ⟨h1, g1⟩ := h.below hb1
 have hwr := refWrites h1 false A bl c bs (hb.goes g1) _ rfl hs (hd false)
 simp only [Bool.false_eq_true, if_false] at hwr
 have g0 : w1.cell? ⟨g, 0, none⟩ = some (.int .i64 3) := b1.cell 0
 have g2 : w1.cell? ⟨g, 2, none⟩ = some (.slice A bl c) := b1.cell 2
 have lg := b1.lt
 have HWR := Lib.hid hwr
 have HG1 := Lib.hid g1
 clear h1 g1 hwr hb1 b1 h hs hd hact hb
 go_enter Tryz.func21, Tryz.ntmps21
 go_upto_region 1 with fail
 try rw [hg]
 try rw [hw1]
 clear hw1 hg
 go_wp2_with (go_at_call 53; refine HWR.out.mono ?_; rintro e3 w3 ⟨rfl, h3, h4⟩)
 go_returns
 exact ⟨rfl, HG1.out.trans h3, h4⟩
set_option maxRecDepth 100000 in
set_option maxHeartbeats 2000000 in
theorem refDoes_end (h : RSt w M k q tp r x0 x1 x2 fl now S st false) (n : Int) (A : Option Addr) (bl c : Nat) (bs : List UInt8) (hn : -9223372036854775808 <= n /\ n <= 9223372036854775807) :
 Calls Tryz.prog 21 #[.pointer (some ⟨r, 0, none⟩), .agg #[.int .i64 6, .int .i64 n, .slice A bl c]] w (DoesOk w M k q tp r x0 x1 x2 fl now st (S.act fl 6 n bs)) := by
 have hact : S.act fl 6 n bs = (S, n % 256) := by unfold PF.act; rw [if_neg (by decide), if_neg (by decide), if_neg (by decide), if_neg (by decide), if_neg (by decide), if_pos rfl]
 rw [hact]
 obtain ⟨w1, hw1⟩ : ∃ w1, w.alloc (.cells #[.int .i64 6, .int .i64 n, .slice A bl c] 34) = w1 := ⟨_, rfl⟩
 obtain ⟨g, hg⟩ : ∃ g, w.heap.size = g := ⟨_, rfl⟩
 have hb1 : Below w.heap.size w w1 := by rw [<- hw1]; exact below_one w _
 have b1 : Blk w1 g 34 #[.int .i64 6, .int .i64 n, .slice A bl c] := by rw [<- hw1, <- hg]; exact Blk.new w _ _
 obtain ⟨h1, g1⟩ := h.below hb1
 have g0 : w1.cell? ⟨g, 0, none⟩ = some (.int .i64 6) := b1.cell 0
 have gn : w1.cell? ⟨g, 1, none⟩ = some (.int .i64 n) := b1.cell 1
 have lg := b1.lt
 have r5 : w1.cell? ⟨r, 5, none⟩ = some (.bool false) := h1.run.cell 5
 have r4 : w1.cell? ⟨r, 4, none⟩ = some (.int .i64 st) := h1.run.cell 4
 have f5 : w1.frozen? ⟨r, 5, none⟩ = false := h1.run.frozen 5
 have f4 : w1.frozen? ⟨r, 4, none⟩ = false := h1.run.frozen 4
 have lr := h1.run.lt
 have hgr : g ≠ r := Blk.ne_ b1 h1.run (by decide)
 have hm0 : 0 <= n % 256 /\ n % 256 < 256 := ⟨by omega, by omega⟩
 have hmt : -256 < n.tmod 256 /\ n.tmod 256 < 256 := by
  rcases Int.lt_or_le n 0 with h | h
  · have e : n.tmod 256 = -((-n).tmod 256) := by rw [Int.neg_tmod]; simp
    rw [e, Int.tmod_eq_emod_of_nonneg (by omega)]
    omega
  · rw [Int.tmod_eq_emod_of_nonneg h]; omega
 have ht := tmod_twice n
 have hw1' : wrap64 (n.tmod 256) = n.tmod 256 := w64 _ (by omega)
 have hw2 : wrap64 (n.tmod 256 + 256) = n.tmod 256 + 256 := w64 _ (by omega)
 have hw3 : wrap64 (n % 256) = n % 256 := w64 _ (by omega)
 obtain ⟨e, he⟩ : ∃ e, n % 256 = e := ⟨_, rfl⟩
 rw [he] at ht hw3 hm0 ⊢
 have HH1 := Lib.hid h1
 have HG1 := Lib.hid g1
 have HM0 := Lib.hid hm0
 clear h1 g1 hb1 b1 h hn hact hm0 hmt he
 go_enter Tryz.func21, Tryz.ntmps21
 go_upto_region 1 with fail
 try rw [hg]
 try rw [hw1]
 clear hw1 hg
 go_wp2_with fail
 go_returns
 obtain ⟨a1, a2⟩ := HH1.out.runs (S' := S) (st' := st) (ov' := true) 5 (.bool true) rfl ⟨rfl, rfl, rfl⟩
 obtain ⟨a3, a4⟩ := a1.runs (S' := S) (st' := e) (ov' := true) 4 (.int .i64 e) rfl ⟨rfl, rfl, rfl⟩
 have e1 : endSt st e = e := by unfold endSt; rw [if_pos HM0.out.1]
 have e2 : endOv e = true := by unfold endOv; exact decide_eq_true HM0.out.1
 refine ⟨rfl, (HG1.out.trans a2).trans a4, ?_⟩
 rw [e1, e2]
 exact a3
set_option maxRecDepth 100000 in
set_option maxHeartbeats 2000000 in
theorem refDoes_none (h : RSt w M k q tp r x0 x1 x2 fl now S st false) (n : Int) (A : Option Addr) (bl c : Nat) (bs : List UInt8) (kd : Int) (hk : kd ≠ 1 /\ kd ≠ 2 /\ kd ≠ 3 /\ kd ≠ 4 /\ kd ≠ 5 /\ kd ≠ 6) :
 Calls Tryz.prog 21 #[.pointer (some ⟨r, 0, none⟩), .agg #[.int .i64 kd, .int .i64 n, .slice A bl c]] w (DoesOk w M k q tp r x0 x1 x2 fl now st (S.act fl kd n bs)) := by
 have hact : S.act fl kd n bs = (S, -1) := by unfold PF.act; rw [if_neg hk.1, if_neg hk.2.1, if_neg hk.2.2.1, if_neg hk.2.2.2.1, if_neg hk.2.2.2.2.1, if_neg hk.2.2.2.2.2]
 rw [hact]
 obtain ⟨w1, hw1⟩ : ∃ w1, w.alloc (.cells #[.int .i64 kd, .int .i64 n, .slice A bl c] 34) = w1 := ⟨_, rfl⟩
 obtain ⟨g, hg⟩ : ∃ g, w.heap.size = g := ⟨_, rfl⟩
 have hb1 : Below w.heap.size w w1 := by rw [<- hw1]; exact below_one w _
 have b1 : Blk w1 g 34 #[.int .i64 kd, .int .i64 n, .slice A bl c] := by rw [<- hw1, <- hg]; exact Blk.new w _ _
 obtain ⟨h1, g1⟩ := h.below hb1
 have g0 : w1.cell? ⟨g, 0, none⟩ = some (.int .i64 kd) := b1.cell 0
 have gn : w1.cell? ⟨g, 1, none⟩ = some (.int .i64 n) := b1.cell 1
 have lg := b1.lt
 have k1 : (kd == 1) = false := by simpa using hk.1
 have k2 : (kd == 2) = false := by simpa using hk.2.1
 have k3 : (kd == 3) = false := by simpa using hk.2.2.1
 have k4 : (kd == 4) = false := by simpa using hk.2.2.2.1
 have k5 : (kd == 5) = false := by simpa using hk.2.2.2.2.1
 have k6 : (kd == 6) = false := by simpa using hk.2.2.2.2.2
 have HH1 := Lib.hid h1
 have HG1 := Lib.hid g1
 clear h1 g1 hb1 b1 h hact hk gn
 go_enter Tryz.func21, Tryz.ntmps21
 go_upto_region 1 with fail
 try rw [hg]
 try rw [hw1]
 clear hw1 hg
 go_wp2_with fail
 go_returns
 exact ⟨rfl, HG1.out, HH1.out⟩
set_option maxRecDepth 100000 in
set_option maxHeartbeats 2000000 in
theorem refDoes_hold (h : RSt w M k q tp r x0 x1 x2 fl now S st false) (hd : Nat) (hh : S.held = (hd : Int)) (n : Int) (A : Option Addr) (bl c : Nat) (bs : List UInt8) (hn : -9223372036854775808 <= n /\ n <= 9223372036854775807) (hb : (hd : Int) + max 0 n < 4611686018427387904) :
 Calls Tryz.prog 21 #[.pointer (some ⟨r, 0, none⟩), .agg #[.int .i64 4, .int .i64 n, .slice A bl c]] w (DoesOk w M k q tp r x0 x1 x2 fl now st (S.act fl 4 n bs)) := by
 have hact : S.act fl 4 n bs = (S.holds ((hd : Int) + max 0 n) (max S.peak ((hd : Int) + max 0 n)), -1) := by unfold PF.act; rw [if_neg (by decide), if_neg (by decide), if_neg (by decide), if_pos rfl, hh]
 rw [hact]
 obtain ⟨w1, hw1⟩ : ∃ w1, w.alloc (.cells #[.int .i64 4, .int .i64 n, .slice A bl c] 34) = w1 := ⟨_, rfl⟩
 obtain ⟨g, hg⟩ : ∃ g, w.heap.size = g := ⟨_, rfl⟩
 have hb1 : Below w.heap.size w w1 := by rw [<- hw1]; exact below_one w _
 have b1 : Blk w1 g 34 #[.int .i64 4, .int .i64 n, .slice A bl c] := by rw [<- hw1, <- hg]; exact Blk.new w _ _
 obtain ⟨h1, g1⟩ := h.below hb1
 have g0 : w1.cell? ⟨g, 0, none⟩ = some (.int .i64 4) := b1.cell 0
 have gn : w1.cell? ⟨g, 1, none⟩ = some (.int .i64 n) := b1.cell 1
 have lg := b1.lt
 have r2 : w1.cell? ⟨r, 2, none⟩ = some (.int .i64 (hd : Int)) := by rw [<- hh]; exact h1.run.cell 2
 obtain ⟨pk, hpk⟩ : ∃ pk, S.peak = pk := ⟨_, rfl⟩
 rw [hpk]
 have r3 : w1.cell? ⟨r, 3, none⟩ = some (.int .i64 pk) := by rw [<- hpk]; exact h1.run.cell 3
 have f2 : w1.frozen? ⟨r, 2, none⟩ = false := h1.run.frozen 2
 have f3 : w1.frozen? ⟨r, 3, none⟩ = false := h1.run.frozen 3
 have lr := h1.run.lt
 have hgr : g ≠ r := Blk.ne_ b1 h1.run (by decide)
 have hset : ∀ (a : Int) (V : World), RSt V M k q tp r x0 x1 x2 fl now S st false -> Goes M w1 V -> RSt (V.setCell ⟨r, 2, none⟩ (.int .i64 a)) M k q tp r x0 x1 x2 fl now (S.holds a pk) st false /\ Goes M w1 (V.setCell ⟨r, 2, none⟩ (.int .i64 a)) := fun a V hV gV => by
  obtain ⟨z1, z2⟩ := hV.runs (S' := S.holds a pk) (st' := st) (ov' := false) 2 (.int .i64 a) (by rw [<- hpk]; rfl) ⟨rfl, rfl, rfl⟩
  exact ⟨z1, gV.trans z2⟩
 have HSET := Lib.hid hset
 have hpks : ∀ (a b : Int) (V : World), RSt V M k q tp r x0 x1 x2 fl now (S.holds a pk) st false -> Goes M w1 V -> RSt (V.setCell ⟨r, 3, none⟩ (.int .i64 b)) M k q tp r x0 x1 x2 fl now (S.holds a b) st false /\ Goes M w1 (V.setCell ⟨r, 3, none⟩ (.int .i64 b)) := fun a b V hV gV => by
  obtain ⟨z1, z2⟩ := hV.runs (S' := S.holds a b) (st' := st) (ov' := false) 3 (.int .i64 b) rfl ⟨rfl, rfl, rfl⟩
  exact ⟨z1, gV.trans z2⟩
 have HPKS := Lib.hid hpks
 have HH1 := Lib.hid h1
 have HG1 := Lib.hid g1
 have HHD := Lib.hid (And.intro hh hpk)
 have HB := Lib.hid hb
 have hn1 := hn.1
 have hn2 := hn.2
 clear h1 g1 hb1 b1 h hact hn hh hpk hset hpks hb
 go_enter Tryz.func21, Tryz.ntmps21
 go_upto_region 1 with fail
 try rw [hg]
 try rw [hw1]
 clear hw1 hg
 by_cases hp : 0 < n
 · obtain ⟨a, ha⟩ : ∃ a, (hd : Int) + n = a := ⟨_, rfl⟩
   have hmx : max 0 n = n := by omega
   have hw : wrap64 a = a := w64 _ (by have := HB.out; omega)
   have HA := Lib.hid (And.intro ha hmx)
   clear hmx hn1 hn2
   go_wp2_with fail
   go_region
   obtain ⟨V, hV⟩ : ∃ V, (w1.setCell ⟨r, 2, none⟩ (.int .i64 a)).drew = V := ⟨_, rfl⟩
   obtain ⟨s1, s2⟩ := HSET.out a w1 HH1.out (Goes.refl _ _)
   obtain ⟨s3, s4⟩ := s1.below (w' := V) (by rw [<- hV]; exact below_drewN' (Below.refl _ _))
   have HV := Lib.hid (And.intro s3 (s2.trans s4))
   try rw [hV]
   have r2 : V.cell? ⟨r, 2, none⟩ = some (.int .i64 a) := s3.run.cell 2
   have r3 : V.cell? ⟨r, 3, none⟩ = some (.int .i64 pk) := by have := s3.run.cell 3; rw [<- HHD.out.2]; rw [<- HHD.out.2] at this; exact this
   have f3 : V.frozen? ⟨r, 3, none⟩ = false := s3.run.frozen 3
   have lr := s3.run.lt
   clear hV s1 s2 s3 s4 ha hw
   by_cases hgt : pk < a
   · have hd1 : decide (pk < a) = true := decide_eq_true hgt
     have hmm : max pk a = a := by omega
     have HMX := Lib.hid hmm
     clear hmm hgt
     go_wp2_with fail
     go_quiet (fail)
     go_wp2_with fail
     go_returns
     obtain ⟨s5, s6⟩ := HV.out.1.below (w' := V.drewN nq) (below_drewN (Below.refl _ _) nq)
     obtain ⟨s7, s8⟩ := HPKS.out a a _ s5 (HV.out.2.trans s6)
     rw [HA.out.2, HA.out.1, HMX.out]
     exact ⟨rfl, HG1.out.trans s8, s7⟩
   · have hd1 : decide (pk < a) = false := decide_eq_false hgt
     have hmm : max pk a = pk := by omega
     have HMX := Lib.hid hmm
     clear hmm hgt
     go_wp2_with fail
     go_quiet (fail)
     go_wp2_with fail
     go_returns
     obtain ⟨s5, s6⟩ := HV.out.1.below (w' := V.drewN nq) (below_drewN (Below.refl _ _) nq)
     rw [HA.out.2, HA.out.1, HMX.out]
     exact ⟨rfl, HG1.out.trans (HV.out.2.trans s6), s5⟩
 · obtain ⟨a, ha⟩ : ∃ a, (hd : Int) = a := ⟨_, rfl⟩
   have hmx : max 0 n = 0 := by omega
   have hself : S = S.holds a pk := by
    have h1 := HHD.out
    rw [ha] at h1
    rw [<- h1.1, <- h1.2]; rfl
   have HA := Lib.hid (And.intro (show (hd : Int) + 0 = a by omega) hmx)
   have HV : Hid (RSt w1 M k q tp r x0 x1 x2 fl now (S.holds a pk) st false /\ Goes M w1 w1) := Lib.hid ⟨by rw [<- hself]; exact HH1.out, Goes.refl _ _⟩
   rw [ha] at r2
   clear hself hmx ha hn1 hn2
   by_cases hgt : pk < a
   · have hd1 : decide (pk < a) = true := decide_eq_true hgt
     have hmm : max pk a = a := by omega
     have HMX := Lib.hid hmm
     clear hmm hgt
     go_wp2_with fail
     go_quiet (fail)
     go_wp2_with fail
     go_returns
     obtain ⟨s5, s6⟩ := HV.out.1.below (w' := w1.drewN nq) (below_drewN (Below.refl _ _) nq)
     obtain ⟨s7, s8⟩ := HPKS.out a a _ s5 (HV.out.2.trans s6)
     rw [HA.out.2, HA.out.1, HMX.out]
     exact ⟨rfl, HG1.out.trans s8, s7⟩
   · have hd1 : decide (pk < a) = false := decide_eq_false hgt
     have hmm : max pk a = pk := by omega
     have HMX := Lib.hid hmm
     clear hmm hgt
     go_wp2_with fail
     go_quiet (fail)
     go_wp2_with fail
     go_returns
     obtain ⟨s5, s6⟩ := HV.out.1.below (w' := w1.drewN nq) (below_drewN (Below.refl _ _) nq)
     rw [HA.out.2, HA.out.1, HMX.out]
     exact ⟨rfl, HG1.out.trans (HV.out.2.trans s6), s5⟩
set_option maxRecDepth 100000 in
set_option maxHeartbeats 2000000 in
theorem refDoes_drop (h : RSt w M k q tp r x0 x1 x2 fl now S st false) (hd : Nat) (hh : S.held = (hd : Int)) (n : Int) (A : Option Addr) (bl c : Nat) (bs : List UInt8) (hn : -9223372036854775808 <= n /\ n <= 9223372036854775807) (hb : (hd : Int) < 4611686018427387904) :
 Calls Tryz.prog 21 #[.pointer (some ⟨r, 0, none⟩), .agg #[.int .i64 5, .int .i64 n, .slice A bl c]] w (DoesOk w M k q tp r x0 x1 x2 fl now st (S.act fl 5 n bs)) := by
 have hact : S.act fl 5 n bs = (S.holds (dropped hd n) S.peak, -1) := by unfold PF.act; rw [if_neg (by decide), if_neg (by decide), if_neg (by decide), if_neg (by decide), if_pos rfl, hh]
 rw [hact]
 obtain ⟨w1, hw1⟩ : ∃ w1, w.alloc (.cells #[.int .i64 5, .int .i64 n, .slice A bl c] 34) = w1 := ⟨_, rfl⟩
 obtain ⟨g, hg⟩ : ∃ g, w.heap.size = g := ⟨_, rfl⟩
 have hb1 : Below w.heap.size w w1 := by rw [<- hw1]; exact below_one w _
 have b1 : Blk w1 g 34 #[.int .i64 5, .int .i64 n, .slice A bl c] := by rw [<- hw1, <- hg]; exact Blk.new w _ _
 obtain ⟨h1, g1⟩ := h.below hb1
 have g0 : w1.cell? ⟨g, 0, none⟩ = some (.int .i64 5) := b1.cell 0
 have gn : w1.cell? ⟨g, 1, none⟩ = some (.int .i64 n) := b1.cell 1
 have lg := b1.lt
 have r2 : w1.cell? ⟨r, 2, none⟩ = some (.int .i64 (hd : Int)) := by rw [<- hh]; exact h1.run.cell 2
 obtain ⟨pk, hpk⟩ : ∃ pk, S.peak = pk := ⟨_, rfl⟩
 rw [hpk]
 have r3 : w1.cell? ⟨r, 3, none⟩ = some (.int .i64 pk) := by rw [<- hpk]; exact h1.run.cell 3
 have f2 : w1.frozen? ⟨r, 2, none⟩ = false := h1.run.frozen 2
 have f3 : w1.frozen? ⟨r, 3, none⟩ = false := h1.run.frozen 3
 have lr := h1.run.lt
 have hgr : g ≠ r := Blk.ne_ b1 h1.run (by decide)
 have hset : ∀ (a : Int) (V : World), RSt V M k q tp r x0 x1 x2 fl now S st false -> Goes M w1 V -> RSt (V.setCell ⟨r, 2, none⟩ (.int .i64 a)) M k q tp r x0 x1 x2 fl now (S.holds a pk) st false /\ Goes M w1 (V.setCell ⟨r, 2, none⟩ (.int .i64 a)) := fun a V hV gV => by
  obtain ⟨z1, z2⟩ := hV.runs (S' := S.holds a pk) (st' := st) (ov' := false) 2 (.int .i64 a) (by rw [<- hpk]; rfl) ⟨rfl, rfl, rfl⟩
  exact ⟨z1, gV.trans z2⟩
 have HSET := Lib.hid hset
 have hself : S = S.holds hd pk := by rw [<- hh, <- hpk]; rfl
 have HSELF := Lib.hid hself
 have HH1 := Lib.hid h1
 have HG1 := Lib.hid g1
 have HB := Lib.hid hb
 have hn1 := hn.1
 have hn2 := hn.2
 clear h1 g1 hb1 b1 h hact hn hh hpk hset hb hself r3 f3
 have h0 : ∀ V, Below w1.heap.size w1 V -> RSt V M k q tp r x0 x1 x2 fl now S st false /\ Goes M w1 V := fun V hV => HH1.out.below hV
 have HH0 := Lib.hid h0
 clear h0
 go_enter Tryz.func21, Tryz.ntmps21
 go_upto_region 1 with fail
 try rw [hg]
 try rw [hw1]
 clear hw1 hg
 by_cases hgt : (hd : Int) < n
 · have hd1 : decide ((hd : Int) < n) = true := decide_eq_true hgt
   have hdr : dropped hd n = 0 := by unfold dropped; rw [if_pos (by omega)]; omega
   have HDR := Lib.hid hdr
   clear hdr hgt hn1 hn2
   go_wp2_with fail
   go_quiet (fail)
   go_wp2_with fail
   go_returns
   obtain ⟨s5, s6⟩ := HH0.out (w1.drewN nq) (below_drewN (Below.refl _ _) nq)
   obtain ⟨s7, s8⟩ := HSET.out 0 _ s5 s6
   rw [HDR.out]
   exact ⟨rfl, HG1.out.trans s8, s7⟩
 · have hd1 : decide ((hd : Int) < n) = false := decide_eq_false hgt
   by_cases hp : 0 < n
   · obtain ⟨a, ha⟩ : ∃ a, (hd : Int) - n = a := ⟨_, rfl⟩
     have hdr : dropped hd n = a := by unfold dropped; rw [if_pos hp]; omega
     have hw : wrap64 a = a := w64 _ (by have := HB.out; omega)
     have HDR := Lib.hid hdr
     clear hdr hgt hn1 hn2
     go_wp2_with fail
     go_quiet (fail)
     go_wp2_with fail
     obtain ⟨V, hV⟩ : ∃ V, w1.drewN nq = V := ⟨_, rfl⟩
     obtain ⟨s5, s6⟩ := HH0.out V (by rw [<- hV]; exact below_drewN (Below.refl _ _) nq)
     have g0 : V.cell? ⟨g, 0, none⟩ = some (.int .i64 5) := by rw [<- hV]; exact g0
     have gn : V.cell? ⟨g, 1, none⟩ = some (.int .i64 n) := by rw [<- hV]; exact gn
     have lg : g < V.heap.size := by rw [<- hV]; exact lg
     have r2 : V.cell? ⟨r, 2, none⟩ = some (.int .i64 (hd : Int)) := by rw [<- hV]; exact r2
     have f2 : V.frozen? ⟨r, 2, none⟩ = false := by rw [<- hV]; exact f2
     have lr : r < V.heap.size := by rw [<- hV]; exact lr
     have HV := Lib.hid (And.intro s5 s6)
     rw [hV]
     clear hV s5 s6
     go_region
     go_wp2_with fail
     go_returns
     obtain ⟨s7, s8⟩ := HSET.out a _ HV.out.1 HV.out.2
     obtain ⟨s9, s10⟩ := s7.below (w' := (V.setCell ⟨r, 2, none⟩ (.int .i64 a)).drew) (below_drewN' (Below.refl _ _))
     rw [HDR.out]
     exact ⟨rfl, (HG1.out.trans s8).trans s10, s9⟩
   · have hdr : dropped hd n = hd := by unfold dropped; rw [if_neg hp]
     have hp1 : decide (0 < n) = false := decide_eq_false hp
     have HDR := Lib.hid hdr
     have HP := Lib.hid hp
     clear hdr hgt hn1 hn2 hp
     go_wp2_with fail
     go_quiet (fail)
     have hp := HP.out
     clear hd1
     go_wp2_with fail
     go_returns
     obtain ⟨s5, s6⟩ := HH0.out (w1.drewN nq) (below_drewN (Below.refl _ _) nq)
     rw [HDR.out, <- HSELF.out]
     exact ⟨rfl, HG1.out.trans s6, s5⟩
end
end
section
set_option maxRecDepth 100000
open Go.RowKit Go.Maps Go.Shelf
section
variable {w : World} {M k q tp r x0 x1 x2 : Nat} {fl : List (Int × Int)} {now : Int} {S : PF} {st : Int}
theorem refDoes (h : RSt w M k q tp r x0 x1 x2 fl now S st false) (kd n : Int) (A : Option Addr) (bl c : Nat) (bs : List UInt8) (hb : Still w M A bl c bs) (hn : -9223372036854775808 <= n /\ n <= 9223372036854775807) (hs : S.steps + S.left fl + S.inb.length + bl + 3 < 4611686018427387904) (hd : ∀ b, (S.said b).length + S.inb.length + bl <= 140737488355000) (hi : S.inb.length <= 1048576) (hd_ : Nat) (hh : S.held = (hd_ : Int)) (hhb : (hd_ : Int) + (if kd = 4 then max 0 n else 0) < 4611686018427387904) :
 Calls Tryz.prog 21 #[.pointer (some ⟨r, 0, none⟩), .agg #[.int .i64 kd, .int .i64 n, .slice A bl c]] w (DoesOk w M k q tp r x0 x1 x2 fl now st (S.act fl kd n bs)) := by
 have hp : 0 <= (if kd = 4 then max 0 n else 0) := by split <;> omega
 by_cases k1 : kd = 1
 · subst k1; exact refDoes_copy h n A bl c bs hn (by omega) (fun b => by have := hd b; omega) hi
 by_cases k2 : kd = 2
 · subst k2; exact refDoes_out h n A bl c bs hb (by omega) (fun b => by have := hd b; omega)
 by_cases k3 : kd = 3
 · subst k3; exact refDoes_err h n A bl c bs hb (by omega) (fun b => by have := hd b; omega)
 by_cases k4 : kd = 4
 · subst k4; exact refDoes_hold h hd_ hh n A bl c bs hn (by rw [if_pos rfl] at hhb; exact hhb)
 by_cases k5 : kd = 5
 · subst k5; exact refDoes_drop h hd_ hh n A bl c bs hn (by omega)
 by_cases k6 : kd = 6
 · subst k6; exact refDoes_end h n A bl c bs hn
 exact refDoes_none h n A bl c bs kd ⟨k1, k2, k3, k4, k5, k6⟩
set_option maxHeartbeats 1000000 in
theorem refSaid {qs xs : List Nat} {used : Nat} (h : RKern w M k tp qs xs fl used now) (hx : xs.length <= 1048576) (i x : Nat) (hi : xs[i]? = some x) (v : Value) (hb : Blk w x 123 (thingC 2 v)) :
 Calls Tryz.prog 22 #[.pointer (some ⟨k, 0, none⟩), .int .i64 ((i : Int) + 1)] w fun e w' => e = .returned v /\ w' = w := by
 have H1 := Lib.hid (refThing w M k tp qs xs fl used now h hx i x hi)
 have c0 : w.cell? ⟨x, 0, none⟩ = some (.int .i64 2) := hb.cell 0
 have c1 : w.cell? ⟨x, 1, none⟩ = some v := hb.cell 1
 have lx := hb.lt
 clear h hx hi hb
 go_enter Tryz.func22, Tryz.ntmps22
 go_wp2_with (go_at_call 49; refine H1.out.mono ?_; rintro e1 w1 ⟨rfl, h1⟩; obtain rfl : w = w1 := h1.symm)
 go_returns
 exact ⟨rfl, rfl⟩
end
structure RSet (w3 : World) (M k q tp r : Nat) (inb : List UInt8) (xs : List Nat) (a b c : Int) (fl : List (Int × Int)) (now : Int) (w : World) : Prop where
 kern : RKern w M k tp [q] xs fl 0 now
 tab : Blk w q 118 (tabC k a b c)
 run : Blk w r 61 #[.pointer (some ⟨q, 0, none⟩), .int .i64 0, .int .i64 0, .int .i64 0, .int .i64 0, .bool false]
 below : Below M w3 w
 size : M <= w.heap.size
 low : M <= q /\ M <= r /\ ∀ x ∈ xs, M <= x
 src : ∀ x, xs[0]? = some x -> RThing w M x 1 inb
 out : ∀ x, xs[1]? = some x -> RThing w M x 2 []
 err : ∀ x, xs[2]? = some x -> RThing w M x 2 []
 nodup : xs.Nodup /\ ∀ x ∈ xs, x < w.heap.size
section
variable {w3 w w' : World} {M k q tp r : Nat} {inb : List UInt8} {xs : List Nat} {a b c : Int} {fl : List (Int × Int)} {now : Int}
theorem RSet.on (h : RSet w3 M k q tp r inb xs a b c fl now w) (hb : Below w.heap.size w w') : RSet w3 M k q tp r inb xs a b c fl now w' :=
 ⟨h.kern.below hb, Blk.on h.tab hb, Blk.on h.run hb, h.below.trans (hb.mono h.size), Nat.le_trans h.size hb.size, h.low, fun x hx => (h.src x hx).keeps (Keeps.of_below hb), fun x hx => (h.out x hx).keeps (Keeps.of_below hb), fun x hx => (h.err x hx).keeps (Keeps.of_below hb), h.nodup.1, fun x hx => Nat.lt_of_lt_of_le (h.nodup.2 x hx) hb.size⟩
theorem RSet.add (h : RSet w3 M k q tp r inb xs a b c fl now w) {x : Nat} {kind : Int} {l : List UInt8} (hK : RKern w' M k tp [q] (xs ++ [x]) fl 0 now) (hx : RThing w' M x kind l) (hwx : w.heap.size <= x) (hk : Keeps w w') (hb : Below M w w') (hl : xs.length = 0 /\ kind = 1 /\ l = inb \/ (xs.length = 1 \/ xs.length = 2) /\ kind = 2 /\ l = []) : RSet w3 M k q tp r inb (xs ++ [x]) a b c fl now w' := by
 obtain ⟨cs, hxb⟩ := hx.block
 have at_ : ∀ i y, (xs ++ [x])[i]? = some y -> xs[i]? = some y \/ (i = xs.length /\ y = x) := fun i y hy => by
  rcases Nat.lt_or_ge i xs.length with h1 | h1
  · rw [List.getElem?_append_left h1] at hy; exact .inl hy
  · rw [List.getElem?_append_right h1] at hy
    obtain ⟨h2, h3⟩ := List.getElem?_eq_some_iff.1 hy
    simp at h2
    refine .inr ⟨by omega, ?_⟩
    simp [h2] at h3
    exact h3.symm
 refine ⟨hK, hk _ _ _ h.tab (by decide) (by decide) (by decide), hk _ _ _ h.run (by decide) (by decide) (by decide), h.below.trans hb, Nat.le_trans h.size hb.size, ⟨h.low.1, h.low.2.1, fun y hy => ?_⟩, fun y hy => ?_, fun y hy => ?_, fun y hy => ?_, ?_, fun y hy => ?_⟩
 · rcases List.mem_append.1 hy with hy | hy
   · exact h.low.2.2 y hy
   · rw [List.mem_singleton.1 hy]; exact Nat.le_trans h.size hwx
 · rcases at_ 0 y hy with h1 | ⟨h1, rfl⟩
   · exact (h.src y h1).keeps hk
   · rcases hl with ⟨_, rfl, rfl⟩ | ⟨h2, _⟩
     · exact hx
     · omega
 · rcases at_ 1 y hy with h1 | ⟨h1, rfl⟩
   · exact (h.out y h1).keeps hk
   · rcases hl with ⟨h2, _⟩ | ⟨_, rfl, rfl⟩
     · omega
     · exact hx
 · rcases at_ 2 y hy with h1 | ⟨h1, rfl⟩
   · exact (h.err y h1).keeps hk
   · rcases hl with ⟨h2, _⟩ | ⟨_, rfl, rfl⟩
     · omega
     · exact hx
 · rw [List.nodup_append]
   refine ⟨h.nodup.1, by simp, fun y hy z hz e => ?_⟩
   rw [List.mem_singleton] at hz
   have := h.nodup.2 y hy
   omega
 · rcases List.mem_append.1 hy with hy | hy
   · exact Nat.lt_of_lt_of_le (h.nodup.2 y hy) hb.size
   · rw [List.mem_singleton.1 hy]; exact hxb.lt
theorem RSet.source (h : RSet w3 M k q tp r inb [] a b c fl now w) (IA : Option Addr) (ic m : Nat) (hm : inb.length = m) (hr : Reads w w.heap.size 1 IA m (bytesC inb)) (hm2 : m <= 1048576) :
 Calls Tryz.prog 19 #[.pointer (some ⟨k, 0, none⟩), .slice IA m ic] w fun e w' => e = .returned (.int .i64 1) /\ ∃ x, RSet w3 M k q tp r inb [x] a b c fl now w' :=
 (refSource w M k tp [q] [] fl 0 now h.kern h.size (by simp) IA ic m inb hm hr hm2).mono fun e w' ⟨x, he, hK, hx, hwx, hk, hb⟩ => ⟨he, x, h.add hK hx hwx hk hb (.inl ⟨rfl, rfl, rfl⟩)⟩
theorem RSet.sink (h : RSet w3 M k q tp r inb xs a b c fl now w) (hl : xs.length = 1 \/ xs.length = 2) :
 Calls Tryz.prog 20 #[.pointer (some ⟨k, 0, none⟩)] w fun e w' => e = .returned (.int .i64 ((xs.length : Int) + 1)) /\ ∃ x, RSet w3 M k q tp r inb (xs ++ [x]) a b c fl now w' :=
 (refSink w M k tp [q] xs fl 0 now h.kern h.size (by omega)).mono fun e w' ⟨x, he, hK, hx, hwx, hk, hb⟩ => ⟨he, x, h.add hK hx hwx hk hb (.inr ⟨hl, rfl, rfl⟩)⟩
theorem RSet.put (h : RSet w3 M k q tp r inb xs a b c fl now w) (hxl : xs.length <= 3) (fd i x : Nat) (a' b' c' : Int) (hfd : fd < 16) (h0 : (tabC k a b c)[1 + fd]? = some (.int .i64 0)) (hz : ∀ j, j < 16 -> ∃ z : Int, (tabC k a b c)[1 + j]? = some (.int .i64 z)) (hset : (tabC k a b c).setIfInBounds (1 + fd) (.int .i64 ((i : Int) + 1)) = tabC k a' b' c') (hi : xs[i]? = some x) :
 Calls Tryz.prog 18 #[.pointer (some ⟨q, 0, none⟩), .int .i64 (fd : Int), .int .i64 ((i : Int) + 1)] w fun e w' => e = .returned (.int .i64 0) /\ RSet w3 M k q tp r inb xs a' b' c' fl now w' := by
 have hth : ∃ kind l, RThing w M x kind l := by
  have hil := (List.getElem?_eq_some_iff.1 hi).1
  rcases (by omega : i = 0 \/ i = 1 \/ i = 2) with rfl | rfl | rfl
  · exact ⟨_, _, h.src x hi⟩
  · exact ⟨_, _, h.out x hi⟩
  · exact ⟨_, _, h.err x hi⟩
 obtain ⟨kind, l, ht⟩ := hth
 refine (refPut w M k tp q xs fl 0 now h.kern (by omega) (tabC k a b c) h.tab rfl rfl hz fd hfd h0 i x hi kind l ht).mono ?_
 rintro e w' ⟨rfl, rfl⟩
 have hT : Turns [q] w (w.setCell ⟨q, 1 + fd, none⟩ (.int .i64 ((i : Int) + 1))) := (Turns.refl _ w).setCell _ _ (fun _ => List.mem_singleton.2 rfl)
 have th : ∀ {x : Nat} {kind : Int} {l : List UInt8}, RThing w M x kind l -> RThing (w.setCell ⟨q, 1 + fd, none⟩ (.int .i64 ((i : Int) + 1))) M x kind l := fun hx => hx.turns hT (by
  obtain ⟨cs, hb⟩ := hx.block
  rw [List.mem_singleton]
  exact Blk.ne_ hb h.tab (by decide)) (fun g hg => by rw [List.mem_singleton.1 hg]; exact ⟨_, _, h.tab, by decide⟩)
 refine ⟨rfl, h.kern.far h.tab (by decide) (by decide) (by decide) (by decide) _ _, by rw [<- hset]; exact h.tab.set_ _ _, h.run.far (p := ⟨q, 1 + fd, none⟩) (Blk.ne_ h.run h.tab (by decide)) _, h.below.setCell (p := ⟨q, 1 + fd, none⟩) h.low.1 _, by rw [World.size_setCell]; exact h.size, h.low, fun x hx => th (h.src x hx), fun x hx => th (h.out x hx), fun x hx => th (h.err x hx), h.nodup.1, fun x hx => by rw [World.size_setCell]; exact h.nodup.2 x hx⟩
theorem tab_ints (k : Nat) (a b c : Int) : ∀ j, j < 16 -> ∃ z : Int, (tabC k a b c)[1 + j]? = some (.int .i64 z) := by
 intro j hj
 match j, hj with
 | 0, _ => exact ⟨a, rfl⟩
 | 1, _ => exact ⟨b, rfl⟩
 | 2, _ => exact ⟨c, rfl⟩
 | 3, _ | 4, _ | 5, _ | 6, _ | 7, _ | 8, _ | 9, _ | 10, _ | 11, _ | 12, _ | 13, _ | 14, _ | 15, _ => exact ⟨0, rfl⟩
 | n + 16, h => exact absurd h (by omega)
def pf0 (inb : List UInt8) : PF := { steps := 0, held := 0, peak := 0, inb := inb, said := fun _ => [], used := 0 }
theorem RSet.ready {x0 x1 x2 : Nat} (h : RSet w3 M k q tp r inb [x0, x1, x2] 1 2 3 fl now w) (hf : fl.length <= 1048576) : RSt w M k q tp r x0 x1 x2 fl now (pf0 inb) 0 false := by
 have hn := h.nodup.1
 simp only [List.nodup_cons, List.mem_cons, List.not_mem_nil, or_false, not_or] at hn
 exact ⟨⟨h.kern, h.tab, h.src x0 rfl, h.out x1 rfl, h.err x2 rfl, ⟨hn.1.1, hn.1.2, hn.2.1⟩, ⟨h.low.1, h.low.2.2 _ (by simp), h.low.2.2 _ (by simp), h.low.2.2 _ (by simp)⟩, Nat.zero_le _, hf⟩, h.run, h.low.2.1, h.size⟩
end
end
end Go.Proofs.YtffffjngodinnaaGreatDoor
