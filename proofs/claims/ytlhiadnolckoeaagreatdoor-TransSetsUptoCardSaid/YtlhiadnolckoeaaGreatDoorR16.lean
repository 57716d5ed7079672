/-
  Parts that the claims share: A walk over the law's own examples.
-/
import Derived.Test.YtlhiadnolckoeaaGreatDoorR15
import Derived.Test.YtlhiadnolckoeaaGreatDoorR03
import Derived.Lib.SlBytesConst

section
namespace Go.Proofs.YtlhiadnolckoeaaGreatDoor
open Go.RowKit Go.Maps

abbrev resT : TypeId := 38
def resC (ov ev : Value) (st sp pk : Int) : Array Value := #[ov, ev, .int .i64 st, .slice none 0 0, .int .i64 sp, .int .i64 pk, .int .i64 0]
def resZ0 : Array Value := #[.slice none 0 0, .slice none 0 0, .int .i64 0, .slice none 0 0, .int .i64 0, .int .i64 0, .int .i64 0]
/-- a result in a block of its own -/
structure ResAt (W : World) (g : Nat) (A : Option Addr) (c : Nat) (E : Option Addr) (d : Nat) (out err : List UInt8) (st : Int) : Prop where
  blk : ∃ sp pk, Blk W g resT (resC (.slice A out.length c) (.slice E err.length d) st sp pk)
  out : Reads W W.heap.size 1 A out.length (bytesC out)
  err : Reads W W.heap.size 1 E err.length (bytesC err)
section
variable {W W' : World} {g : Nat} {A : Option Addr} {c : Nat} {E : Option Addr} {d : Nat} {out err : List UInt8} {st : Int}
theorem ResAt.below (h : ResAt W g A c E d out err st) (hb : Below W.heap.size W W') : ResAt W' g A c E d out err st := by
  obtain ⟨⟨sp, pk, k⟩, h2, h3⟩ := h
  exact ⟨⟨sp, pk, k.on hb⟩, (h2.below hb).more hb.size, (h3.below hb).more hb.size⟩
theorem ResAt.c0 (h : ResAt W g A c E d out err st) : W.cell? ⟨g, 0, none⟩ = some (.slice A out.length c) := by
  obtain ⟨⟨sp, pk, k⟩, _, _⟩ := h
  exact k.cell 0
theorem ResAt.c1 (h : ResAt W g A c E d out err st) : W.cell? ⟨g, 1, none⟩ = some (.slice E err.length d) := by
  obtain ⟨⟨sp, pk, k⟩, _, _⟩ := h
  exact k.cell 1
theorem ResAt.c2 (h : ResAt W g A c E d out err st) : W.cell? ⟨g, 2, none⟩ = some (.int .i64 st) := by
  obtain ⟨⟨sp, pk, k⟩, _, _⟩ := h
  exact k.cell 2
end
/-- a result stored into a new box -/
theorem wpList_store_res {ops : Array Oper} {rest : List Oper} {o : Oper} {a : Act} {Q : Exit → Act → World → Prop} (hgd : o.guard = none) (x y : Operand) (ho : o.op = .store resT x y) {wp w w1 : World} (hwp : Below wp.heap.size wp w) {out err : List UInt8} {st sp pk : Int} {ov ev : Value}
    (ho' : w1.ownsRow w.heap.size 5 1 ov out.length (bytesC out)) (he' : w1.ownsRow w.heap.size 5 1 ev err.length (bytesC err)) (hb : Below w.heap.size w w1)
    (hx : a.eval x = .pointer (some ⟨w1.heap.size, 0, none⟩)) (hy : a.eval y = .agg (resC ov ev st sp pk))
    (hK : ∀ w', (∃ A c E d, ResAt w' w1.heap.size A c E d out err st) → Below wp.heap.size wp w' → wpList Tryz.prog ops Q rest (a.put o.dst undef) w') : wpList Tryz.prog ops Q (o :: rest) a (w1.alloc (.cells resZ0 resT)) := by
  obtain ⟨A, c, rfl, _, _, hrA⟩ := own_slice ho'
  obtain ⟨E, d, rfl, _, _, hrE⟩ := own_slice he'
  refine wpList_store_blk hgd resT x y ho w1.heap.size resT resZ0 (resC (.slice A out.length c) (.slice E err.length d) st sp pk) hx hy (Blk.new w1 _ _) rfl (by kernel_rfl) (by kernel_rfl) ?_
  intro w' hb' hg'
  have hbA : Below w1.heap.size w1 (w1.alloc (.cells resZ0 resT)) := below_one w1 _
  have hb2 : Below w1.heap.size w1 w' := hbA.grown hg' (by simp) (fun k hk => by cases hk; exact Nat.le_refl _)
  have b1 : Below wp.heap.size wp w1 := hwp.trans (hb.mono hwp.size)
  exact hK w' ⟨A, c, E, d, ⟨sp, pk, hb'⟩, (hrA.below hb2).more hb2.size, (hrE.below hb2).more hb2.size⟩ (b1.trans (hb2.mono b1.size))
theorem convOut {W : World} {B cap n : Nat} {A : Option Addr} {l : List UInt8} {S : ByteArray} (hS : strB l = S) (hn : l.length = n) (hr : Reads W B 1 A l.length (bytesC l)) : (convert 23 9 (.slice A n cap)).run Tryz.prog W = .ok (.string S) W := by
  subst hS hn
  exact convert_string Tryz.underlying23 Tryz.underlying5 Tryz.underlying9 hr


set_option maxHeartbeats 400000 in
theorem lim_any (w : World) : Calls Tryz.prog 13 #[] w fun e w' => e = .returned (.agg #[.int .i64 3, .int .i64 9, .int .i64 9]) ∧ Below w.heap.size w w' := by
  go_enter Tryz.func13, Tryz.ntmps13
  go_wp2_with fail
  go_returns
  exact ⟨rfl, below_one w _⟩
/-- bytes and strings that were laid, as a run of tr finds them -/
theorem two_new (w : World) (bs : List UInt8) (m : Nat) (hm : bs.length = m) (hm2 : m ≤ maxLen) (l : List ByteArray) (n : Nat) (hn : l.length = n) (bc sc : Array Value) (fr : Nat × Nat) (hbc : bc.toList = bytesC bs) (hsc : sc.toList = strsC l) (w2 : World)
    (h : Below ((w.alloc (.cells bc 5 fr)).alloc (.cells sc 9)).heap.size ((w.alloc (.cells bc 5 fr)).alloc (.cells sc 9)) w2) :
    Reads w2 w2.heap.size 1 (some ⟨w.heap.size + 1, 0, none⟩) n (strsC l) ∧ Bytes w2 w2.heap.size (.slice (some ⟨w.heap.size, 0, none⟩) m m) bs ∧ Below w.heap.size w w2 := by
  have k1 : w2.heap[w.heap.size]? = some (.cells bc 5 fr) := by
    rw [h.block _ (by simp; omega), Below.heap_alloc _ _ _ (by simp)]
    exact heap_alloc_new w _
  have l1 : w.heap.size < w2.heap.size := (Array.getElem?_eq_some_iff.1 k1).1
  have k2 : Blk w2 (w.heap.size + 1) 9 sc := by
    have := (Blk.new (w.alloc (.cells bc 5 fr)) 9 sc).on h
    simpa using this
  refine ⟨⟨by simp [strsC, hn], fun _ => ⟨_, rfl, k2.lt, fun j u hu => ?_⟩⟩, ?_, (below_box (below_one w _) (Nat.le_refl _) _).trans (h.mono (by simp; omega))⟩
  · rw [addr0, k2.cell j, ← hu, ← hsc]
    simp
  · subst hm
    refine ⟨_, _, rfl, Nat.le_refl _, hm2, fun e => by simp at e, by simp [bytesC], fun _ => ⟨_, rfl, l1, fun j u hu => ?_⟩⟩
    rw [addr0, cell_of_row w2 _ j bc _ fr k1, ← hu, ← hbc]
    simp

set_option maxRecDepth 100000 in
set_option maxHeartbeats 6000000 in
theorem awake_any (W : World) (hT : Tabs W) : Calls Tryz.prog 6 #[] W fun e w' => e = .returned (.bool true) ∧ Below W.heap.size W w' := by
  obtain ⟨S0, hS0⟩ : ∃ S, strB [97, 98, 99, 120, 120, 10] = S := ⟨_, rfl⟩
  obtain ⟨S1, hS1⟩ : ∃ S, strB [65, 66, 67, 100] = S := ⟨_, rfl⟩
  obtain ⟨S2, hS2⟩ : ∃ S, strB [97, 98] = S := ⟨_, rfl⟩
  obtain ⟨S3, hS3⟩ : ∃ S, strB [97, 98, 97] = S := ⟨_, rfl⟩
  obtain ⟨S4, hS4⟩ : ∃ S, strB [97, 98, 10, 99, 10] = S := ⟨_, rfl⟩
  have f0 : (S0.toList == [97, 98, 99, 120, 120, 10]) = true := by rw [← hS0, strB_toList]; rfl
  have f1 : (S1.toList == [65, 66, 67, 100]) = true := by rw [← hS1, strB_toList]; rfl
  have f2 : (S2.toList == [97, 98]) = true := by rw [← hS2, strB_toList]; rfl
  have f3 : (S3.toList == [97, 98, 97]) = true := by rw [← hS3, strB_toList]; rfl
  have f4 : (S4.toList == [97, 98, 10, 99, 10]) = true := by rw [← hS4, strB_toList]; rfl
  have HT := Lib.hid hT
  have H0 := Lib.hid hS0
  have H1 := Lib.hid hS1
  have H2 := Lib.hid hS2
  have H3 := Lib.hid hS3
  have H4 := Lib.hid hS4
  have hset : Calls Tryz.prog 7 #[.string ⟨#[97, 45, 99, 91, 120, 42, 50, 93, 92, 110]⟩] W fun e w' => ∃ v, e = .returned (.tuple #[v, .int .i64 (-1), .bool true]) ∧ w'.ownsRow W.heap.size 5 1 v 6 (bytesC [97, 98, 99, 120, 120, 10]) ∧ Below W.heap.size W w' := by
    have h := set_any W [97, 45, 99, 91, 120, 42, 50, 93, 92, 110] (by decide) hT
    rw [setAx] at h
    exact h
  clear hT hS1 hS2 hS3 hS4 hS0
  have hcv := fun (w : World) (C : Array Value) (n c : Nat) => Lib.run_convert_bytes_const (P := Tryz.prog) w 23 5 C n c Tryz.underlying23 Tryz.underlying5
  go_enter Tryz.func6, Tryz.ntmps6
  go_wp2_with (first
    | (refine wpList_store_res (err := []) rfl (.tmp 10) (.tmp 47) rfl (Below.refl _ w11) ho12 he12 hb12 rfl rfl ?_; rintro w13 ⟨A4, c4, E4, d4, R4⟩ bq13
       have bb13 : Below w10.heap.size w10 w13 := c11.trans (bq13.mono c11.size)
       have b013 := b010.trans (bb13.mono b010.size)
       clear bq13 c11 ho12 he12 hb12 b011
       have R1' := ((R1.below bb7).below bb10).below bb13
       have R2' := (R2.below bb10).below bb13
       have R3' := R3.below bb13
       have x1 : w13.cell? ⟨w3.heap.size, 0, none⟩ = some (.slice A1 4 c1) := R1'.c0
       have x2 : w13.cell? ⟨w6.heap.size, 0, none⟩ = some (.slice A2 2 c2) := R2'.c0
       have x3 : w13.cell? ⟨w9.heap.size, 0, none⟩ = some (.slice A3 3 c3) := R3'.c0
       have x4 : w13.cell? ⟨w12.heap.size, 0, none⟩ = some (.slice A4 5 c4) := R4.c0
       have hs13 : Reads w13 w1.heap.size 1 A0 6 (bytesC [97, 98, 99, 120, 120, 10]) := rd0.below ((bb4.trans (bb7.mono bb4.size)).trans ((bb10.trans (bb13.mono bb10.size)).mono (Nat.le_trans bb4.size bb7.size)))
       have y0 : (convert 23 9 (.slice A0 6 c0)).run Tryz.prog w13 = .ok (.string S0) w13 := convOut H0.out rfl hs13
       have y1 : (convert 23 9 (.slice A1 4 c1)).run Tryz.prog w13 = .ok (.string S1) w13 := convOut H1.out rfl R1'.out
       have y2 : (convert 23 9 (.slice A2 2 c2)).run Tryz.prog w13 = .ok (.string S2) w13 := convOut H2.out rfl R2'.out
       have y3 : (convert 23 9 (.slice A3 3 c3)).run Tryz.prog w13 = .ok (.string S3) w13 := convOut H3.out rfl R3'.out
       have y4 : (convert 23 9 (.slice A4 5 c4)).run Tryz.prog w13 = .ok (.string S4) w13 := convOut H4.out rfl R4.out)
    | (go_at_call 11; have hq := (runD w11 t11.out).go _ 3 _ 6 r11 i11; with_reducible refine hq.mono ?_; rintro e w12 ⟨ov12, ev12, sp12, pk12, rfl, ho12, he12, hb12⟩; unfold resV; clear hq r11 i11 t11)
    | (go_at_call 13; have hB10 := b010; refine (lim_any ((w10.alloc (.cells #[.int .u8 97, .int .u8 98, .int .u8 32, .int .u8 32, .int .u8 99, .int .u8 49] 5 (6, 7))).alloc (.cells #[.string ⟨#[45, 99, 115]⟩, .string ⟨#[97, 45, 122]⟩, .string ⟨#[91, 92, 110, 42, 93]⟩] 9))).mono ?_; rintro e w11 ⟨rfl, hl11⟩
       obtain ⟨r11, i11, c11⟩ := two_new w10 [97, 98, 32, 32, 99, 49] 6 rfl (by decide) argD 3 rfl #[.int .u8 97, .int .u8 98, .int .u8 32, .int .u8 32, .int .u8 99, .int .u8 49] #[.string ⟨#[45, 99, 115]⟩, .string ⟨#[97, 45, 122]⟩, .string ⟨#[91, 92, 110, 42, 93]⟩] (6, 7) rfl rfl w11 hl11
       have b011 := b010.trans (c11.mono b010.size)
       have t11 := Lib.hid (HT.out.below b011)
       clear hl11 hB10)
    | (refine wpList_store_res (err := []) rfl (.tmp 8) (.tmp 39) rfl (Below.refl _ w8) ho9 he9 hb9 rfl rfl ?_; rintro w10 ⟨A3, c3, E3, d3, R3⟩ bq10
       have bb10 : Below w7.heap.size w7 w10 := c8.trans (bq10.mono c8.size)
       have b010 := b07.trans (bb10.mono b07.size)
       clear bq10 c8 ho9 he9 hb9 b08)
    | (go_at_call 11; have hq := (runC w8 t8.out).go _ 2 _ 5 r8 i8; with_reducible refine hq.mono ?_; rintro e w9 ⟨ov9, ev9, sp9, pk9, rfl, ho9, he9, hb9⟩; unfold resV; clear hq r8 i8 t8)
    | (go_at_call 13; have hB7 := b07; refine (lim_any ((w7.alloc (.cells #[.int .u8 97, .int .u8 97, .int .u8 98, .int .u8 97, .int .u8 97] 5 (5, 6))).alloc (.cells #[.string ⟨#[45, 115]⟩, .string ⟨#[97]⟩] 9))).mono ?_; rintro e w8 ⟨rfl, hl8⟩
       obtain ⟨r8, i8, c8⟩ := two_new w7 [97, 97, 98, 97, 97] 5 rfl (by decide) argC 2 rfl #[.int .u8 97, .int .u8 97, .int .u8 98, .int .u8 97, .int .u8 97] #[.string ⟨#[45, 115]⟩, .string ⟨#[97]⟩] (5, 6) rfl rfl w8 hl8
       have b08 := b07.trans (c8.mono b07.size)
       have t8 := Lib.hid (HT.out.below b08)
       clear hl8 hB7)
    | (refine wpList_store_res (err := []) rfl (.tmp 6) (.tmp 31) rfl (Below.refl _ w5) ho6 he6 hb6 rfl rfl ?_; rintro w7 ⟨A2, c2, E2, d2, R2⟩ bq7
       have bb7 : Below w4.heap.size w4 w7 := c5.trans (bq7.mono c5.size)
       have b07 := b04.trans (bb7.mono b04.size)
       clear bq7 c5 ho6 he6 hb6 b05)
    | (go_at_call 11; have hq := (runB w5 t5.out).go _ 2 _ 4 r5 i5; with_reducible refine hq.mono ?_; rintro e w6 ⟨ov6, ev6, sp6, pk6, rfl, ho6, he6, hb6⟩; unfold resV; clear hq r5 i5 t5)
    | (go_at_call 13; have hB4 := b04; refine (lim_any ((w4.alloc (.cells #[.int .u8 97, .int .u8 49, .int .u8 98, .int .u8 50] 5 (4, 5))).alloc (.cells #[.string ⟨#[45, 100]⟩, .string ⟨#[91, 58, 100, 105, 103, 105, 116, 58, 93]⟩] 9))).mono ?_; rintro e w5 ⟨rfl, hl5⟩
       obtain ⟨r5, i5, c5⟩ := two_new w4 [97, 49, 98, 50] 4 rfl (by decide) argB 2 rfl #[.int .u8 97, .int .u8 49, .int .u8 98, .int .u8 50] #[.string ⟨#[45, 100]⟩, .string ⟨#[91, 58, 100, 105, 103, 105, 116, 58, 93]⟩] (4, 5) rfl rfl w5 hl5
       have b05 := b04.trans (c5.mono b04.size)
       have t5 := Lib.hid (HT.out.below b05)
       clear hl5 hB4)
    | (refine wpList_store_res (err := []) rfl (.tmp 4) (.tmp 23) rfl (Below.refl _ w2) ho3 he3 hb3 rfl rfl ?_; rintro w4 ⟨A1, c1, E1, d1, R1⟩ bq4
       have bb4 : Below w1.heap.size w1 w4 := c2.trans (bq4.mono c2.size)
       have b04 := b01.trans (bb4.mono b01.size)
       clear bq4 c2 ho3 he3 hb3 b02)
    | (go_at_call 11; have hq := (runA w2 t2.out).go _ 2 _ 4 r2 i2; with_reducible refine hq.mono ?_; rintro e w3 ⟨ov3, ev3, sp3, pk3, rfl, ho3, he3, hb3⟩; unfold resV; clear hq r2 i2 t2)
    | (go_at_call 13; have hB1 := b01; refine (lim_any ((w1.alloc (.cells #[.int .u8 97, .int .u8 98, .int .u8 99, .int .u8 100] 5 (4, 5))).alloc (.cells #[.string ⟨#[97, 45, 99]⟩, .string ⟨#[65, 45, 67]⟩] 9))).mono ?_; rintro e w2 ⟨rfl, hl2⟩
       obtain ⟨r2, i2, c2⟩ := two_new w1 [97, 98, 99, 100] 4 rfl (by decide) argA 2 rfl #[.int .u8 97, .int .u8 98, .int .u8 99, .int .u8 100] #[.string ⟨#[97, 45, 99]⟩, .string ⟨#[65, 45, 67]⟩] (4, 5) rfl rfl w2 hl2
       have b02 := b01.trans (c2.mono b01.size)
       have t2 := Lib.hid (HT.out.below b02)
       clear hl2 hB1)
    | (go_at_call 7; refine hset.mono ?_; rintro e w1 ⟨v0, rfl, ho0, b01⟩; obtain ⟨A0, c0, rfl, _, _, rd0⟩ := own_slice ho0))
  go_returns
  exact ⟨rfl, b013⟩

end Go.Proofs.YtlhiadnolckoeaaGreatDoor
end
