/-
  Parts that the claims share: A walk over the law's own examples.
-/
import Derived.Test.YtobapajmplfeiaaGreatDoorQ11
import Derived.Test.YtobapajmplfeiaaGreatDoorQ05

section
namespace Go.Proofs.YtobapajmplfeiaaGreatDoor
open Go.RowKit Go.Maps

abbrev resT : TypeId := 30
def resC (ov ev : Value) (st sp pk : Int) : Array Value := #[ov, ev, .int .i64 st, .slice none 0 0, .int .i64 sp, .int .i64 pk, .int .i64 0]
def resZ0 : Array Value := #[.slice none 0 0, .slice none 0 0, .int .i64 0, .slice none 0 0, .int .i64 0, .int .i64 0, .int .i64 0]
/-- a result in a block of its own -/
structure ResAt (W : World) (g : Nat) (A : Option Addr) (c : Nat) (E : Option Addr) (d : Nat) (out err : List UInt8) (st : Int) : Prop where
  blk : ∃ sp pk, Blk W g resT (resC (.slice A out.length c) (.slice E err.length d) st sp pk)
  out : Reads W W.heap.size 1 A out.length (bytesC out)
  err : Reads W W.heap.size 1 E err.length (bytesC err)
section
variable {W W' : World} {g : Nat} {A : Option Addr} {c : Nat} {E : Option Addr} {d : Nat} {out err : List UInt8} {st : Int}
theorem ResAt.below (h : ResAt W g A c E d out err st) (hb : Below W.heap.size W W') : ResAt W' g A c E d out err st := by
  obtain ⟨⟨sp, pk, k⟩, h2, h3⟩ := h
  exact ⟨⟨sp, pk, k.on hb⟩, (h2.below hb).more hb.size, (h3.below hb).more hb.size⟩
theorem ResAt.c0 (h : ResAt W g A c E d out err st) : W.cell? ⟨g, 0, none⟩ = some (.slice A out.length c) := by
  obtain ⟨⟨sp, pk, k⟩, _, _⟩ := h
  exact k.cell 0
theorem ResAt.c1 (h : ResAt W g A c E d out err st) : W.cell? ⟨g, 1, none⟩ = some (.slice E err.length d) := by
  obtain ⟨⟨sp, pk, k⟩, _, _⟩ := h
  exact k.cell 1
theorem ResAt.c2 (h : ResAt W g A c E d out err st) : W.cell? ⟨g, 2, none⟩ = some (.int .i64 st) := by
  obtain ⟨⟨sp, pk, k⟩, _, _⟩ := h
  exact k.cell 2
end
/-- a result stored into a new box -/
theorem wpList_store_res {ops : Array Oper} {rest : List Oper} {o : Oper} {a : Act} {Q : Exit → Act → World → Prop} (hgd : o.guard = none) (x y : Operand) (ho : o.op = .store resT x y) {wp w w1 : World} (hwp : Below wp.heap.size wp w) {out err : List UInt8} {st sp pk : Int} {ov ev : Value}
    (ho' : w1.ownsRow w.heap.size 5 1 ov out.length (bytesC out)) (he' : w1.ownsRow w.heap.size 5 1 ev err.length (bytesC err)) (hb : Below w.heap.size w w1)
    (hx : a.eval x = .pointer (some ⟨w1.heap.size, 0, none⟩)) (hy : a.eval y = .agg (resC ov ev st sp pk))
    (hK : ∀ w', (∃ A c E d, ResAt w' w1.heap.size A c E d out err st) → Below wp.heap.size wp w' → wpList Tryz.prog ops Q rest (a.put o.dst undef) w') : wpList Tryz.prog ops Q (o :: rest) a (w1.alloc (.cells resZ0 resT)) := by
  obtain ⟨A, c, rfl, _, _, hrA⟩ := own_slice ho'
  obtain ⟨E, d, rfl, _, _, hrE⟩ := own_slice he'
  refine wpList_store_blk hgd resT x y ho w1.heap.size resT resZ0 (resC (.slice A out.length c) (.slice E err.length d) st sp pk) hx hy (Blk.new w1 _ _) rfl (by kernel_rfl) (by kernel_rfl) ?_
  intro w' hb' hg'
  have hbA : Below w1.heap.size w1 (w1.alloc (.cells resZ0 resT)) := below_one w1 _
  have hb2 : Below w1.heap.size w1 w' := hbA.grown hg' (by simp) (fun k hk => by cases hk; exact Nat.le_refl _)
  have b1 : Below wp.heap.size wp w1 := hwp.trans (hb.mono hwp.size)
  exact hK w' ⟨A, c, E, d, ⟨sp, pk, hb'⟩, (hrA.below hb2).more hb2.size, (hrE.below hb2).more hb2.size⟩ (b1.trans (hb2.mono b1.size))
theorem field_st (ov ev : Value) (st sp pk : Int) (w : World) : (Instr.field 30 (.agg #[ov, ev, .int .i64 st, .slice none 0 0, .int .i64 sp, .int .i64 pk, .int .i64 0]) 2).run Tryz.prog w = .ok (.int .i64 st) w := by kernel_rfl
theorem convOut {W : World} {B cap n : Nat} {A : Option Addr} {l : List UInt8} {S : ByteArray} (hS : strB l = S) (hn : l.length = n) (hr : Reads W B 1 A l.length (bytesC l)) : (convert 27 9 (.slice A n cap)).run Tryz.prog W = .ok (.string S) W := by
  subst hS hn
  exact convert_string Tryz.underlying27 Tryz.underlying5 Tryz.underlying9 hr

set_option maxRecDepth 100000 in
set_option maxHeartbeats 6000000 in
theorem awake_any (W : World) (hT : Tabs W) : Calls Tryz.prog 6 #[] W fun e w' => e = .returned (.bool true) ∧ Below W.heap.size W w' := by
  obtain ⟨S1, hS1⟩ : ∃ S, strB [45, 110, 32, 97, 10] = S := ⟨_, rfl⟩
  obtain ⟨S2, hS2⟩ : ∃ S, strB [98, 10] = S := ⟨_, rfl⟩
  obtain ⟨S3, hS3⟩ : ∃ S, strB [47, 97, 10] = S := ⟨_, rfl⟩
  obtain ⟨S4, hS4⟩ : ∃ S, strB Pl.outA = S := ⟨_, rfl⟩
  obtain ⟨S5, hS5⟩ : ∃ S, strB errA = S := ⟨_, rfl⟩
  have f1 : (S1.toList == [45, 110, 32, 97, 10]) = true := by rw [← hS1, strB_toList]; rfl
  have f2 : (S2.toList == [98, 10]) = true := by rw [← hS2, strB_toList]; rfl
  have f3 : (S3.toList == [47, 97, 10]) = true := by rw [← hS3, strB_toList]; rfl
  have f4 : (S4.toList == [48, 48, 55, 44, 97, 98, 32, 44, 102, 102, 10, 48, 48, 48, 44, 32, 32, 32, 44, 48, 10]) = true := by rw [← hS4, strB_toList]; rfl
  have f5 : (S5.toList == [112, 114, 105, 110, 116, 102, 58, 32, 120, 58, 32, 110, 111, 116, 32, 97, 32, 110, 117, 109, 98, 101, 114, 10]) = true := by rw [← hS5, strB_toList]; rfl
  have HT := Lib.hid hT
  have H1 := Lib.hid hS1
  have H2 := Lib.hid hS2
  have H3 := Lib.hid hS3
  have H4 := Lib.hid hS4
  have H5 := Lib.hid hS5
  clear hT hS1 hS2 hS3 hS4 hS5
  go_enter Tryz.func6, Tryz.ntmps6
  go_wp2_with (first
    | (go_at_call 11; have hq := (runTrue (w9.alloc (.cells #[.string ⟨#[116, 114, 117, 101]⟩, .string ⟨#[45, 120]⟩] 9))).go _ 2 (readsNew w9 _ 2 rfl #[.string ⟨#[116, 114, 117, 101]⟩, .string ⟨#[45, 120]⟩] rfl); with_reducible refine hq.mono ?_; rintro e w10 ⟨ov10, ev10, sp10, pk10, rfl, ho10, he10, hb10⟩; unfold resV; have z10 := fun W => field_st ov10 ev10 0 sp10 pk10 W)
    | (go_at_call 11; have hq := (runFalse (w8.alloc (.cells #[.string ⟨#[102, 97, 108, 115, 101]⟩] 9))).go _ 1 (readsNew w8 _ 1 rfl #[.string ⟨#[102, 97, 108, 115, 101]⟩] rfl); with_reducible refine hq.mono ?_; rintro e w9 ⟨ov9, ev9, sp9, pk9, rfl, ho9, he9, hb9⟩; unfold resV; have z9 := fun W => field_st ov9 ev9 1 sp9 pk9 W)
    | (refine wpList_store_res rfl (.tmp 4) (.tmp 12) rfl (below_one w6 _) ho7 he7 hb7 rfl rfl ?_; rintro w8 ⟨A4, c4, E4, d4, R4⟩ b8
       have hb08 := hb06.trans (b8.mono hb06.size)
       have R1' := ((R1.below b4).below b6).below b8
       have R2' := (R2.below b6).below b8
       have R3' := R3.below b8
       have x1 : w8.cell? ⟨w1.heap.size, 0, none⟩ = some (.slice A1 5 c1) := R1'.c0
       have x2 : w8.cell? ⟨w3.heap.size, 0, none⟩ = some (.slice A2 2 c2) := R2'.c0
       have x3 : w8.cell? ⟨w5.heap.size, 0, none⟩ = some (.slice A3 3 c3) := R3'.c0
       have x4 : w8.cell? ⟨w7.heap.size, 0, none⟩ = some (.slice A4 21 c4) := R4.c0
       have x5 : w8.cell? ⟨w7.heap.size, 1, none⟩ = some (.slice E4 24 d4) := R4.c1
       have x6 : w8.cell? ⟨w7.heap.size, 2, none⟩ = some (.int .i64 1) := R4.c2
       have y1 : (convert 27 9 (.slice A1 5 c1)).run Tryz.prog w8 = .ok (.string S1) w8 := convOut H1.out rfl R1'.out
       have y2 : (convert 27 9 (.slice A2 2 c2)).run Tryz.prog w8 = .ok (.string S2) w8 := convOut H2.out rfl R2'.out
       have y3 : (convert 27 9 (.slice A3 3 c3)).run Tryz.prog w8 = .ok (.string S3) w8 := convOut H3.out rfl R3'.out
       have y4 : (convert 27 9 (.slice A4 21 c4)).run Tryz.prog w8 = .ok (.string S4) w8 := convOut H4.out rfl R4.out
       have y5 : (convert 27 9 (.slice E4 24 d4)).run Tryz.prog w8 = .ok (.string S5) w8 := convOut H5.out rfl R4.err)
    | (go_at_call 11; have hq := (runPrintf (w6.alloc (.cells #[.string ⟨#[112, 114, 105, 110, 116, 102]⟩, .string ⟨#[37, 48, 51, 100, 44, 37, 45, 51, 115, 44, 37, 120, 92, 110]⟩, .string ⟨#[55]⟩, .string ⟨#[97, 98]⟩, .string ⟨#[50, 53, 53]⟩, .string ⟨#[120]⟩] 9)) HT6.out).go _ 6 (readsNew w6 _ 6 rfl #[.string ⟨#[112, 114, 105, 110, 116, 102]⟩, .string ⟨#[37, 48, 51, 100, 44, 37, 45, 51, 115, 44, 37, 120, 92, 110]⟩, .string ⟨#[55]⟩, .string ⟨#[97, 98]⟩, .string ⟨#[50, 53, 53]⟩, .string ⟨#[120]⟩] rfl); with_reducible refine hq.mono ?_; rintro e w7 ⟨ov7, ev7, sp7, pk7, rfl, ho7, he7, hb7⟩; unfold resV)
    | (refine wpList_store_res rfl (.tmp 3) (.tmp 10) rfl (below_one w4 _) ho5 he5 hb5 rfl rfl ?_; rintro w6 ⟨A3, c3, E3, d3, R3⟩ b6
       have hb06 : Below W.heap.size W w6 := (b2.trans (b4.mono b2.size)).trans (b6.mono (b2.trans (b4.mono b2.size)).size)
       have HT6 := Lib.hid (HT.out.below (hb06.trans ((below_one w6 (.cells #[.string ⟨#[112, 114, 105, 110, 116, 102]⟩, .string ⟨#[37, 48, 51, 100, 44, 37, 45, 51, 115, 44, 37, 120, 92, 110]⟩, .string ⟨#[55]⟩, .string ⟨#[97, 98]⟩, .string ⟨#[50, 53, 53]⟩, .string ⟨#[120]⟩] 9)).mono hb06.size))))
    | (go_at_call 11; have hq := (runDir (w4.alloc (.cells #[.string ⟨#[100, 105, 114, 110, 97, 109, 101]⟩, .string ⟨#[47, 97, 47, 47, 98, 47]⟩] 9))).go _ 2 (readsNew w4 _ 2 rfl #[.string ⟨#[100, 105, 114, 110, 97, 109, 101]⟩, .string ⟨#[47, 97, 47, 47, 98, 47]⟩] rfl); with_reducible refine hq.mono ?_; rintro e w5 ⟨ov5, ev5, sp5, pk5, rfl, ho5, he5, hb5⟩; unfold resV)
    | (refine wpList_store_res rfl (.tmp 2) (.tmp 8) rfl (below_one w2 _) ho3 he3 hb3 rfl rfl ?_; rintro w4 ⟨A2, c2, E2, d2, R2⟩ b4)
    | (go_at_call 11; have hq := (runBase (w2.alloc (.cells #[.string ⟨#[98, 97, 115, 101, 110, 97, 109, 101]⟩, .string ⟨#[47, 97, 47, 98, 46, 99]⟩, .string ⟨#[46, 99]⟩] 9))).go _ 3 (readsNew w2 _ 3 rfl #[.string ⟨#[98, 97, 115, 101, 110, 97, 109, 101]⟩, .string ⟨#[47, 97, 47, 98, 46, 99]⟩, .string ⟨#[46, 99]⟩] rfl); with_reducible refine hq.mono ?_; rintro e w3 ⟨ov3, ev3, sp3, pk3, rfl, ho3, he3, hb3⟩; unfold resV)
    | (refine wpList_store_res rfl (.tmp 1) (.tmp 6) rfl (below_one W _) ho1 he1 hb1 rfl rfl ?_; rintro w2 ⟨A1, c1, E1, d1, R1⟩ b2)
    | (go_at_call 11; have hq := (runEcho (W.alloc (.cells #[.string ⟨#[101, 99, 104, 111]⟩, .string ⟨#[45, 110]⟩, .string ⟨#[97]⟩] 9))).go _ 3 (readsNew W _ 3 rfl #[.string ⟨#[101, 99, 104, 111]⟩, .string ⟨#[45, 110]⟩, .string ⟨#[97]⟩] rfl); with_reducible refine hq.mono ?_; rintro e w1 ⟨ov1, ev1, sp1, pk1, rfl, ho1, he1, hb1⟩; unfold resV))
  go_returns
  have c9 := below_one w8 (.cells #[.string ⟨#[102, 97, 108, 115, 101]⟩] 9)
  have b9 : Below w8.heap.size w8 w9 := c9.trans (hb9.mono c9.size)
  have c10 := below_one w9 (.cells #[.string ⟨#[116, 114, 117, 101]⟩, .string ⟨#[45, 120]⟩] 9)
  have b10 : Below w9.heap.size w9 w10 := c10.trans (hb10.mono c10.size)
  have b010 := (hb08.trans (b9.mono hb08.size))
  exact ⟨rfl, b010.trans (b10.mono b010.size)⟩

end Go.Proofs.YtobapajmplfeiaaGreatDoor
end
