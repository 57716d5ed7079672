/-
  Parts that the claims share: Walks over trans.Start and trans.Run; A walk over the law's tr; DERIVED: THE SHELF's CONTRACTS AT THIS DUMP, IN PLAIN WORDS (tools/lay-plain.mjs out of 'TryzTrim.lean', which tools/lay-shelf.mjs wrote): THE SAME DECLARATIONS UNDER THE SAME NAMES: 'import', 'namespace', 'open', 'def', 'theorem' AND NOTHING ELSE: no command of the shelf's: FOR A HAND-IN. Each laying: the table of numbers ('.._ren') and one theorem, a field a fact of the dump's own or the kernel's comparison; each contract: ONE APPLICATION; A walk over times, where it does not stand there; what its walks lean on; Walks over times.
-/
import Derived.Test.YtlhiadnolckoeaaGreatDoorR11
import Derived.Deep.AppendLies
import Derived.Shelf.Strings.SlTrimAscii
import Derived.Test.YtlhiadnolckoeaaGreatDoorProg
import Derived.Test.YtlhiadnolckoeaaGreatDoorR10

section
namespace Go.Proofs.YtlhiadnolckoeaaGreatDoor
open Go.RowKit Go.Maps

def tagTr : ByteArray := ⟨#[116, 114]⟩
set_option maxRecDepth 100000 in
set_option maxHeartbeats 1000000 in
theorem startTr (w : World) (rest : List ByteArray) (inb : List UInt8) (buf line run : Int) (hl : rest.length < 2097152) (out err : List UInt8) (st : Int) (hm : TellsFrom w 91 (tagTr :: rest) inb buf out err st) :
    StartDoes w (tagTr :: rest) inb buf line run 48 (Came out err st) := by
  intro W X sv hb hJ ha hbu _ _ hfoot
  have hargs := procArgs1 W X _ hJ tagTr rest ha rest.length rfl hl
  unfold tagTr at hargs
  have HM := Lib.hid hm
  have HA := Lib.hid ha
  have HBU := Lib.hid hbu
  have HFT := Lib.hid hfoot
  have HBW := Lib.hid hb
  clear hm ha hfoot hb hbu
  go_enter Tryz.func48, Tryz.ntmps48
  go_wp2_with (first
    | (go_at_call 89; refine hargs.mono ?_; rintro e w1 ⟨g, cap, o, rfl, hcap, hg, hg1, hb1, hJ1, hc0, hcs, hcut⟩)
    | (go_at_call 90; refine (goTop _ X _ hJ1 _ _).mono ?_; rintro e w2 ⟨m, rfl, hM, hm, hb2⟩))
  go_returns
  refine ⟨m, _, _, rfl, hM, Nat.le_trans hb1.size hm, hb1.trans (hb2.mono hb1.size), enters_of Tryz.func91 (by kernel_rfl) rfl, ?_⟩
  intro W' hT' hJ'
  have hb3 := HBW.out
  have b12 : Below w.heap.size w w2 := (hb3.trans (hb1.mono hb3.size)).trans (hb2.mono (Nat.le_trans hb3.size hb1.size))
  refine (HM.out W' X _ (b12.trans (hT'.below b12.size (fun k hk => ?_))) HFT.out hJ' HA.out HBU.out rfl rfl rfl rfl).mono ?_
  · rw [List.mem_singleton.1 hk]
    exact HFT.out _ (by simp [Job.foot, PS.foot])
  · rintro e w' ⟨rfl, F', hJF, hG, h1, h2⟩
    exact ⟨st, F', rfl, hJF, hG, rfl, h1, h2⟩

def resV (ov ev : Value) (st sp pk : Int) : Value := .agg #[ov, ev, .int .i64 st, .slice none 0 0, .int .i64 sp, .int .i64 pk, .int .i64 0]

set_option maxRecDepth 100000 in
set_option maxHeartbeats 1000000 in
theorem transRun (w : World) (A : Option Addr) (c n : Nat) (args : List ByteArray) (hr : Reads w w.heap.size 1 A n (strsC args)) (hn : args.length = n) (h1 : 1 ≤ n) (hn2 : n ≤ 2097152) (IA : Option Addr) (ic : Nat) (inb : List UInt8) (m : Nat) (him : inb.length = m) (hiv : Bytes w w.heap.size (.slice IA m ic) inb) (hib : m ≤ 140737488355328)
    (buf line run : Int) (hlm : LimOk buf line run) (out err : List UInt8) (st : Int)
    (ho : out.length ≤ 140737488355328) (he : err.length ≤ 140737488355328) (hst : ∀ W, Below w.heap.size w W → StartDoes W args inb buf line run 48 (Came out err st)) :
    Calls Tryz.prog 25 #[.agg (jobCells (.slice A n c) (.slice none 0 0) (.slice IA m ic) buf line run)] w fun e w' => ∃ ov ev sp pk, e = .returned (.tuple #[resV ov ev st sp pk, .bool true]) ∧
      w'.ownsRow w.heap.size 5 1 ov out.length (bytesC out) ∧ w'.ownsRow w.heap.size 5 1 ev err.length (bytesC err) ∧ Below w.heap.size w w' := by
  have hrun : ∀ W, Below w.heap.size w W → Calls Tryz.prog 47 #[.agg (jobCells (.slice A n c) (.slice none 0 0) (.slice IA m ic) buf line run), .func (.func 48) #[] #[]] W fun e w' => ∃ ov ev sp pk, e = .returned (.tuple #[resV ov ev st sp pk, .bool true]) ∧
      w'.ownsRow W.heap.size 5 1 ov out.length (bytesC out) ∧ w'.ownsRow W.heap.size 5 1 ev err.length (bytesC err) ∧ Below W.heap.size W w' := by
    intro W hb
    subst hn
    subst him
    obtain ⟨IA', ic', e1, b1, b2, b3, b4⟩ := hiv
    cases e1
    refine (run_top W A c args (.slice IA inb.length ic) inb buf line run 48 (Came out err st) ((hr.below hb).more hb.size) h1 hn2 ⟨IA, ic, rfl, b1, b2, b3, (b4.below hb).more hb.size⟩ hib hlm (enters_of Tryz.func48 (by kernel_rfl) rfl) (hst W hb) ?_).mono ?_
    · rintro n F' ⟨_, h2, h3⟩ b
      cases b
      · rw [h3]; exact he
      · rw [h2]; exact ho
    · rintro e w' ⟨n, F', ov, ev, ⟨rfl, h2, h3⟩, rfl, h4, h5, h6⟩
      rw [h2] at h4
      rw [h3] at h5
      exact ⟨ov, ev, _, _, rfl, h4, h5, h6⟩
  unfold jobCells resV at hrun
  unfold jobCells
  have HR := Lib.hid hrun
  clear hrun hr hst hiv hlm
  obtain ⟨g, hg⟩ : ∃ g, w.heap.size = g := ⟨_, rfl⟩
  obtain ⟨Z, hZ⟩ : ∃ Z, (w.alloc (.cells #[.slice A n c, .slice none 0 0, .string ⟨#[]⟩, .slice IA m ic, .slice none 0 0, .int .i64 buf, .int .i64 line, .int .i64 run, .slice none 0 0, .int .i64 0, .slice none 0 0] 36)).alloc (.cells #[.slice none 0 0, .slice none 0 0, .int .i64 0, .slice none 0 0, .int .i64 0, .int .i64 0, .int .i64 0] 38) = Z := ⟨_, rfl⟩
  have bZ : Below w.heap.size w Z := by rw [← hZ]; exact below_box (below_one w _) (Nat.le_refl _) _
  have kJ : Blk Z g 36 #[.slice A n c, .slice none 0 0, .string ⟨#[]⟩, .slice IA m ic, .slice none 0 0, .int .i64 buf, .int .i64 line, .int .i64 run, .slice none 0 0, .int .i64 0, .slice none 0 0] := by rw [← hZ, ← hg]; exact (Blk.new w _ _).alloc _
  have kR : Blk Z (g + 1) 38 #[.slice none 0 0, .slice none 0 0, .int .i64 0, .slice none 0 0, .int .i64 0, .int .i64 0, .int .i64 0] := by rw [← hZ, ← hg]; exact Blk.newNext w _ _ _
  have z0 : Z.cell? ⟨g, 0, none⟩ = some (.slice A n c) := kJ.cell 0
  have z1 : Z.cell? ⟨g, 1, none⟩ = some (.slice none 0 0) := kJ.cell 1
  have z2 : Z.cell? ⟨g, 2, none⟩ = some (.string ⟨#[]⟩) := kJ.cell 2
  have z3 : Z.cell? ⟨g, 3, none⟩ = some (.slice IA m ic) := kJ.cell 3
  have z4 : Z.cell? ⟨g, 4, none⟩ = some (.slice none 0 0) := kJ.cell 4
  have z5 : Z.cell? ⟨g, 5, none⟩ = some (.int .i64 buf) := kJ.cell 5
  have z6 : Z.cell? ⟨g, 6, none⟩ = some (.int .i64 line) := kJ.cell 6
  have z7 : Z.cell? ⟨g, 7, none⟩ = some (.int .i64 run) := kJ.cell 7
  have z8 : Z.cell? ⟨g, 8, none⟩ = some (.slice none 0 0) := kJ.cell 8
  have z9 : Z.cell? ⟨g, 9, none⟩ = some (.int .i64 0) := kJ.cell 9
  have z10 : Z.cell? ⟨g, 10, none⟩ = some (.slice none 0 0) := kJ.cell 10
  have hZs : g + 1 < Z.heap.size := kR.lt
  rw [hg] at bZ
  have HB := Lib.hid bZ
  have HKR := Lib.hid kR
  clear bZ kR kJ
  go_enter Tryz.func25, Tryz.ntmps25
  go_wp2_with (first
    | (go_at_call 47; refine (HR.out Z (by rw [hg]; exact HB.out)).mono ?_; rintro e w1 ⟨ov, ev, sp, pk, rfl, hov, hev, hb1⟩
       obtain ⟨Ao, co, rfl, _, _, _⟩ := own_slice hov
       obtain ⟨Ae, ce, rfl, _, _, _⟩ := own_slice hev
       have HR1 := Lib.hid (Blk.on HKR.out hb1))
    | (refine wpList_store_blk rfl 38 (.tmp 2) (.tmp 6) rfl (g + 1) 38 #[.slice none 0 0, .slice none 0 0, .int .i64 0, .slice none 0 0, .int .i64 0, .int .i64 0, .int .i64 0] #[.slice Ao out.length co, .slice Ae err.length ce, .int .i64 st, .slice none 0 0, .int .i64 sp, .int .i64 pk, .int .i64 0] rfl rfl HR1.out rfl (by kernel_rfl) (by kernel_rfl) ?_
       intro w2 b2 g2
       obtain ⟨q0, q1, q2, q3, q4, q5, q6⟩ := cells7 b2))
  refine bodyPost_ret (v := .tuple #[.agg #[.slice Ao out.length co, .slice Ae err.length ce, .int .i64 st, .slice none 0 0, .int .i64 sp, .int .i64 pk, .int .i64 0], .bool true]) (by simp [results, Tryz.results25, go_sem, q0, q1, q2, q3, q4, q5, q6]) rfl ?_
  have hzs := HB.out.size
  have b01 : Below g w w1 := HB.out.trans (hb1.mono (by omega))
  have hkeep : ∀ k, k < w1.heap.size → k ≠ g + 1 → w2.heap[k]? = w1.heap[k]? := fun k h1 h2 => g2.block k h1 (by simpa using h2)
  have ho2 : ∀ {v : Value} {n : Nat} {xs : List Value}, w1.ownsRow Z.heap.size 5 1 v n xs → w2.ownsRow g 5 1 v n xs := fun h =>
    own_down (ownsRow_same h fun k hk => hkeep k (h.lt k hk).2 (by have := (h.lt k hk).1; omega)) (by omega)
  subst hg
  exact ⟨_, _, sp, pk, rfl, ho2 hov, ho2 hev, (b01.grown g2 b01.size (fun k hk => by cases hk; omega)).mono (by omega)⟩

end Go.Proofs.YtlhiadnolckoeaaGreatDoor
end

section
namespace Go.Proofs.YtlhiadnolckoeaaGreatDoor
open Go.RowKit Go.Maps

def limZ : Array Value := #[.slice none 0 0, .slice none 0 0, .int .i64 0, .slice none 0 0, .int .i64 0, .int .i64 0, .int .i64 0]
/-- the boxes of the law's tr: its limits, its result -/
structure TrBox (g : Nat) (buf line run : Int) (w W : World) : Prop where
  lim : Blk W g 28 #[.int .i64 buf, .int .i64 line, .int .i64 run]
  res : Blk W (g + 1) 38 #[.slice none 0 0, .slice none 0 0, .int .i64 0, .slice none 0 0, .int .i64 0, .int .i64 0, .int .i64 0]
  below : Below g w W
theorem TrBox.cells {g : Nat} {buf line run : Int} {w W : World} (h : TrBox g buf line run w W) : W.cell? ⟨g, 0, none⟩ = some (.int .i64 buf) ∧ W.cell? ⟨g, 1, none⟩ = some (.int .i64 line) ∧ W.cell? ⟨g, 2, none⟩ = some (.int .i64 run) := ⟨h.lim.cell 0, h.lim.cell 1, h.lim.cell 2⟩
theorem TrBox.alloc {g : Nat} {buf line run : Int} {w W : World} (h : TrBox g buf line run w W) (o : Obj) : TrBox g buf line run w (W.alloc o) := ⟨h.lim.alloc o, h.res.alloc o, h.below.alloc (by have := h.lim.lt; omega) o⟩
theorem TrBox.drew {g : Nat} {buf line run : Int} {w W : World} (h : TrBox g buf line run w W) : TrBox g buf line run w W.drew := ⟨h.lim, h.res, ⟨h.below.os, h.below.tape, h.below.output, h.below.size, h.below.block⟩⟩
theorem TrBox.grown {g k : Nat} {buf line run : Int} {w W W' : World} (h : TrBox g buf line run w W) (hg : W.grownBy W' (some k)) (hk : g + 2 ≤ k) : TrBox g buf line run w W' := by
  have l1 := h.lim.lt
  have l2 := h.res.lt
  exact ⟨Blk.grown h.lim hg (by simp; omega), Blk.grown h.res hg (by simp; omega), h.below.grown hg (by omega) (fun j hj => by cases hj; omega)⟩
theorem TrBox.on {g : Nat} {buf line run : Int} {w W W' : World} (h : TrBox g buf line run w W) (hb : Below W.heap.size W W') : TrBox g buf line run w W' := ⟨Blk.on h.lim hb, Blk.on h.res hb, h.below.trans (hb.mono (by have := h.lim.lt; omega))⟩

/-- a store, behind a name that the walk does not open: its equation is laid as a hypothesis -/
def storeHere (ty : TypeId) (x y : Value) : Sem Unit := Instr.storeAt ty x y
theorem storeHere_eq (ty : TypeId) (x y : Value) : Instr.storeAt ty x y = storeHere ty x y := rfl
theorem run_storeHere {P : Program} {w : World} {g : Nat} {t : TypeId} {old : Array Value} (ty : TypeId) (cells : Array Value) (h : Blk w g t old) (hs : old.size = cells.size) (hi : (P.info? ty).map (·.size) = some cells.size) (h1 : cells.all (·.oneCell') = true) :
    ∃ w', (storeHere ty (.pointer (some ⟨g, 0, none⟩)) (.agg cells)).run P w = .ok () w' ∧ Blk w' g t cells ∧ w.grownBy w' (some g) :=
  ⟨_, run_store_blk ty cells h hs hi h1, setRow_heap w g old cells t (0, 0) h, ⟨rfl, rfl, rfl, by simp [World.setRow], fun k _ hk => setRow_other w g k _ (fun e => hk (by rw [e]))⟩⟩
attribute [local go_sem ↓ high] storeHere_eq

set_option maxRecDepth 100000 in
set_option maxHeartbeats 2000000 in
theorem lawTr (w : World) (ad : Addr) (c n : Nat) (args : List ByteArray) (hr : Reads w w.heap.size 1 (some ad) n (strsC args)) (hn : args.length = n) (h1 : 1 ≤ n) (hn2 : n ≤ 1000000) (IA : Option Addr) (ic : Nat) (inb : List UInt8) (m : Nat) (him : inb.length = m) (hiv : Bytes w w.heap.size (.slice IA m ic) inb) (hib : m ≤ 140737488355328)
    (buf line run : Int) (hlm : LimOk buf line run) (out err : List UInt8) (st : Int)
    (ho : out.length ≤ 140737488355328) (he : err.length ≤ 140737488355328) (hst : ∀ W, Below w.heap.size w W → StartDoes W (tagTr :: args) inb buf line run 48 (Came out err st)) :
    Calls Tryz.prog 11 #[.slice IA m ic, .slice (some ad) n c, .agg #[.int .i64 buf, .int .i64 line, .int .i64 run]] w fun e w' => ∃ ov ev sp pk, e = .returned (.tuple #[resV ov ev st sp pk, .bool true]) ∧
      w'.ownsRow w.heap.size 5 1 ov out.length (bytesC out) ∧ w'.ownsRow w.heap.size 5 1 ev err.length (bytesC err) ∧ Below w.heap.size w w' := by
  obtain ⟨g, hg⟩ : ∃ g, w.heap.size = g := ⟨_, rfl⟩
  obtain ⟨Z, hZ⟩ : ∃ Z, (w.alloc (.cells #[.int .i64 buf, .int .i64 line, .int .i64 run] 28)).alloc (.cells #[.slice none 0 0, .slice none 0 0, .int .i64 0, .slice none 0 0, .int .i64 0, .int .i64 0, .int .i64 0] 38) = Z := ⟨_, rfl⟩
  have bx : TrBox g buf line run w Z := by
    refine ⟨?_, ?_, ?_⟩
    · rw [← hZ, ← hg]; exact (Blk.new w _ _).alloc _
    · rw [← hZ, ← hg]; exact Blk.newNext w _ _ _
    · rw [← hZ, ← hg]; exact below_box (below_one w _) (Nat.le_refl _) _
  have hZs : Z.heap.size = g + 2 := by rw [← hZ, ← hg]; simp
  have bx0 : TrBox g buf line run w ((Z.alloc (.cells #[.string ⟨#[116, 114]⟩] 9)).drew) := (bx.alloc _).drew
  have hown0 : ((Z.alloc (.cells #[.string ⟨#[116, 114]⟩] 9)).drew).ownsRow (g + 2) 9 1 (.slice (some ⟨g + 2, 0, none⟩) 1 1) 1 [.string ⟨#[116, 114]⟩] := by
    refine ⟨rfl, .inr ⟨g + 2, 1, #[.string ⟨#[116, 114]⟩], rfl, Nat.le_refl _, ?_, Nat.le_refl _, by decide, rfl, rfl⟩⟩
    have := Blk.new Z 9 #[.string ⟨#[116, 114]⟩]
    rw [hZs] at this
    exact this
  obtain ⟨ad', e1, hal, hac⟩ := hr.2 (by omega)
  cases e1
  rw [hg] at hal
  have hnews : ∀ W, TrBox g buf line run w W → ∀ j u, (strsC args)[j]? = some u → W.cell? (ad.add j) = some u := fun W hW j u hu => (hW.below.cell (by rw [block_of_add]; exact hal)).trans (hac j u hu)
  obtain ⟨iS, hiS, hS0, hS1, hS2⟩ := info_parts Tryz.infoStrC
  have hone : ∀ u ∈ strsC args, u.oneCell' = true := by
    intro u hu
    simp only [strsC, List.mem_map] at hu
    obtain ⟨x, _, rfl⟩ := hu
    rfl
  have hsl : (strsC args).length = n * 1 := by simp [strsC, hn]
  have hrun : ∀ W A c', TrBox g buf line run w W → Reads W W.heap.size 1 A (1 + n) (strsC (tagTr :: args)) → _ := fun W A c' hW hR => transRun W A c' (1 + n) (tagTr :: args) hR (by simp [hn]; omega) (by omega) (by omega) IA ic inb m him (by rw [hg] at hiv; exact (hiv.below hW.below).more (by have := hW.lim.lt; omega)) hib buf line run hlm out err st ho he (fun V hV => hst V (by rw [hg]; exact hW.below.trans (hV.mono (by have := hW.lim.lt; omega))))
  unfold jobCells resV at hrun
  have HR := Lib.hid hrun
  have A1 := Lib.hid (show 1 + n ≤ maxLen by simp only [maxLen]; omega)
  have A2 := Lib.hid (show (1 + n) * 16 ≤ 140737488355328 by omega)
  have A3 : 0 < n := h1
  have A4 := Lib.hid hZs
  have A5 := Lib.hid hnews
  clear hrun hst hr hac hiv hlm hn2 ho he hib h1 him hn hal hnews
  have hsz3 : (Z.alloc (.cells #[.string ⟨#[116, 114]⟩] 9)).drew.heap.size = g + 3 := by
    show (Z.alloc (.cells #[.string ⟨#[116, 114]⟩] 9)).heap.size = g + 3
    simp [A4.out]
  have hbase : g + 2 ≤ (Z.alloc (.cells #[.string ⟨#[116, 114]⟩] 9)).drew.heap.size := by rw [hsz3]; omega
  rw [hg]
  go_enter Tryz.func11, Tryz.ntmps11
  go_wp2_with fail
  go_region_held3 (fun W => W.cell? ⟨g, 0, none⟩ = some (.int .i64 buf) ∧ W.cell? ⟨g, 1, none⟩ = some (.int .i64 line) ∧ W.cell? ⟨g, 2, none⟩ = some (.int .i64 run))
    (first | exact bx.cells | exact bx.drew.cells | exact bx0.cells | exact bx1.cells | exact bx2.cells | exact ⟨bl3.cell 0, bl3.cell 1, bl3.cell 2⟩)
    (first
    | (refine step_append_lies _ (by rfl) _ _ 31 (by rfl) (g + 2) 9 iS (.string ⟨#[]⟩) 1 16 Tryz.underlying31 hiS hS0 hS1 hS2 (by rfl) (by decide) (.slice (some ⟨g + 2, 0, none⟩) 1 1) 1 [.string ⟨#[116, 114]⟩] (by rfl) hown0 ad n c (strsC args) (by rfl) hsl (A5.out _ bx0) hone A3 A1.out A2.out hbase (g + 3) hsz3 ?_
       intro g' cap w1 hown1 hgrow hat hlt
       have bx1 : TrBox g buf line run w w1 := bx0.grown (k := g + 2) hgrow (Nat.le_refl _)
       have hrd1 : Reads w1 w1.heap.size 1 (some ⟨g', 0, none⟩) (1 + n) (strsC (tagTr :: args)) := (by obtain ⟨A1, c1, e1, _, _, h⟩ := own_slice hown1; cases e1; exact h))
    | (go_at_call 25; have hq := HR.out w1 _ cap bx1 hrd1; (with_reducible refine hq.mono ?_); clear hq HR; rintro e w2 ⟨ov, ev, sp, pk, rfl, hov, hev, hb2⟩
       obtain ⟨Ao, co, rfl, _, _, _⟩ := own_slice hov
       obtain ⟨Ae, ce, rfl, _, _, _⟩ := own_slice hev
       have bx2 : TrBox g buf line run w w2 := bx1.on hb2
       obtain ⟨w3, hst3, b3, g3⟩ := run_storeHere (P := Tryz.prog) 38 #[.slice Ao out.length co, .slice Ae err.length ce, .int .i64 st, .slice none 0 0, .int .i64 sp, .int .i64 pk, .int .i64 0] bx2.res (by rfl) (by kernel_rfl) (by kernel_rfl)
       have bl3 : Blk w3 g 28 #[.int .i64 buf, .int .i64 line, .int .i64 run] := Blk.grown bx2.lim g3 (by simp)))
  go_wp2_with fail
  obtain ⟨q0, q1, q2, q3, q4, q5, q6⟩ := cells7 b3
  refine bodyPost_ret (v := .tuple #[.agg #[.slice Ao out.length co, .slice Ae err.length ce, .int .i64 st, .slice none 0 0, .int .i64 sp, .int .i64 pk, .int .i64 0], .bool true]) (by simp [results, Tryz.results11, go_sem, q0, q1, q2, q3, q4, q5, q6]) rfl ?_
  have l1 := bx1.lim.lt
  have l2 := bx1.res.lt
  have hkeep : ∀ k, k < w2.heap.size → k ≠ g + 1 → w3.heap[k]? = w2.heap[k]? := fun k h1 h2 => g3.block k h1 (by simpa using h2)
  have ho2 : ∀ {v : Value} {n : Nat} {xs : List Value}, w2.ownsRow w1.heap.size 5 1 v n xs → w3.ownsRow g 5 1 v n xs := fun h =>
    own_down (ownsRow_same h fun k hk => hkeep k (h.lt k hk).2 (by have := (h.lt k hk).1; omega)) (by omega)
  exact ⟨_, _, sp, pk, rfl, ho2 hov, ho2 hev, bx2.below.grown g3 (by have := bx2.lim.lt; omega) (fun k hk => by cases hk; omega)⟩

end Go.Proofs.YtlhiadnolckoeaaGreatDoor
end

section
namespace Go.Proofs
open Go.Shelf
def Tryz.ltrim161_ren : Go.Shelf.Ren := ⟨fun | 161 => 30 | 231 => 65 | 227 => 66 | 233 => 67 | 235 => 68 | 228 => 94 | 197 => 95 | 151 => 96 | 260 => 124 | 152 => 125 | 137 => 64 | 119 => 153 | 224 => 121 | 225 => 120 | 217 => 93 | 266 => 123 | n => n, fun | 9 => 9 | 4 => 4 | 3 => 3 | 5 => 5 | 117 => 106 | 116 => 105 | 0 => 0 | 124 => 109 | 105 => 149 | 21 => 21 | 119 => 220 | 46 => 101 | 139 => 255 | 138 => 254 | n => n, fun | 3 => 1 | 4 => 2 | n => n⟩
theorem Tryz.ltrim161 : Go.Proofs.Lays.n161 Tryz.prog Tryz.ltrim161_ren := {
  mixed := by kernel_rfl
  f119 := Tryz.func153.trans (congrArg some (by kernel_rfl))
  f137 := Tryz.func64.trans (congrArg some (by kernel_rfl))
  f151 := Tryz.func96.trans (congrArg some (by kernel_rfl))
  f152 := Tryz.func125.trans (congrArg some (by kernel_rfl))
  f161 := Tryz.func30.trans (congrArg some (by kernel_rfl))
  f197 := Tryz.func95.trans (congrArg some (by kernel_rfl))
  f217 := Tryz.func93.trans (congrArg some (by kernel_rfl))
  f224 := Tryz.func121.trans (congrArg some (by kernel_rfl))
  f225 := Tryz.func120.trans (congrArg some (by kernel_rfl))
  f227 := Tryz.func66.trans (congrArg some (by kernel_rfl))
  f228 := Tryz.func94.trans (congrArg some (by kernel_rfl))
  f231 := Tryz.func65.trans (congrArg some (by kernel_rfl))
  f233 := Tryz.func67.trans (congrArg some (by kernel_rfl))
  f235 := Tryz.func68.trans (congrArg some (by kernel_rfl))
  f260 := Tryz.func124.trans (congrArg some (by kernel_rfl))
  f266 := Tryz.func123.trans (congrArg some (by kernel_rfl))
  t0 := Tryz.underlying0
  a0 := Tryz.isAgg0
  z0 := Tryz.sizeOf0
  v0 := Tryz.zeroValue0
  t3 := Tryz.underlying3
  a3 := Tryz.isAgg3
  z3 := Tryz.sizeOf3
  v3 := Tryz.zeroValue3
  t4 := Tryz.underlying4
  a4 := Tryz.isAgg4
  z4 := Tryz.sizeOf4
  v4 := Tryz.zeroValue4
  t5 := Tryz.underlying5
  a5 := Tryz.isAgg5
  z5 := Tryz.sizeOf5
  v5 := Tryz.zeroValue5
  t9 := Tryz.underlying9
  a9 := Tryz.isAgg9
  z9 := Tryz.sizeOf9
  v9 := Tryz.zeroValue9
  t21 := Tryz.underlying21
  a21 := Tryz.isAgg21
  z21 := Tryz.sizeOf21
  v21 := Tryz.zeroValue21
  t46 := Tryz.underlying101
  a46 := Tryz.isAgg101
  z46 := Tryz.sizeOf101
  v46 := Tryz.zeroValue101
  t105 := Tryz.underlying149
  a105 := Tryz.isAgg149
  z105 := Tryz.sizeOf149
  v105 := Tryz.zeroValue149
  t116 := Tryz.underlying105
  a116 := Tryz.isAgg105
  z116 := Tryz.sizeOf105
  t117 := Tryz.underlying106
  a117 := Tryz.isAgg106
  z117 := Tryz.sizeOf106
  v117 := Tryz.zeroValue106
  t119 := Tryz.underlying220
  a119 := Tryz.isAgg220
  z119 := Tryz.sizeOf220
  t124 := Tryz.underlying109
  a124 := Tryz.isAgg109
  z124 := Tryz.sizeOf109
  v124 := Tryz.zeroValue109
  t138 := Tryz.underlying254
  a138 := Tryz.isAgg254
  z138 := Tryz.sizeOf254
  v138 := Tryz.zeroValue254
  t139 := Tryz.underlying255
  a139 := Tryz.isAgg255
  z139 := Tryz.sizeOf255
  v139 := Tryz.zeroValue255
  g3 := by kernel_rfl
  g4 := by kernel_rfl }
open Go.RowKit Go.Lib in
theorem Tryz.strings_TrimLeft_set (s cutset : ByteArray) (w : World) (hcs : cutset.size < 4294967281) (hascii : ∀ (j : Nat) b, cutset.data.toList[j]? = some b → b.toNat < 128) :
    Calls Tryz.prog 30 #[.string s, .string cutset] w fun e w' => e = .returned (.string ⟨(Lib.trimLeftS s.data.toList cutset.data.toList).toArray⟩) ∧ Below w.heap.size w w' := Any.strings_TrimLeft_laid Tryz.ltrim161 (by kernel_rfl) s cutset w hcs hascii
end Go.Proofs
end

section
namespace Go.Proofs.YtlhiadnolckoeaaGreatDoor
open Go.RowKit Go.Maps

namespace Pl
theorem contains_dig (c : UInt8) : ([48, 49, 50, 51, 52, 53, 54, 55, 56, 57] : List UInt8).contains c = isDig 10 c := by
  have h : ∀ n : UInt8, (c == n) = decide (c.toNat = n.toNat) := fun n => by
    rw [Bool.eq_iff_iff]
    simp [UInt8.toNat_inj]
  simp only [List.contains_cons, List.contains_nil, h]
  unfold isDig
  rw [Bool.eq_iff_iff]
  simp
  omega
theorem trim_digs (D R : List UInt8) (hD : ∀ c ∈ D, isDig 10 c = true) (hR : ∀ c, R.head? = some c → isDig 10 c = false) : Lib.trimLeftS (D ++ R) [48, 49, 50, 51, 52, 53, 54, 55, 56, 57] = R := by
  unfold Lib.trimLeftS
  have h1 : (fun c => ([48, 49, 50, 51, 52, 53, 54, 55, 56, 57] : List UInt8).contains c) = fun c => isDig 10 c := funext contains_dig
  rw [h1, List.dropWhile_append_of_pos hD]
  cases R with
  | nil => rfl
  | cons c R => rw [List.dropWhile_cons_of_neg (by rw [hR c rfl]; simp)]
/-- the digits of a number of times, and what stands behind them -/
theorem times_parts (s : List UInt8) : timesD s ++ s.drop (2 + signN (s.drop 1) + (timesD s).length) = s.drop (2 + signN (s.drop 1)) ∧ (∀ c ∈ timesD s, isDig 10 c = true) ∧ ∀ c, (s.drop (2 + signN (s.drop 1) + (timesD s).length)).head? = some c → isDig 10 c = false := by
  obtain ⟨l, hl⟩ : ∃ l, s.drop (2 + signN (s.drop 1)) = l := ⟨_, rfl⟩
  have hd : timesD s = l.takeWhile (isDig 10) := by unfold timesD; rw [hl]
  rw [← List.drop_drop, hl, hd]
  have hp : l.takeWhile (isDig 10) <+: l := List.takeWhile_prefix _
  refine ⟨?_, fun c hc => List.all_eq_true.1 (List.all_takeWhile (p := isDig 10) (l := l)) c hc, fun c hc => ?_⟩
  · conv => lhs; arg 1; rw [List.prefix_iff_eq_take.1 hp]
    exact List.take_append_drop _ _
  · rw [List.head?_drop] at hc
    have hlt : (l.takeWhile (isDig 10)).length < l.length := (List.getElem?_eq_some_iff.1 hc).1
    obtain ⟨d, h1, h2⟩ := takeWhile_stop l hlt
    rw [h1] at hc
    cases hc
    exact h2
end Pl
theorem trimDigs (D R : List UInt8) (hD : ∀ c ∈ D, Pl.isDig 10 c = true) (hR : ∀ c, R.head? = some c → Pl.isDig 10 c = false) (w : World) :
    Calls Tryz.prog 30 #[.string (strB (D ++ R)), .string ⟨#[48, 49, 50, 51, 52, 53, 54, 55, 56, 57]⟩] w fun e w' => e = .returned (.string (strB R)) ∧ Below w.heap.size w w' := by
  have h := Tryz.strings_TrimLeft_set (strB (D ++ R)) ⟨#[48, 49, 50, 51, 52, 53, 54, 55, 56, 57]⟩ w (by decide) (ascii_of_all (by decide))
  have e : Lib.trimLeftS (strB (D ++ R)).data.toList (⟨#[48, 49, 50, 51, 52, 53, 54, 55, 56, 57]⟩ : ByteArray).data.toList = R := Pl.trim_digs D R hD hR
  rw [e] at h
  exact h
theorem isDig_small {c : UInt8} (h : Pl.isDig 10 c = true) : c.toNat < 58 := by
  have := of_decide_eq_true h
  omega

/-- what the cutting of a number of times comes to: its strings -/
structure TimesCut (w : World) (S T U T3 L V : ByteArray) (DD : ByteArray) (c : UInt8) (d r : Nat) : Prop where
  c1 : ∀ W, Calls Tryz.prog 26 #[.string S, .string ⟨#[91]⟩] W fun e w' => e = .returned (.tuple #[.string T, .bool true]) ∧ W = w'
  t0 : T.toList.isEmpty = false
  sg : ∀ W, Calls Tryz.prog 29 #[.string T] W fun e w' => e = .returned (.tuple #[.int .u8 (c.toNat : Int), .string U]) ∧ ∃ k, w' = W.drewN k
  c2 : ∀ W, Calls Tryz.prog 26 #[.string U, .string ⟨#[42]⟩] W fun e w' => e = .returned (.tuple #[.string T3, .bool true]) ∧ W = w'
  tr : ∀ W, Calls Tryz.prog 30 #[.string T3, .string ⟨#[48, 49, 50, 51, 52, 53, 54, 55, 56, 57]⟩] W fun e w' => e = .returned (.string L) ∧ Below W.heap.size W w'
  s3 : T3.size = d + r
  sl : L.size = r
  ex : T3.extract 0 d = DD
  wr : IntKind.i64.wrap (((d + r : Nat) : Int) - (r : Int)) = (d : Int)
theorem timesCut (w : World) (s : List UInt8) (hs : s.length < 1000000000) (h1 : Lib.hasPrefix s [91] = true) (h2 : s.drop 1 ≠ []) (h3 : Lib.hasPrefix (s.drop (1 + Pl.signN (s.drop 1))) [42] = true) :
    TimesCut w (strB s) (strB (s.drop 1)) (strB (s.drop (1 + Pl.signN (s.drop 1)))) (strB (s.drop (2 + Pl.signN (s.drop 1)))) (strB (s.drop (2 + Pl.signN (s.drop 1) + (Pl.timesD s).length))) (strB (s.drop (3 + Pl.signN (s.drop 1) + (Pl.timesD s).length))) (strB (Pl.timesD s)) (Pl.signC (s.drop 1)) (Pl.timesD s).length
      (s.drop (2 + Pl.signN (s.drop 1) + (Pl.timesD s).length)).length := by
  obtain ⟨e1, e2, e3⟩ := Pl.times_parts s
  have hl : (Pl.timesD s).length + (s.drop (2 + Pl.signN (s.drop 1) + (Pl.timesD s).length)).length = (s.drop (2 + Pl.signN (s.drop 1))).length := by rw [← List.length_append, e1]
  have hb : (s.drop (2 + Pl.signN (s.drop 1))).length ≤ s.length := by rw [List.length_drop]; omega
  exact {
    c1 := fun W => cutPre_yes s ⟨#[91]⟩ h1 W
    t0 := strB_some h2
    sg := fun W => by
      have := sign_any (s.drop 1) h2 (by rw [List.length_drop]; omega) W
      rwa [List.drop_drop] at this
    c2 := fun W => by
      have := cutPre_yes _ ⟨#[42]⟩ h3 W
      rwa [show (⟨#[42]⟩ : ByteArray).size = 1 from rfl, List.drop_drop, show 1 + Pl.signN (s.drop 1) + 1 = 2 + Pl.signN (s.drop 1) by omega] at this
    tr := fun W => by
      have := trimDigs _ _ e2 e3 W
      rwa [e1] at this
    s3 := by rw [strB_size, hl]
    sl := strB_size _
    ex := by
      rw [← e1, strB, Lib.extract_mk]
      simp [strB]
    wr := by rw [IntWalk.i64_in _ (by omega)]; omega }

set_option maxRecDepth 100000 in
set_option maxHeartbeats 2000000 in
theorem times_miss (w : World) (B g : Nat) (s : List UInt8) (x : Pl.TS) (h : SetAt w B g x) (hBw : B ≤ w.heap.size) (hs : s.length < 1000000000)
    (hn : ¬ (Lib.hasPrefix s [91] = true ∧ s.drop 1 ≠ [] ∧ Lib.hasPrefix (s.drop (1 + Pl.signN (s.drop 1))) [42] = true ∧ Lib.hasPrefix (s.drop (2 + Pl.signN (s.drop 1) + (Pl.timesD s).length)) [93] = true)) :
    Calls Tryz.prog 16 #[.pointer (some ⟨g, 0, none⟩), .string (strB s)] w (KindPost B g s x none w) := by
  by_cases h1 : Lib.hasPrefix s [91] = true
  · have hc1 := cutPre_yes s ⟨#[91]⟩ h1
    rw [show (⟨#[91]⟩ : ByteArray).size = 1 from rfl] at hc1
    by_cases h2 : s.drop 1 = []
    · have he := strB_empty h2
      obtain ⟨T, hT⟩ : ∃ T, strB (s.drop 1) = T := ⟨_, rfl⟩
      simp only [hT] at hc1 he
      clear h1 h2 hn
      go_enter Tryz.func16, Tryz.ntmps16
      go_wp2_with (go_at_call 26; refine (hc1 _).mono ?_; rintro e w1 ⟨rfl, rfl⟩)
      go_returns
      exact ⟨bx (Below.refl _ _), rfl, h⟩
    · by_cases h3 : Lib.hasPrefix (s.drop (1 + Pl.signN (s.drop 1))) [42] = true
      · have h4 : Lib.hasPrefix (s.drop (2 + Pl.signN (s.drop 1) + (Pl.timesD s).length)) [93] = false := Bool.eq_false_iff.2 fun k => hn ⟨h1, h2, h3, k⟩
        have C := timesCut w s hs h1 h2 h3
        have hc3 := cutPre_no _ ⟨#[93]⟩ h4
        obtain ⟨S, hS⟩ : ∃ S, strB s = S := ⟨_, rfl⟩
        rw [show KindPost B g s x none w = fun e w' => BX B g w w' ∧ (e = .returned (.tuple #[.string S, .bool false]) ∧ SetAt w' B g x) from by rw [← hS]; rfl]
        rw [hS]
        generalize strB (s.drop 1) = T at C
        generalize strB (s.drop (1 + Pl.signN (s.drop 1))) = U at C
        generalize strB (s.drop (2 + Pl.signN (s.drop 1))) = T3 at C
        generalize strB (s.drop (2 + Pl.signN (s.drop 1) + (Pl.timesD s).length)) = L at C hc3
        generalize strB (s.drop (3 + Pl.signN (s.drop 1) + (Pl.timesD s).length)) = V at C
        generalize strB (Pl.timesD s) = DD at C
        generalize Pl.signC (s.drop 1) = c at C
        have hrl : (s.drop (2 + Pl.signN (s.drop 1) + (Pl.timesD s).length)).length ≤ s.length := by rw [List.length_drop]; omega
        generalize (s.drop (2 + Pl.signN (s.drop 1) + (Pl.timesD s).length)).length = r at C hrl
        have hdl : (Pl.timesD s).length ≤ s.length := by
          have h5 := congrArg List.length (Pl.times_parts s).1
          have h6 : (s.drop (2 + Pl.signN (s.drop 1))).length ≤ s.length := by rw [List.length_drop]; omega
          rw [← h5, List.length_append] at h6
          omega
        generalize (Pl.timesD s).length = d at C hdl
        rw [hS] at C
        obtain ⟨k1, k2, k3, k4, k5, k6, k7, k8, k9⟩ := C
        have HH := Lib.hid h
        clear h h1 h2 h3 h4 hn hS hc1
        go_enter Tryz.func16, Tryz.ntmps16
        go_wp2_with (first
          | (go_at_call 26; with_reducible refine (k1 _).mono ?_; rintro e w1 ⟨rfl, rfl⟩)
          | (go_at_call 29; refine (k3 _).mono ?_; rintro e w1 ⟨rfl, k, hk⟩; subst hk)
          | (go_at_call 26; with_reducible refine (k4 _).mono ?_; rintro e w1 ⟨rfl, rfl⟩)
          | (go_at_call 30; refine (k5 _).mono ?_; rintro e w2 ⟨rfl, hb2⟩)
          | (go_at_call 26; with_reducible refine (hc3 _).mono ?_; rintro e w1 ⟨rfl, rfl⟩))
        go_returns
        exact ⟨bx ((below_drew w k).trans (below_le hb2 hBw)), rfl, (HH.out.drewN k).below hb2⟩
      · have hsg := sign_any (s.drop 1) h2 (by rw [List.length_drop]; omega)
        have he := strB_some h2
        rw [List.drop_drop] at hsg
        have hc2 := cutPre_no _ ⟨#[42]⟩ (Bool.eq_false_iff.2 h3)
        obtain ⟨T, hT⟩ : ∃ T, strB (s.drop 1) = T := ⟨_, rfl⟩
        obtain ⟨U, hU⟩ : ∃ U, strB (s.drop (1 + Pl.signN (s.drop 1))) = U := ⟨_, rfl⟩
        simp only [hT, hU] at hc1 hc2 he hsg
        clear h1 h2 h3 hn hU hT
        go_enter Tryz.func16, Tryz.ntmps16
        go_wp2_with (first
          | (go_at_call 26; with_reducible refine (hc1 _).mono ?_; rintro e w1 ⟨rfl, rfl⟩)
          | (go_at_call 29; refine (hsg _).mono ?_; rintro e w1 ⟨rfl, k, hk⟩; subst hk)
          | (go_at_call 26; with_reducible refine (hc2 _).mono ?_; rintro e w1 ⟨rfl, rfl⟩))
        go_returns
        exact ⟨bx (below_drew w k), rfl, h.drewN k⟩
  · have hc1 := cutPre_no s ⟨#[91]⟩ (Bool.eq_false_iff.2 h1)
    clear h1 hn
    go_enter Tryz.func16, Tryz.ntmps16
    go_wp2_with (go_at_call 26; refine (hc1 _).mono ?_; rintro e w1 ⟨rfl, rfl⟩)
    go_returns
    exact ⟨bx (Below.refl _ _), rfl, h⟩

end Go.Proofs.YtlhiadnolckoeaaGreatDoor
end

section
namespace Go.Proofs.YtlhiadnolckoeaaGreatDoor
open Go.RowKit Go.Maps

set_option maxRecDepth 100000 in
set_option maxHeartbeats 4000000 in
theorem times_nil_zbad (w : World) (B g : Nat) (x : Pl.TS) (S T U T3 L V DD : ByteArray) (c : UInt8) (d r : Nat) (C : TimesCut w S T U T3 L V DD c d r) (hc3 : ∀ W, Calls Tryz.prog 26 #[.string L, .string ⟨#[93]⟩] W fun e w' => e = .returned (.tuple #[.string V, .bool true]) ∧ W = w')
    (h : SetAt w B g x) (hBw : B ≤ w.heap.size) (hdl : d ≤ 1000000000) (hrl : r ≤ 1000000000) (hpre : ∀ W, Calls Tryz.prog 31 #[.string DD, .string ⟨#[48]⟩] W fun e w' => e = .returned (.bool false) ∧ W = w') (he : DD.toList.isEmpty = true) (hrest : 0 ≤ x.rest) :
    Calls Tryz.prog 16 #[.pointer (some ⟨g, 0, none⟩), .string S] w fun e w' => BX B g w w' ∧ e = .returned (.tuple #[.string V, .bool true]) ∧ SetAt w' B g { x with bad := true } := by
  have hBg := h.1
  obtain ⟨k1, k2, k3, k4, k5, k6, k7, k8, k9⟩ := C
  have HH := Lib.hid h
  clear h
  go_enter Tryz.func16, Tryz.ntmps16
  go_wp2_with (first
    | (go_at_call 26; with_reducible refine (k1 _).mono ?_; rintro e w1 ⟨rfl, rfl⟩)
    | (go_at_call 29; refine (k3 _).mono ?_; rintro e w1 ⟨rfl, k, hk⟩; subst hk)
    | (go_at_call 26; with_reducible refine (k4 _).mono ?_; rintro e w1 ⟨rfl, rfl⟩)
    | (go_at_call 30; refine (k5 _).mono ?_; rintro e w2 ⟨rfl, hb2⟩; have hbl : Below w.heap.size w w2 := (below_drew w k).trans hb2; obtain ⟨_, v, hblk, hown⟩ := HH.out.below hbl; obtain ⟨A, cp, rfl, _⟩ := own_slice hown; have HB := Lib.hid hblk; have HO := Lib.hid hown; have HBL := Lib.hid (below_le hbl hBw); have hgl := hblk.lt; have q2 : w2.cell? ⟨g, 2, none⟩ = some (.bool x.bad) := hblk.cell 2; have f2 : w2.frozen? ⟨g, 2, none⟩ = false := hblk.frozen 2; have q1 : w2.cell? ⟨g, 1, none⟩ = some (.int .i64 x.rest) := hblk.cell 1; have f1 : w2.frozen? ⟨g, 1, none⟩ = false := hblk.frozen 1; clear hblk hown hbl)
    | (go_at_call 26; with_reducible refine (hc3 _).mono ?_; rintro e w1 ⟨rfl, rfl⟩)
    | (go_at_call 31; refine (hpre _).mono ?_; rintro e w1 ⟨rfl, rfl⟩))
  go_returns
  exact ⟨(bx HBL.out).setG 2 _, rfl, hBg, _, HB.out.set_ 2 _, ownsRow_setCell_other HO.out (own_blk_ne HO.out HB.out (by decide)) _⟩

set_option maxRecDepth 100000 in
set_option maxHeartbeats 4000000 in
theorem times_nil_zero (w : World) (B g : Nat) (x : Pl.TS) (S T U T3 L V DD : ByteArray) (c : UInt8) (d r : Nat) (C : TimesCut w S T U T3 L V DD c d r) (hc3 : ∀ W, Calls Tryz.prog 26 #[.string L, .string ⟨#[93]⟩] W fun e w' => e = .returned (.tuple #[.string V, .bool true]) ∧ W = w')
    (h : SetAt w B g x) (hBw : B ≤ w.heap.size) (ho : x.out.length + 65536 ≤ 140737488355328) (hdl : d ≤ 1000000000) (hrl : r ≤ 1000000000) (hpre : ∀ W, Calls Tryz.prog 31 #[.string DD, .string ⟨#[48]⟩] W fun e w' => e = .returned (.bool false) ∧ W = w') (he : DD.toList.isEmpty = true) (hrest : x.rest < 0) :
    Calls Tryz.prog 16 #[.pointer (some ⟨g, 0, none⟩), .string S] w fun e w' => BX B g w w' ∧ e = .returned (.tuple #[.string V, .bool true]) ∧ SetAt w' B g { x with out := x.out ++ [c], rest := (x.out.length : Int) } := by
  have hBg := h.1
  obtain ⟨k1, k2, k3, k4, k5, k6, k7, k8, k9⟩ := C
  have HH := Lib.hid h
  clear h
  go_enter Tryz.func16, Tryz.ntmps16
  go_wp2_with (first
    | (go_at_call 26; with_reducible refine (k1 _).mono ?_; rintro e w1 ⟨rfl, rfl⟩)
    | (go_at_call 29; refine (k3 _).mono ?_; rintro e w1 ⟨rfl, k, hk⟩; subst hk)
    | (go_at_call 26; with_reducible refine (k4 _).mono ?_; rintro e w1 ⟨rfl, rfl⟩)
    | (go_at_call 30; refine (k5 _).mono ?_; rintro e w2 ⟨rfl, hb2⟩; have hbl : Below w.heap.size w w2 := (below_drew w k).trans hb2; obtain ⟨_, v, hblk, hown⟩ := HH.out.below hbl; obtain ⟨A, cp, rfl, _⟩ := own_slice hown; have HB := Lib.hid hblk; have HO := Lib.hid hown; have HBL := Lib.hid (below_le hbl hBw); have hgl := hblk.lt; have q1 : w2.cell? ⟨g, 1, none⟩ = some (.int .i64 x.rest) := hblk.cell 1; have f1 : w2.frozen? ⟨g, 1, none⟩ = false := hblk.frozen 1; have q0 : w2.cell? ⟨g, 0, none⟩ = some (.slice A x.out.length cp) := hblk.cell 0; clear hblk hown hbl)
    | (go_at_call 26; with_reducible refine (hc3 _).mono ?_; rintro e w1 ⟨rfl, rfl⟩)
    | (go_at_call 31; refine (hpre _).mono ?_; rintro e w1 ⟨rfl, rfl⟩))
  go_loopw [100] (fun kv wr => ∃ j : Nat, j ≤ 1 ∧ kv = .int .i64 j ∧ SetAt wr B g { x with out := x.out ++ List.replicate j c, rest := (x.out.length : Int) } ∧ BX B g w wr) (fun kv _ => 1 - (intOf kv).toNat)
  case atStart => exact ⟨0, by omega, rfl, ⟨hBg, _, HB.out.set_ 1 _, by simpa using ownsRow_setCell_other HO.out (own_blk_ne HO.out HB.out (by decide)) _⟩, (bx HBL.out).setG 1 _⟩
  case round =>
    obtain ⟨j, hj, rfl, ⟨_, v3, hb3', hown3⟩, hbl3⟩ := hrel
    obtain ⟨A3, cp3, rfl, _⟩ := own_slice hown3
    have hszr : B ≤ wr.heap.size := Nat.le_trans hBw hbl3.size
    by_cases hlt : j < 1
    · have hgl3 := hb3'.lt
      obtain ⟨m, hm⟩ : ∃ m, (x.out ++ List.replicate j c).length = m := ⟨_, rfl⟩
      have hml : m ≤ x.out.length + 65535 := by rw [← hm, List.length_append, List.length_replicate]; omega
      simp only [hm] at hown3 hb3'
      have e0 : wr.cell? ⟨g, 0, none⟩ = some (.slice A3 m cp3) := hb3'.cell 0
      have HO3 := Lib.hid hown3
      have HB3 := Lib.hid hb3'
      have HM3 := Lib.hid hm
      have HL3 := Lib.hid hbl3
      clear hown3 hb3' hm hbl3
      go_wp2_with (at_builtin; refine wpList_push rfl _ _ rfl wr B (.slice A3 m cp3) m (x.out ++ List.replicate j c) c rfl HO3.out HM3.out.symm rfl (by omega) (by omega) ?_; intro A2 c2' w5 hown2 hg2 hat2
                   have b2 := Blk.grown (HB3.out.alloc _) hg2 (own_blk_ne HO3.out HB3.out (by decide)).symm
                   have q9 := b2.cell 0; have f9 := b2.frozen 0; have l9 := b2.lt)
      refine ⟨⟨j + 1, by omega, by go_num, ?_, ?_⟩, by simp [intOf]; omega⟩
      · rw [List.replicate_succ', ← List.append_assoc]
        exact SetAt.pushed (x := { x with out := x.out ++ List.replicate j c, rest := (x.out.length : Int) }) hBg rfl rfl b2 (by rw [show (x.out ++ List.replicate j c).length = m from HM3.out]; exact hown2)
      · exact ((HL3.out.alloc (by omega) _).grown hg2 (by simp; omega) (fun i hi => (HO3.out.lt i hi).1)).setG 0 _
    · obtain rfl : j = 1 := by omega
      have HF2 := Lib.hid (show SetAt wr B g { x with out := x.out ++ List.replicate 1 c, rest := (x.out.length : Int) } from ⟨hBg, _, hb3', hown3⟩)
      clear hown3 hb3'
      go_wp2_with fail
      go_returns
      exact ⟨hbl3, rfl, HF2.out⟩

end Go.Proofs.YtlhiadnolckoeaaGreatDoor
end

section
namespace Go.Proofs.YtlhiadnolckoeaaGreatDoor
open Go.RowKit Go.Maps

set_option maxRecDepth 100000 in
set_option maxHeartbeats 4000000 in
theorem times_oct_bad (w : World) (B g : Nat) (x : Pl.TS) (S T U T3 L V DD : ByteArray) (c : UInt8) (d r : Nat) (C : TimesCut w S T U T3 L V DD c d r) (hc3 : ∀ W, Calls Tryz.prog 26 #[.string L, .string ⟨#[93]⟩] W fun e w' => e = .returned (.tuple #[.string V, .bool true]) ∧ W = w')
    (h : SetAt w B g x) (hBw : B ≤ w.heap.size) (hdl : d ≤ 1000000000) (hrl : r ≤ 1000000000) (hpre : ∀ W, Calls Tryz.prog 31 #[.string DD, .string ⟨#[48]⟩] W fun e w' => e = .returned (.bool true) ∧ W = w') (hT : Tabs w) (hnum : ∀ W, Tabs W → Calls Tryz.prog 32 #[.string DD, .int .i64 2147483647] W fun e w' => e = .returned (.tuple #[.int .i64 0, .bool false]) ∧ Below W.heap.size W w') :
    Calls Tryz.prog 16 #[.pointer (some ⟨g, 0, none⟩), .string S] w fun e w' => BX B g w w' ∧ e = .returned (.tuple #[.string V, .bool true]) ∧ SetAt w' B g { x with bad := true } := by
  have hBg := h.1
  obtain ⟨k1, k2, k3, k4, k5, k6, k7, k8, k9⟩ := C
  have HH := Lib.hid h
  have HT := Lib.hid hT
  clear h hT
  go_enter Tryz.func16, Tryz.ntmps16
  go_wp2_with (first
    | (go_at_call 26; with_reducible refine (k1 _).mono ?_; rintro e w1 ⟨rfl, rfl⟩)
    | (go_at_call 29; refine (k3 _).mono ?_; rintro e w1 ⟨rfl, k, hk⟩; subst hk)
    | (go_at_call 26; with_reducible refine (k4 _).mono ?_; rintro e w1 ⟨rfl, rfl⟩)
    | (go_at_call 30; refine (k5 _).mono ?_; rintro e w2 ⟨rfl, hb2⟩)
    | (go_at_call 26; with_reducible refine (hc3 _).mono ?_; rintro e w1 ⟨rfl, rfl⟩)
    | (go_at_call 31; refine (hpre _).mono ?_; rintro e w1 ⟨rfl, rfl⟩)
    | (go_at_call 32; refine (hnum _ (HT.out.below ((below_drew w k).trans hb2))).mono ?_; rintro e w3 ⟨rfl, hb3⟩; have hbl : Below w.heap.size w w3 := (below_drew w k).trans (hb2.trans (hb3.mono hb2.size)); obtain ⟨_, v, hblk, hown⟩ := HH.out.below hbl; obtain ⟨A, cp, rfl, _⟩ := own_slice hown; have HB := Lib.hid hblk; have HO := Lib.hid hown; have HBL := Lib.hid (below_le hbl hBw); have hgl := hblk.lt; have q2 : w3.cell? ⟨g, 2, none⟩ = some (.bool x.bad) := hblk.cell 2; have f2 : w3.frozen? ⟨g, 2, none⟩ = false := hblk.frozen 2; clear hblk hown hbl))
  go_returns
  exact ⟨(bx HBL.out).setG 2 _, rfl, hBg, _, HB.out.set_ 2 _, ownsRow_setCell_other HO.out (own_blk_ne HO.out HB.out (by decide)) _⟩

set_option maxRecDepth 100000 in
set_option maxHeartbeats 4000000 in
theorem times_oct_zbad (w : World) (B g : Nat) (x : Pl.TS) (S T U T3 L V DD : ByteArray) (c : UInt8) (d r : Nat) (C : TimesCut w S T U T3 L V DD c d r) (hc3 : ∀ W, Calls Tryz.prog 26 #[.string L, .string ⟨#[93]⟩] W fun e w' => e = .returned (.tuple #[.string V, .bool true]) ∧ W = w')
    (h : SetAt w B g x) (hBw : B ≤ w.heap.size) (hdl : d ≤ 1000000000) (hrl : r ≤ 1000000000) (hpre : ∀ W, Calls Tryz.prog 31 #[.string DD, .string ⟨#[48]⟩] W fun e w' => e = .returned (.bool true) ∧ W = w') (hT : Tabs w) (hnum : ∀ W, Tabs W → Calls Tryz.prog 32 #[.string DD, .int .i64 2147483647] W fun e w' => e = .returned (.tuple #[.int .i64 0, .bool true]) ∧ Below W.heap.size W w') (hrest : 0 ≤ x.rest) :
    Calls Tryz.prog 16 #[.pointer (some ⟨g, 0, none⟩), .string S] w fun e w' => BX B g w w' ∧ e = .returned (.tuple #[.string V, .bool true]) ∧ SetAt w' B g { x with bad := true } := by
  have hBg := h.1
  obtain ⟨k1, k2, k3, k4, k5, k6, k7, k8, k9⟩ := C
  have HH := Lib.hid h
  have HT := Lib.hid hT
  clear h hT
  go_enter Tryz.func16, Tryz.ntmps16
  go_wp2_with (first
    | (go_at_call 26; with_reducible refine (k1 _).mono ?_; rintro e w1 ⟨rfl, rfl⟩)
    | (go_at_call 29; refine (k3 _).mono ?_; rintro e w1 ⟨rfl, k, hk⟩; subst hk)
    | (go_at_call 26; with_reducible refine (k4 _).mono ?_; rintro e w1 ⟨rfl, rfl⟩)
    | (go_at_call 30; refine (k5 _).mono ?_; rintro e w2 ⟨rfl, hb2⟩)
    | (go_at_call 26; with_reducible refine (hc3 _).mono ?_; rintro e w1 ⟨rfl, rfl⟩)
    | (go_at_call 31; refine (hpre _).mono ?_; rintro e w1 ⟨rfl, rfl⟩)
    | (go_at_call 32; refine (hnum _ (HT.out.below ((below_drew w k).trans hb2))).mono ?_; rintro e w3 ⟨rfl, hb3⟩; have hbl : Below w.heap.size w w3 := (below_drew w k).trans (hb2.trans (hb3.mono hb2.size)); obtain ⟨_, v, hblk, hown⟩ := HH.out.below hbl; obtain ⟨A, cp, rfl, _⟩ := own_slice hown; have HB := Lib.hid hblk; have HO := Lib.hid hown; have HBL := Lib.hid (below_le hbl hBw); have hgl := hblk.lt; have q2 : w3.cell? ⟨g, 2, none⟩ = some (.bool x.bad) := hblk.cell 2; have f2 : w3.frozen? ⟨g, 2, none⟩ = false := hblk.frozen 2; have q1 : w3.cell? ⟨g, 1, none⟩ = some (.int .i64 x.rest) := hblk.cell 1; have f1 : w3.frozen? ⟨g, 1, none⟩ = false := hblk.frozen 1; clear hblk hown hbl))
  go_returns
  exact ⟨(bx HBL.out).setG 2 _, rfl, hBg, _, HB.out.set_ 2 _, ownsRow_setCell_other HO.out (own_blk_ne HO.out HB.out (by decide)) _⟩

set_option maxRecDepth 100000 in
set_option maxHeartbeats 4000000 in
theorem times_oct_zero (w : World) (B g : Nat) (x : Pl.TS) (S T U T3 L V DD : ByteArray) (c : UInt8) (d r : Nat) (C : TimesCut w S T U T3 L V DD c d r) (hc3 : ∀ W, Calls Tryz.prog 26 #[.string L, .string ⟨#[93]⟩] W fun e w' => e = .returned (.tuple #[.string V, .bool true]) ∧ W = w')
    (h : SetAt w B g x) (hBw : B ≤ w.heap.size) (ho : x.out.length + 65536 ≤ 140737488355328) (hdl : d ≤ 1000000000) (hrl : r ≤ 1000000000) (hpre : ∀ W, Calls Tryz.prog 31 #[.string DD, .string ⟨#[48]⟩] W fun e w' => e = .returned (.bool true) ∧ W = w') (hT : Tabs w) (hnum : ∀ W, Tabs W → Calls Tryz.prog 32 #[.string DD, .int .i64 2147483647] W fun e w' => e = .returned (.tuple #[.int .i64 0, .bool true]) ∧ Below W.heap.size W w') (hrest : x.rest < 0) :
    Calls Tryz.prog 16 #[.pointer (some ⟨g, 0, none⟩), .string S] w fun e w' => BX B g w w' ∧ e = .returned (.tuple #[.string V, .bool true]) ∧ SetAt w' B g { x with out := x.out ++ [c], rest := (x.out.length : Int) } := by
  have hBg := h.1
  obtain ⟨k1, k2, k3, k4, k5, k6, k7, k8, k9⟩ := C
  have HH := Lib.hid h
  have HT := Lib.hid hT
  clear h hT
  go_enter Tryz.func16, Tryz.ntmps16
  go_wp2_with (first
    | (go_at_call 26; with_reducible refine (k1 _).mono ?_; rintro e w1 ⟨rfl, rfl⟩)
    | (go_at_call 29; refine (k3 _).mono ?_; rintro e w1 ⟨rfl, k, hk⟩; subst hk)
    | (go_at_call 26; with_reducible refine (k4 _).mono ?_; rintro e w1 ⟨rfl, rfl⟩)
    | (go_at_call 30; refine (k5 _).mono ?_; rintro e w2 ⟨rfl, hb2⟩)
    | (go_at_call 26; with_reducible refine (hc3 _).mono ?_; rintro e w1 ⟨rfl, rfl⟩)
    | (go_at_call 31; refine (hpre _).mono ?_; rintro e w1 ⟨rfl, rfl⟩)
    | (go_at_call 32; refine (hnum _ (HT.out.below ((below_drew w k).trans hb2))).mono ?_; rintro e w3 ⟨rfl, hb3⟩; have hbl : Below w.heap.size w w3 := (below_drew w k).trans (hb2.trans (hb3.mono hb2.size)); obtain ⟨_, v, hblk, hown⟩ := HH.out.below hbl; obtain ⟨A, cp, rfl, _⟩ := own_slice hown; have HB := Lib.hid hblk; have HO := Lib.hid hown; have HBL := Lib.hid (below_le hbl hBw); have hgl := hblk.lt; have q1 : w3.cell? ⟨g, 1, none⟩ = some (.int .i64 x.rest) := hblk.cell 1; have f1 : w3.frozen? ⟨g, 1, none⟩ = false := hblk.frozen 1; have q0 : w3.cell? ⟨g, 0, none⟩ = some (.slice A x.out.length cp) := hblk.cell 0; clear hblk hown hbl))
  go_loopw [100] (fun kv wr => ∃ j : Nat, j ≤ 1 ∧ kv = .int .i64 j ∧ SetAt wr B g { x with out := x.out ++ List.replicate j c, rest := (x.out.length : Int) } ∧ BX B g w wr) (fun kv _ => 1 - (intOf kv).toNat)
  case atStart => exact ⟨0, by omega, rfl, ⟨hBg, _, HB.out.set_ 1 _, by simpa using ownsRow_setCell_other HO.out (own_blk_ne HO.out HB.out (by decide)) _⟩, (bx HBL.out).setG 1 _⟩
  case round =>
    obtain ⟨j, hj, rfl, ⟨_, v3, hb3', hown3⟩, hbl3⟩ := hrel
    obtain ⟨A3, cp3, rfl, _⟩ := own_slice hown3
    have hszr : B ≤ wr.heap.size := Nat.le_trans hBw hbl3.size
    by_cases hlt : j < 1
    · have hgl3 := hb3'.lt
      obtain ⟨m, hm⟩ : ∃ m, (x.out ++ List.replicate j c).length = m := ⟨_, rfl⟩
      have hml : m ≤ x.out.length + 65535 := by rw [← hm, List.length_append, List.length_replicate]; omega
      simp only [hm] at hown3 hb3'
      have e0 : wr.cell? ⟨g, 0, none⟩ = some (.slice A3 m cp3) := hb3'.cell 0
      have HO3 := Lib.hid hown3
      have HB3 := Lib.hid hb3'
      have HM3 := Lib.hid hm
      have HL3 := Lib.hid hbl3
      clear hown3 hb3' hm hbl3
      go_wp2_with (at_builtin; refine wpList_push rfl _ _ rfl wr B (.slice A3 m cp3) m (x.out ++ List.replicate j c) c rfl HO3.out HM3.out.symm rfl (by omega) (by omega) ?_; intro A2 c2' w5 hown2 hg2 hat2
                   have b2 := Blk.grown (HB3.out.alloc _) hg2 (own_blk_ne HO3.out HB3.out (by decide)).symm
                   have q9 := b2.cell 0; have f9 := b2.frozen 0; have l9 := b2.lt)
      refine ⟨⟨j + 1, by omega, by go_num, ?_, ?_⟩, by simp [intOf]; omega⟩
      · rw [List.replicate_succ', ← List.append_assoc]
        exact SetAt.pushed (x := { x with out := x.out ++ List.replicate j c, rest := (x.out.length : Int) }) hBg rfl rfl b2 (by rw [show (x.out ++ List.replicate j c).length = m from HM3.out]; exact hown2)
      · exact ((HL3.out.alloc (by omega) _).grown hg2 (by simp; omega) (fun i hi => (HO3.out.lt i hi).1)).setG 0 _
    · obtain rfl : j = 1 := by omega
      have HF2 := Lib.hid (show SetAt wr B g { x with out := x.out ++ List.replicate 1 c, rest := (x.out.length : Int) } from ⟨hBg, _, hb3', hown3⟩)
      clear hown3 hb3'
      go_wp2_with fail
      go_returns
      exact ⟨hbl3, rfl, HF2.out⟩

set_option maxRecDepth 100000 in
set_option maxHeartbeats 4000000 in
theorem times_oct_many (w : World) (B g : Nat) (x : Pl.TS) (S T U T3 L V DD : ByteArray) (c : UInt8) (d r : Nat) (N M : Nat) (C : TimesCut w S T U T3 L V DD c d r) (hc3 : ∀ W, Calls Tryz.prog 26 #[.string L, .string ⟨#[93]⟩] W fun e w' => e = .returned (.tuple #[.string V, .bool true]) ∧ W = w')
    (h : SetAt w B g x) (hBw : B ≤ w.heap.size) (ho : x.out.length + 65536 ≤ 140737488355328) (hdl : d ≤ 1000000000) (hrl : r ≤ 1000000000) (hpre : ∀ W, Calls Tryz.prog 31 #[.string DD, .string ⟨#[48]⟩] W fun e w' => e = .returned (.bool true) ∧ W = w') (hT : Tabs w) (hnum : ∀ W, Tabs W → Calls Tryz.prog 32 #[.string DD, .int .i64 2147483647] W fun e w' => e = .returned (.tuple #[.int .i64 (N : Int), .bool true]) ∧ Below W.heap.size W w') (hN : 1 ≤ N) (hM : min (N : Int) 65536 = (M : Int)) (hM2 : M ≤ 65536) :
    Calls Tryz.prog 16 #[.pointer (some ⟨g, 0, none⟩), .string S] w fun e w' => BX B g w w' ∧ e = .returned (.tuple #[.string V, .bool true]) ∧ SetAt w' B g { x with out := x.out ++ List.replicate M c } := by
  have hBg := h.1
  obtain ⟨k1, k2, k3, k4, k5, k6, k7, k8, k9⟩ := C
  have HH := Lib.hid h
  have HT := Lib.hid hT
  have hN0 : ((N : Int) == 0) = false := by simp; omega
  clear h hT
  go_enter Tryz.func16, Tryz.ntmps16
  go_wp2_with (first
    | (go_at_call 26; with_reducible refine (k1 _).mono ?_; rintro e w1 ⟨rfl, rfl⟩)
    | (go_at_call 29; refine (k3 _).mono ?_; rintro e w1 ⟨rfl, k, hk⟩; subst hk)
    | (go_at_call 26; with_reducible refine (k4 _).mono ?_; rintro e w1 ⟨rfl, rfl⟩)
    | (go_at_call 30; refine (k5 _).mono ?_; rintro e w2 ⟨rfl, hb2⟩)
    | (go_at_call 26; with_reducible refine (hc3 _).mono ?_; rintro e w1 ⟨rfl, rfl⟩)
    | (go_at_call 31; refine (hpre _).mono ?_; rintro e w1 ⟨rfl, rfl⟩)
    | (go_at_call 32; refine (hnum _ (HT.out.below ((below_drew w k).trans hb2))).mono ?_; rintro e w3 ⟨rfl, hb3⟩; have hbl : Below w.heap.size w w3 := (below_drew w k).trans (hb2.trans (hb3.mono hb2.size)); obtain ⟨_, v, hblk, hown⟩ := HH.out.below hbl; obtain ⟨A, cp, rfl, _⟩ := own_slice hown; have HB := Lib.hid hblk; have HO := Lib.hid hown; have HBL := Lib.hid (below_le hbl hBw); have hgl := hblk.lt; clear hblk hown hbl))
  go_loopw [100] (fun kv wr => ∃ j : Nat, j ≤ M ∧ kv = .int .i64 j ∧ SetAt wr B g { x with out := x.out ++ List.replicate j c, rest := x.rest } ∧ BX B g w wr) (fun kv _ => M - (intOf kv).toNat)
  case atStart => exact ⟨0, by omega, rfl, ⟨hBg, _, HB.out, by simpa using HO.out⟩, bx HBL.out⟩
  case round =>
    obtain ⟨j, hj, rfl, ⟨_, v3, hb3', hown3⟩, hbl3⟩ := hrel
    obtain ⟨A3, cp3, rfl, _⟩ := own_slice hown3
    have hszr : B ≤ wr.heap.size := Nat.le_trans hBw hbl3.size
    by_cases hlt : j < M
    · have hgl3 := hb3'.lt
      obtain ⟨m, hm⟩ : ∃ m, (x.out ++ List.replicate j c).length = m := ⟨_, rfl⟩
      have hml : m ≤ x.out.length + 65535 := by rw [← hm, List.length_append, List.length_replicate]; omega
      simp only [hm] at hown3 hb3'
      have e0 : wr.cell? ⟨g, 0, none⟩ = some (.slice A3 m cp3) := hb3'.cell 0
      have HO3 := Lib.hid hown3
      have HB3 := Lib.hid hb3'
      have HM3 := Lib.hid hm
      have HL3 := Lib.hid hbl3
      clear hown3 hb3' hm hbl3
      go_wp2_with (at_builtin; refine wpList_push rfl _ _ rfl wr B (.slice A3 m cp3) m (x.out ++ List.replicate j c) c rfl HO3.out HM3.out.symm rfl (by omega) (by omega) ?_; intro A2 c2' w5 hown2 hg2 hat2
                   have b2 := Blk.grown (HB3.out.alloc _) hg2 (own_blk_ne HO3.out HB3.out (by decide)).symm
                   have q9 := b2.cell 0; have f9 := b2.frozen 0; have l9 := b2.lt)
      refine ⟨⟨j + 1, by omega, by go_num, ?_, ?_⟩, by simp [intOf]; omega⟩
      · rw [List.replicate_succ', ← List.append_assoc]
        exact SetAt.pushed (x := { x with out := x.out ++ List.replicate j c, rest := x.rest }) hBg rfl rfl b2 (by rw [show (x.out ++ List.replicate j c).length = m from HM3.out]; exact hown2)
      · exact ((HL3.out.alloc (by omega) _).grown hg2 (by simp; omega) (fun i hi => (HO3.out.lt i hi).1)).setG 0 _
    · obtain rfl : j = M := by omega
      have HF2 := Lib.hid (show SetAt wr B g { x with out := x.out ++ List.replicate j c, rest := x.rest } from ⟨hBg, _, hb3', hown3⟩)
      clear hown3 hb3'
      go_wp2_with fail
      go_returns
      exact ⟨hbl3, rfl, HF2.out⟩

end Go.Proofs.YtlhiadnolckoeaaGreatDoor
end

section
namespace Go.Proofs.YtlhiadnolckoeaaGreatDoor
open Go.RowKit Go.Maps

set_option maxRecDepth 100000 in
set_option maxHeartbeats 4000000 in
theorem times_dec_bad (w : World) (B g : Nat) (x : Pl.TS) (S T U T3 L V DD : ByteArray) (c : UInt8) (d r : Nat) (C : TimesCut w S T U T3 L V DD c d r) (hc3 : ∀ W, Calls Tryz.prog 26 #[.string L, .string ⟨#[93]⟩] W fun e w' => e = .returned (.tuple #[.string V, .bool true]) ∧ W = w')
    (h : SetAt w B g x) (hBw : B ≤ w.heap.size) (hdl : d ≤ 1000000000) (hrl : r ≤ 1000000000) (hpre : ∀ W, Calls Tryz.prog 31 #[.string DD, .string ⟨#[48]⟩] W fun e w' => e = .returned (.bool false) ∧ W = w') (he : DD.toList.isEmpty = false) (hT : Tabs w) (hnum : ∀ W, Tabs W → Calls Tryz.prog 33 #[.string DD, .int .i64 2147483647] W fun e w' => e = .returned (.tuple #[.int .i64 0, .bool false]) ∧ Below W.heap.size W w') :
    Calls Tryz.prog 16 #[.pointer (some ⟨g, 0, none⟩), .string S] w fun e w' => BX B g w w' ∧ e = .returned (.tuple #[.string V, .bool true]) ∧ SetAt w' B g { x with bad := true } := by
  have hBg := h.1
  obtain ⟨k1, k2, k3, k4, k5, k6, k7, k8, k9⟩ := C
  have HH := Lib.hid h
  have HT := Lib.hid hT
  clear h hT
  go_enter Tryz.func16, Tryz.ntmps16
  go_wp2_with (first
    | (go_at_call 26; with_reducible refine (k1 _).mono ?_; rintro e w1 ⟨rfl, rfl⟩)
    | (go_at_call 29; refine (k3 _).mono ?_; rintro e w1 ⟨rfl, k, hk⟩; subst hk)
    | (go_at_call 26; with_reducible refine (k4 _).mono ?_; rintro e w1 ⟨rfl, rfl⟩)
    | (go_at_call 30; refine (k5 _).mono ?_; rintro e w2 ⟨rfl, hb2⟩)
    | (go_at_call 26; with_reducible refine (hc3 _).mono ?_; rintro e w1 ⟨rfl, rfl⟩)
    | (go_at_call 31; refine (hpre _).mono ?_; rintro e w1 ⟨rfl, rfl⟩)
    | (go_at_call 33; refine (hnum _ (HT.out.below ((below_drew w k).trans hb2))).mono ?_; rintro e w3 ⟨rfl, hb3⟩; have hbl : Below w.heap.size w w3 := (below_drew w k).trans (hb2.trans (hb3.mono hb2.size)); obtain ⟨_, v, hblk, hown⟩ := HH.out.below hbl; obtain ⟨A, cp, rfl, _⟩ := own_slice hown; have HB := Lib.hid hblk; have HO := Lib.hid hown; have HBL := Lib.hid (below_le hbl hBw); have hgl := hblk.lt; have q2 : w3.cell? ⟨g, 2, none⟩ = some (.bool x.bad) := hblk.cell 2; have f2 : w3.frozen? ⟨g, 2, none⟩ = false := hblk.frozen 2; clear hblk hown hbl))
  go_returns
  exact ⟨(bx HBL.out).setG 2 _, rfl, hBg, _, HB.out.set_ 2 _, ownsRow_setCell_other HO.out (own_blk_ne HO.out HB.out (by decide)) _⟩

set_option maxRecDepth 100000 in
set_option maxHeartbeats 4000000 in
theorem times_dec_zbad (w : World) (B g : Nat) (x : Pl.TS) (S T U T3 L V DD : ByteArray) (c : UInt8) (d r : Nat) (C : TimesCut w S T U T3 L V DD c d r) (hc3 : ∀ W, Calls Tryz.prog 26 #[.string L, .string ⟨#[93]⟩] W fun e w' => e = .returned (.tuple #[.string V, .bool true]) ∧ W = w')
    (h : SetAt w B g x) (hBw : B ≤ w.heap.size) (hdl : d ≤ 1000000000) (hrl : r ≤ 1000000000) (hpre : ∀ W, Calls Tryz.prog 31 #[.string DD, .string ⟨#[48]⟩] W fun e w' => e = .returned (.bool false) ∧ W = w') (he : DD.toList.isEmpty = false) (hT : Tabs w) (hnum : ∀ W, Tabs W → Calls Tryz.prog 33 #[.string DD, .int .i64 2147483647] W fun e w' => e = .returned (.tuple #[.int .i64 0, .bool true]) ∧ Below W.heap.size W w') (hrest : 0 ≤ x.rest) :
    Calls Tryz.prog 16 #[.pointer (some ⟨g, 0, none⟩), .string S] w fun e w' => BX B g w w' ∧ e = .returned (.tuple #[.string V, .bool true]) ∧ SetAt w' B g { x with bad := true } := by
  have hBg := h.1
  obtain ⟨k1, k2, k3, k4, k5, k6, k7, k8, k9⟩ := C
  have HH := Lib.hid h
  have HT := Lib.hid hT
  clear h hT
  go_enter Tryz.func16, Tryz.ntmps16
  go_wp2_with (first
    | (go_at_call 26; with_reducible refine (k1 _).mono ?_; rintro e w1 ⟨rfl, rfl⟩)
    | (go_at_call 29; refine (k3 _).mono ?_; rintro e w1 ⟨rfl, k, hk⟩; subst hk)
    | (go_at_call 26; with_reducible refine (k4 _).mono ?_; rintro e w1 ⟨rfl, rfl⟩)
    | (go_at_call 30; refine (k5 _).mono ?_; rintro e w2 ⟨rfl, hb2⟩)
    | (go_at_call 26; with_reducible refine (hc3 _).mono ?_; rintro e w1 ⟨rfl, rfl⟩)
    | (go_at_call 31; refine (hpre _).mono ?_; rintro e w1 ⟨rfl, rfl⟩)
    | (go_at_call 33; refine (hnum _ (HT.out.below ((below_drew w k).trans hb2))).mono ?_; rintro e w3 ⟨rfl, hb3⟩; have hbl : Below w.heap.size w w3 := (below_drew w k).trans (hb2.trans (hb3.mono hb2.size)); obtain ⟨_, v, hblk, hown⟩ := HH.out.below hbl; obtain ⟨A, cp, rfl, _⟩ := own_slice hown; have HB := Lib.hid hblk; have HO := Lib.hid hown; have HBL := Lib.hid (below_le hbl hBw); have hgl := hblk.lt; have q2 : w3.cell? ⟨g, 2, none⟩ = some (.bool x.bad) := hblk.cell 2; have f2 : w3.frozen? ⟨g, 2, none⟩ = false := hblk.frozen 2; have q1 : w3.cell? ⟨g, 1, none⟩ = some (.int .i64 x.rest) := hblk.cell 1; have f1 : w3.frozen? ⟨g, 1, none⟩ = false := hblk.frozen 1; clear hblk hown hbl))
  go_returns
  exact ⟨(bx HBL.out).setG 2 _, rfl, hBg, _, HB.out.set_ 2 _, ownsRow_setCell_other HO.out (own_blk_ne HO.out HB.out (by decide)) _⟩

set_option maxRecDepth 100000 in
set_option maxHeartbeats 4000000 in
theorem times_dec_zero (w : World) (B g : Nat) (x : Pl.TS) (S T U T3 L V DD : ByteArray) (c : UInt8) (d r : Nat) (C : TimesCut w S T U T3 L V DD c d r) (hc3 : ∀ W, Calls Tryz.prog 26 #[.string L, .string ⟨#[93]⟩] W fun e w' => e = .returned (.tuple #[.string V, .bool true]) ∧ W = w')
    (h : SetAt w B g x) (hBw : B ≤ w.heap.size) (ho : x.out.length + 65536 ≤ 140737488355328) (hdl : d ≤ 1000000000) (hrl : r ≤ 1000000000) (hpre : ∀ W, Calls Tryz.prog 31 #[.string DD, .string ⟨#[48]⟩] W fun e w' => e = .returned (.bool false) ∧ W = w') (he : DD.toList.isEmpty = false) (hT : Tabs w) (hnum : ∀ W, Tabs W → Calls Tryz.prog 33 #[.string DD, .int .i64 2147483647] W fun e w' => e = .returned (.tuple #[.int .i64 0, .bool true]) ∧ Below W.heap.size W w') (hrest : x.rest < 0) :
    Calls Tryz.prog 16 #[.pointer (some ⟨g, 0, none⟩), .string S] w fun e w' => BX B g w w' ∧ e = .returned (.tuple #[.string V, .bool true]) ∧ SetAt w' B g { x with out := x.out ++ [c], rest := (x.out.length : Int) } := by
  have hBg := h.1
  obtain ⟨k1, k2, k3, k4, k5, k6, k7, k8, k9⟩ := C
  have HH := Lib.hid h
  have HT := Lib.hid hT
  clear h hT
  go_enter Tryz.func16, Tryz.ntmps16
  go_wp2_with (first
    | (go_at_call 26; with_reducible refine (k1 _).mono ?_; rintro e w1 ⟨rfl, rfl⟩)
    | (go_at_call 29; refine (k3 _).mono ?_; rintro e w1 ⟨rfl, k, hk⟩; subst hk)
    | (go_at_call 26; with_reducible refine (k4 _).mono ?_; rintro e w1 ⟨rfl, rfl⟩)
    | (go_at_call 30; refine (k5 _).mono ?_; rintro e w2 ⟨rfl, hb2⟩)
    | (go_at_call 26; with_reducible refine (hc3 _).mono ?_; rintro e w1 ⟨rfl, rfl⟩)
    | (go_at_call 31; refine (hpre _).mono ?_; rintro e w1 ⟨rfl, rfl⟩)
    | (go_at_call 33; refine (hnum _ (HT.out.below ((below_drew w k).trans hb2))).mono ?_; rintro e w3 ⟨rfl, hb3⟩; have hbl : Below w.heap.size w w3 := (below_drew w k).trans (hb2.trans (hb3.mono hb2.size)); obtain ⟨_, v, hblk, hown⟩ := HH.out.below hbl; obtain ⟨A, cp, rfl, _⟩ := own_slice hown; have HB := Lib.hid hblk; have HO := Lib.hid hown; have HBL := Lib.hid (below_le hbl hBw); have hgl := hblk.lt; have q1 : w3.cell? ⟨g, 1, none⟩ = some (.int .i64 x.rest) := hblk.cell 1; have f1 : w3.frozen? ⟨g, 1, none⟩ = false := hblk.frozen 1; have q0 : w3.cell? ⟨g, 0, none⟩ = some (.slice A x.out.length cp) := hblk.cell 0; clear hblk hown hbl))
  go_loopw [100] (fun kv wr => ∃ j : Nat, j ≤ 1 ∧ kv = .int .i64 j ∧ SetAt wr B g { x with out := x.out ++ List.replicate j c, rest := (x.out.length : Int) } ∧ BX B g w wr) (fun kv _ => 1 - (intOf kv).toNat)
  case atStart => exact ⟨0, by omega, rfl, ⟨hBg, _, HB.out.set_ 1 _, by simpa using ownsRow_setCell_other HO.out (own_blk_ne HO.out HB.out (by decide)) _⟩, (bx HBL.out).setG 1 _⟩
  case round =>
    obtain ⟨j, hj, rfl, ⟨_, v3, hb3', hown3⟩, hbl3⟩ := hrel
    obtain ⟨A3, cp3, rfl, _⟩ := own_slice hown3
    have hszr : B ≤ wr.heap.size := Nat.le_trans hBw hbl3.size
    by_cases hlt : j < 1
    · have hgl3 := hb3'.lt
      obtain ⟨m, hm⟩ : ∃ m, (x.out ++ List.replicate j c).length = m := ⟨_, rfl⟩
      have hml : m ≤ x.out.length + 65535 := by rw [← hm, List.length_append, List.length_replicate]; omega
      simp only [hm] at hown3 hb3'
      have e0 : wr.cell? ⟨g, 0, none⟩ = some (.slice A3 m cp3) := hb3'.cell 0
      have HO3 := Lib.hid hown3
      have HB3 := Lib.hid hb3'
      have HM3 := Lib.hid hm
      have HL3 := Lib.hid hbl3
      clear hown3 hb3' hm hbl3
      go_wp2_with (at_builtin; refine wpList_push rfl _ _ rfl wr B (.slice A3 m cp3) m (x.out ++ List.replicate j c) c rfl HO3.out HM3.out.symm rfl (by omega) (by omega) ?_; intro A2 c2' w5 hown2 hg2 hat2
                   have b2 := Blk.grown (HB3.out.alloc _) hg2 (own_blk_ne HO3.out HB3.out (by decide)).symm
                   have q9 := b2.cell 0; have f9 := b2.frozen 0; have l9 := b2.lt)
      refine ⟨⟨j + 1, by omega, by go_num, ?_, ?_⟩, by simp [intOf]; omega⟩
      · rw [List.replicate_succ', ← List.append_assoc]
        exact SetAt.pushed (x := { x with out := x.out ++ List.replicate j c, rest := (x.out.length : Int) }) hBg rfl rfl b2 (by rw [show (x.out ++ List.replicate j c).length = m from HM3.out]; exact hown2)
      · exact ((HL3.out.alloc (by omega) _).grown hg2 (by simp; omega) (fun i hi => (HO3.out.lt i hi).1)).setG 0 _
    · obtain rfl : j = 1 := by omega
      have HF2 := Lib.hid (show SetAt wr B g { x with out := x.out ++ List.replicate 1 c, rest := (x.out.length : Int) } from ⟨hBg, _, hb3', hown3⟩)
      clear hown3 hb3'
      go_wp2_with fail
      go_returns
      exact ⟨hbl3, rfl, HF2.out⟩

set_option maxRecDepth 100000 in
set_option maxHeartbeats 4000000 in
theorem times_dec_many (w : World) (B g : Nat) (x : Pl.TS) (S T U T3 L V DD : ByteArray) (c : UInt8) (d r : Nat) (N M : Nat) (C : TimesCut w S T U T3 L V DD c d r) (hc3 : ∀ W, Calls Tryz.prog 26 #[.string L, .string ⟨#[93]⟩] W fun e w' => e = .returned (.tuple #[.string V, .bool true]) ∧ W = w')
    (h : SetAt w B g x) (hBw : B ≤ w.heap.size) (ho : x.out.length + 65536 ≤ 140737488355328) (hdl : d ≤ 1000000000) (hrl : r ≤ 1000000000) (hpre : ∀ W, Calls Tryz.prog 31 #[.string DD, .string ⟨#[48]⟩] W fun e w' => e = .returned (.bool false) ∧ W = w') (he : DD.toList.isEmpty = false) (hT : Tabs w) (hnum : ∀ W, Tabs W → Calls Tryz.prog 33 #[.string DD, .int .i64 2147483647] W fun e w' => e = .returned (.tuple #[.int .i64 (N : Int), .bool true]) ∧ Below W.heap.size W w') (hN : 1 ≤ N) (hM : min (N : Int) 65536 = (M : Int)) (hM2 : M ≤ 65536) :
    Calls Tryz.prog 16 #[.pointer (some ⟨g, 0, none⟩), .string S] w fun e w' => BX B g w w' ∧ e = .returned (.tuple #[.string V, .bool true]) ∧ SetAt w' B g { x with out := x.out ++ List.replicate M c } := by
  have hBg := h.1
  obtain ⟨k1, k2, k3, k4, k5, k6, k7, k8, k9⟩ := C
  have HH := Lib.hid h
  have HT := Lib.hid hT
  have hN0 : ((N : Int) == 0) = false := by simp; omega
  clear h hT
  go_enter Tryz.func16, Tryz.ntmps16
  go_wp2_with (first
    | (go_at_call 26; with_reducible refine (k1 _).mono ?_; rintro e w1 ⟨rfl, rfl⟩)
    | (go_at_call 29; refine (k3 _).mono ?_; rintro e w1 ⟨rfl, k, hk⟩; subst hk)
    | (go_at_call 26; with_reducible refine (k4 _).mono ?_; rintro e w1 ⟨rfl, rfl⟩)
    | (go_at_call 30; refine (k5 _).mono ?_; rintro e w2 ⟨rfl, hb2⟩)
    | (go_at_call 26; with_reducible refine (hc3 _).mono ?_; rintro e w1 ⟨rfl, rfl⟩)
    | (go_at_call 31; refine (hpre _).mono ?_; rintro e w1 ⟨rfl, rfl⟩)
    | (go_at_call 33; refine (hnum _ (HT.out.below ((below_drew w k).trans hb2))).mono ?_; rintro e w3 ⟨rfl, hb3⟩; have hbl : Below w.heap.size w w3 := (below_drew w k).trans (hb2.trans (hb3.mono hb2.size)); obtain ⟨_, v, hblk, hown⟩ := HH.out.below hbl; obtain ⟨A, cp, rfl, _⟩ := own_slice hown; have HB := Lib.hid hblk; have HO := Lib.hid hown; have HBL := Lib.hid (below_le hbl hBw); have hgl := hblk.lt; clear hblk hown hbl))
  go_loopw [100] (fun kv wr => ∃ j : Nat, j ≤ M ∧ kv = .int .i64 j ∧ SetAt wr B g { x with out := x.out ++ List.replicate j c, rest := x.rest } ∧ BX B g w wr) (fun kv _ => M - (intOf kv).toNat)
  case atStart => exact ⟨0, by omega, rfl, ⟨hBg, _, HB.out, by simpa using HO.out⟩, bx HBL.out⟩
  case round =>
    obtain ⟨j, hj, rfl, ⟨_, v3, hb3', hown3⟩, hbl3⟩ := hrel
    obtain ⟨A3, cp3, rfl, _⟩ := own_slice hown3
    have hszr : B ≤ wr.heap.size := Nat.le_trans hBw hbl3.size
    by_cases hlt : j < M
    · have hgl3 := hb3'.lt
      obtain ⟨m, hm⟩ : ∃ m, (x.out ++ List.replicate j c).length = m := ⟨_, rfl⟩
      have hml : m ≤ x.out.length + 65535 := by rw [← hm, List.length_append, List.length_replicate]; omega
      simp only [hm] at hown3 hb3'
      have e0 : wr.cell? ⟨g, 0, none⟩ = some (.slice A3 m cp3) := hb3'.cell 0
      have HO3 := Lib.hid hown3
      have HB3 := Lib.hid hb3'
      have HM3 := Lib.hid hm
      have HL3 := Lib.hid hbl3
      clear hown3 hb3' hm hbl3
      go_wp2_with (at_builtin; refine wpList_push rfl _ _ rfl wr B (.slice A3 m cp3) m (x.out ++ List.replicate j c) c rfl HO3.out HM3.out.symm rfl (by omega) (by omega) ?_; intro A2 c2' w5 hown2 hg2 hat2
                   have b2 := Blk.grown (HB3.out.alloc _) hg2 (own_blk_ne HO3.out HB3.out (by decide)).symm
                   have q9 := b2.cell 0; have f9 := b2.frozen 0; have l9 := b2.lt)
      refine ⟨⟨j + 1, by omega, by go_num, ?_, ?_⟩, by simp [intOf]; omega⟩
      · rw [List.replicate_succ', ← List.append_assoc]
        exact SetAt.pushed (x := { x with out := x.out ++ List.replicate j c, rest := x.rest }) hBg rfl rfl b2 (by rw [show (x.out ++ List.replicate j c).length = m from HM3.out]; exact hown2)
      · exact ((HL3.out.alloc (by omega) _).grown hg2 (by simp; omega) (fun i hi => (HO3.out.lt i hi).1)).setG 0 _
    · obtain rfl : j = M := by omega
      have HF2 := Lib.hid (show SetAt wr B g { x with out := x.out ++ List.replicate j c, rest := x.rest } from ⟨hBg, _, hb3', hown3⟩)
      clear hown3 hb3'
      go_wp2_with fail
      go_returns
      exact ⟨hbl3, rfl, HF2.out⟩

end Go.Proofs.YtlhiadnolckoeaaGreatDoor
end

section
namespace Go.Proofs.YtlhiadnolckoeaaGreatDoor
open Go.RowKit Go.Maps

theorem hasPre (s : List UInt8) (b : Bool) (h : Lib.hasPrefix s [48] = b) (w : World) : Calls Tryz.prog 31 #[.string (strB s), .string ⟨#[48]⟩] w fun e w' => e = .returned (.bool b) ∧ w = w' := by
  refine (Tryz.strings_HasPrefix (strB s) ⟨#[48]⟩ w).mono fun e w' ⟨he, hw⟩ => ⟨?_, hw.symm⟩
  rw [he, ← h]
  rfl
theorem kind_of {B g : Nat} {s t : List UInt8} {x y : Pl.TS} {w : World} {e : Ending} {w' : World} (h : BX B g w w' ∧ e = .returned (.tuple #[.string (strB t), .bool true]) ∧ SetAt w' B g y) : KindPost B g s x (some (t, y)) w e w' := h
theorem min_nat (N : Nat) : min (N : Int) 65536 = ((min N 65536 : Nat) : Int) := by omega

theorem times_any (w : World) (B g : Nat) (s : List UInt8) (x : Pl.TS) (h : SetAt w B g x) (hBw : B ≤ w.heap.size) (hs : s.length < 1000000000) (ho : x.out.length + 65536 ≤ 140737488355328) (hT : Tabs w) :
    Calls Tryz.prog 16 #[.pointer (some ⟨g, 0, none⟩), .string (strB s)] w (KindPost B g s x (Pl.timesS s x) w) := by
  unfold Pl.timesS
  by_cases hn : Lib.hasPrefix s [91] = true ∧ s.drop 1 ≠ [] ∧ Lib.hasPrefix (s.drop (1 + Pl.signN (s.drop 1))) [42] = true ∧ Lib.hasPrefix (s.drop (2 + Pl.signN (s.drop 1) + (Pl.timesD s).length)) [93] = true
  · rw [if_pos hn]
    obtain ⟨h1, h2, h3, h4⟩ := hn
    have C := timesCut w s hs h1 h2 h3
    have hc3 : ∀ W, Calls Tryz.prog 26 #[.string (strB (s.drop (2 + Pl.signN (s.drop 1) + (Pl.timesD s).length))), .string ⟨#[93]⟩] W fun e w' => e = .returned (.tuple #[.string (strB (s.drop (3 + Pl.signN (s.drop 1) + (Pl.timesD s).length))), .bool true]) ∧ W = w' := fun W => by
      have := cutPre_yes _ ⟨#[93]⟩ h4 W
      rwa [show (⟨#[93]⟩ : ByteArray).size = 1 from rfl, List.drop_drop, show 2 + Pl.signN (s.drop 1) + (Pl.timesD s).length + 1 = 3 + Pl.signN (s.drop 1) + (Pl.timesD s).length by omega] at this
    obtain ⟨e1, e2, _⟩ := Pl.times_parts s
    have hl := congrArg List.length e1
    rw [List.length_append] at hl
    have hl2 : (s.drop (2 + Pl.signN (s.drop 1))).length ≤ s.length := by rw [List.length_drop]; omega
    have hdl : (Pl.timesD s).length ≤ 1000000000 := by omega
    have hrl : (s.drop (2 + Pl.signN (s.drop 1) + (Pl.timesD s).length)).length ≤ 1000000000 := by omega
    have hdz : (strB (Pl.timesD s)).size ≤ 140737488351232 := by rw [strB_size]; omega
    unfold Pl.timesX Pl.timesV
    by_cases h0 : Pl.timesD s = []
    · have hpre := hasPre (Pl.timesD s) false (by rw [h0]; rfl)
      have he := strB_empty h0
      simp only [if_pos h0]
      by_cases hr : 0 ≤ x.rest
      · rw [if_pos hr]
        exact (times_nil_zbad w B g x _ _ _ _ _ _ _ _ _ _ C hc3 h hBw hdl hrl hpre he hr).mono fun _ _ k => kind_of k
      · rw [if_neg hr]
        exact (times_nil_zero w B g x _ _ _ _ _ _ _ _ _ _ C hc3 h hBw ho hdl hrl hpre he (by omega)).mono fun _ _ k => kind_of k
    · simp only [if_neg h0]
      by_cases h8 : (Pl.timesD s).head? = some 48
      · simp only [if_pos h8]
        have hpre := hasPre (Pl.timesD s) true (by rw [Pl.hasPrefix1, ← List.head?_eq_getElem?, h8]; rfl)
        have hnum := fun W hW => text8_any (strB (Pl.timesD s)) 2147483647 W hdz (by omega) hW
        rw [strB_data] at hnum
        by_cases hv : Pl.allDig 8 (Pl.timesD s) = true ∧ Pl.val 8 (Pl.timesD s) ≤ 2147483647
        · simp only [if_pos hv]
          rw [numRes_yes h0 hv.1 (by omega)] at hnum
          cases hV : Pl.val 8 (Pl.timesD s) with
          | zero =>
            rw [hV] at hnum
            by_cases hr : 0 ≤ x.rest
            · simp only [if_pos hr]
              exact (times_oct_zbad w B g x _ _ _ _ _ _ _ _ _ _ C hc3 h hBw hdl hrl hpre hT hnum hr).mono fun _ _ k => kind_of k
            · simp only [if_neg hr]
              exact (times_oct_zero w B g x _ _ _ _ _ _ _ _ _ _ C hc3 h hBw ho hdl hrl hpre hT hnum (by omega)).mono fun _ _ k => kind_of k
          | succ N =>
            rw [hV] at hnum
            exact (times_oct_many w B g x _ _ _ _ _ _ _ _ _ _ (N + 1) (min (N + 1) 65536) C hc3 h hBw ho hdl hrl hpre hT hnum (by omega) (min_nat _) (Nat.min_le_right _ _)).mono fun _ _ k => kind_of k
        · simp only [if_neg hv]
          rw [numRes_no (by
            cases hA : Pl.allDig 8 (Pl.timesD s) with
            | false => exact .inr (.inl rfl)
            | true => exact .inr (.inr (by have : ¬ Pl.val 8 (Pl.timesD s) ≤ 2147483647 := fun k => hv ⟨hA, k⟩; omega)))] at hnum
          exact (times_oct_bad w B g x _ _ _ _ _ _ _ _ _ _ C hc3 h hBw hdl hrl hpre hT hnum).mono fun _ _ k => kind_of k
      · simp only [if_neg h8]
        have hpre := hasPre (Pl.timesD s) false (by
          rw [Pl.hasPrefix1, ← List.head?_eq_getElem?]
          exact beq_eq_false_iff_ne.2 h8)
        have he := strB_some h0
        have hall : Pl.allDig 10 (Pl.timesD s) = true := List.all_eq_true.2 e2
        have hnum := fun W hW => text10_any (strB (Pl.timesD s)) 2147483647 W hdz (by omega) hW
        rw [strB_data] at hnum
        by_cases hv : Pl.val 10 (Pl.timesD s) ≤ 2147483647
        · simp only [if_pos hv]
          rw [numRes_yes h0 hall (by omega)] at hnum
          cases hV : Pl.val 10 (Pl.timesD s) with
          | zero =>
            rw [hV] at hnum
            by_cases hr : 0 ≤ x.rest
            · simp only [if_pos hr]
              exact (times_dec_zbad w B g x _ _ _ _ _ _ _ _ _ _ C hc3 h hBw hdl hrl hpre he hT hnum hr).mono fun _ _ k => kind_of k
            · simp only [if_neg hr]
              exact (times_dec_zero w B g x _ _ _ _ _ _ _ _ _ _ C hc3 h hBw ho hdl hrl hpre he hT hnum (by omega)).mono fun _ _ k => kind_of k
          | succ N =>
            rw [hV] at hnum
            exact (times_dec_many w B g x _ _ _ _ _ _ _ _ _ _ (N + 1) (min (N + 1) 65536) C hc3 h hBw ho hdl hrl hpre he hT hnum (by omega) (min_nat _) (Nat.min_le_right _ _)).mono fun _ _ k => kind_of k
        · simp only [if_neg hv]
          rw [numRes_no (.inr (.inr (by omega)))] at hnum
          exact (times_dec_bad w B g x _ _ _ _ _ _ _ _ _ _ C hc3 h hBw hdl hrl hpre he hT hnum).mono fun _ _ k => kind_of k
  · rw [if_neg hn]
    exact times_miss w B g s x h hBw hs hn

end Go.Proofs.YtlhiadnolckoeaaGreatDoor
end

section
namespace Go.Proofs.YtlhiadnolckoeaaGreatDoor
open Go.RowKit Go.Maps

namespace Pl
def preS (C k : Nat) : List UInt8 := ((List.range k).drop C).map UInt8.ofNat
theorem preS_nil {C k : Nat} (h : k ≤ C) : preS C k = [] := by
  unfold preS
  rw [List.drop_eq_nil_of_le (by simpa using h)]
  rfl
theorem preS_succ {C k : Nat} (h : C ≤ k) : preS C (k + 1) = preS C k ++ [UInt8.ofNat k] := by
  unfold preS
  rw [List.range_succ, List.drop_append_of_le_length (by simpa using h)]
  simp
theorem span_pre (c d : UInt8) : span c d = preS c.toNat (d.toNat + 1) := rfl
theorem preS_len {C k : Nat} (h : k ≤ 256) : (preS C k).length ≤ 256 := by simp [preS]; omega
end Pl

/-- what the last kind comes to -/
def PlainPost (B g : Nat) (r : List UInt8 × Pl.TS) (w : World) (e : Ending) (w' : World) : Prop := BX B g w w' ∧ e = .returned (.string (strB r.1)) ∧ SetAt w' B g r.2

set_option maxRecDepth 100000 in
set_option maxHeartbeats 2000000 in
theorem plain_one (w : World) (B g : Nat) (s : List UInt8) (x : Pl.TS) (h : SetAt w B g x) (hBw : B ≤ w.heap.size) (h0 : s ≠ []) (hs : s.length < 1000000000) (ho : x.out.length + 65536 ≤ 140737488355328)
    (hn : ¬ (Lib.hasPrefix (s.drop (Pl.signN s)) [45] = true ∧ s.drop (Pl.signN s + 1) ≠ [])) :
    Calls Tryz.prog 17 #[.pointer (some ⟨g, 0, none⟩), .string (strB s)] w (PlainPost B g (Pl.plainS s x) w) := by
  have hr : Pl.plainS s x = (s.drop (Pl.signN s), { x with out := x.out ++ [Pl.signC s] }) := if_neg hn
  rw [hr]
  have hsg := sign_any s h0 hs
  obtain ⟨U, hU⟩ : ∃ U, strB (s.drop (Pl.signN s)) = U := ⟨_, rfl⟩
  obtain ⟨c, hc⟩ : ∃ c, Pl.signC s = c := ⟨_, rfl⟩
  have hcut : (∀ W, Calls Tryz.prog 26 #[.string U, .string ⟨#[45]⟩] W fun e w' => e = .returned (.tuple #[.string U, .bool false]) ∧ W = w') ∨
      ∃ V, V.toList.isEmpty = true ∧ (∀ W, Calls Tryz.prog 26 #[.string U, .string ⟨#[45]⟩] W fun e w' => e = .returned (.tuple #[.string V, .bool true]) ∧ W = w') := by
    rw [← hU]
    by_cases h1 : Lib.hasPrefix (s.drop (Pl.signN s)) [45] = true
    · refine .inr ⟨strB (s.drop (Pl.signN s + 1)), strB_empty (Classical.byContradiction fun k => hn ⟨h1, k⟩), fun W => ?_⟩
      have := cutPre_yes _ ⟨#[45]⟩ h1 W
      rwa [show (⟨#[45]⟩ : ByteArray).size = 1 from rfl, List.drop_drop] at this
    · exact .inl fun W => cutPre_no _ ⟨#[45]⟩ (Bool.eq_false_iff.2 h1) W
  simp only [hU, hc] at hsg ⊢
  obtain ⟨hBg, v, hblk, hown⟩ := h
  obtain ⟨A, cp, rfl, _⟩ := own_slice hown
  have hgl := hblk.lt
  obtain ⟨n, hn'⟩ : ∃ n, x.out.length = n := ⟨_, rfl⟩
  rw [hn'] at hown ho hblk
  have HOWN := Lib.hid hown
  have HBLK := Lib.hid hblk
  have HN := Lib.hid hn'
  have c0 : w.cell? ⟨g, 0, none⟩ = some (.slice A n cp) := hblk.cell 0
  have HU := Lib.hid hU
  clear h0 hr hc hown hblk hn hn' hU
  rcases hcut with hc1 | ⟨V, hV, hc1⟩
  all_goals
    go_enter Tryz.func17, Tryz.ntmps17
    go_wp2_with (first
      | (go_at_call 29; refine (hsg _).mono ?_; rintro e w1 ⟨rfl, k, hk⟩; subst hk)
      | (go_at_call 26; with_reducible refine (hc1 _).mono ?_; rintro e w1 ⟨rfl, rfl⟩)
      | (at_builtin; refine wpList_push rfl _ _ rfl (w.drewN k) B (.slice A n cp) n x.out c rfl HOWN.out HN.out.symm rfl (by show B ≤ w.heap.size; omega) (by omega) ?_; intro A2 c2 w2 hown2 hg2 hat2
         have b2 := Blk.grown ((HBLK.out.drewN k).alloc _) hg2 (own_blk_ne HOWN.out HBLK.out (by decide)).symm
         have q2 := b2.cell 0; have f2 := b2.frozen 0; have l2 := b2.lt))
    go_returns
    have hb0 : Below B w ((w.drewN k).alloc (.cells #[.int .u8 (c.toNat : Int)] 5)) := (below_drew w k).alloc (by show B ≤ w.heap.size; omega) _
    have hb1 := hb0.grown hg2 (by simp; omega) (fun j hj => (HOWN.out.lt j hj).1)
    exact ⟨(bx hb1).setG 0 _, by rw [HU.out]; rfl, SetAt.pushed hBg rfl rfl b2 (by rw [HN.out]; exact hown2)⟩

set_option maxRecDepth 100000 in
set_option maxHeartbeats 2000000 in
theorem plain_span (w : World) (B g : Nat) (s : List UInt8) (x : Pl.TS) (h : SetAt w B g x) (hBw : B ≤ w.heap.size) (h0 : s ≠ []) (hs : s.length < 1000000000) (ho : x.out.length + 65536 ≤ 140737488355328)
    (hn : Lib.hasPrefix (s.drop (Pl.signN s)) [45] = true ∧ s.drop (Pl.signN s + 1) ≠ []) :
    Calls Tryz.prog 17 #[.pointer (some ⟨g, 0, none⟩), .string (strB s)] w (PlainPost B g (Pl.plainS s x) w) := by
  have hr : Pl.plainS s x = (s.drop (Pl.signN s + 1 + Pl.signN (s.drop (Pl.signN s + 1))), { x with out := x.out ++ Pl.span (Pl.signC s) (Pl.signC (s.drop (Pl.signN s + 1))), bad := x.bad || decide ((Pl.signC (s.drop (Pl.signN s + 1))).toNat < (Pl.signC s).toNat) }) := if_pos hn
  rw [hr]
  have hsg := sign_any s h0 hs
  have hsg2 := sign_any (s.drop (Pl.signN s + 1)) hn.2 (by rw [List.length_drop]; omega)
  have he := strB_some hn.2
  have hc1 : ∀ W, Calls Tryz.prog 26 #[.string (strB (s.drop (Pl.signN s))), .string ⟨#[45]⟩] W fun e w' => e = .returned (.tuple #[.string (strB (s.drop (Pl.signN s + 1))), .bool true]) ∧ W = w' := fun W => by
    have := cutPre_yes _ ⟨#[45]⟩ hn.1 W
    rwa [show (⟨#[45]⟩ : ByteArray).size = 1 from rfl, List.drop_drop] at this
  rw [List.drop_drop] at hsg2
  obtain ⟨S, hS⟩ : ∃ S, strB s = S := ⟨_, rfl⟩
  obtain ⟨U, hU⟩ : ∃ U, strB (s.drop (Pl.signN s)) = U := ⟨_, rfl⟩
  obtain ⟨V, hV⟩ : ∃ V, strB (s.drop (Pl.signN s + 1)) = V := ⟨_, rfl⟩
  obtain ⟨Y, hY⟩ : ∃ Y, strB (s.drop (Pl.signN s + 1 + Pl.signN (s.drop (Pl.signN s + 1)))) = Y := ⟨_, rfl⟩
  obtain ⟨c, hc⟩ : ∃ c, Pl.signC s = c := ⟨_, rfl⟩
  obtain ⟨d, hd⟩ : ∃ d, Pl.signC (s.drop (Pl.signN s + 1)) = d := ⟨_, rfl⟩
  simp only [hS, hU, hV, hc, hd, hY] at hsg hsg2 hc1 he ⊢
  obtain ⟨hBg, v, hblk, hown⟩ := h
  have c2 : w.cell? ⟨g, 2, none⟩ = some (.bool x.bad) := hblk.cell 2
  have f2 : w.frozen? ⟨g, 2, none⟩ = false := hblk.frozen 2
  have hgl := hblk.lt
  have hcl := c.toNat_lt
  have hdl := d.toNat_lt
  obtain ⟨C, hC⟩ : ∃ C, c.toNat = C := ⟨_, rfl⟩
  obtain ⟨D, hD⟩ : ∃ D, d.toNat = D := ⟨_, rfl⟩
  have HSP := Lib.hid (Pl.span_pre c d)
  rw [hC, hD] at HSP
  simp only [hC, hD] at hsg hsg2 hcl hdl ⊢
  have HY := Lib.hid hY
  have HOWN := Lib.hid hown
  have HBLK := Lib.hid hblk
  have HS : ∀ b', Hid (SetAt (w.setCell ⟨g, 2, none⟩ (.bool b')) B g { x with out := x.out ++ Pl.preS C C, bad := b' }) := fun b' => Lib.hid (by
    rw [Pl.preS_nil (Nat.le_refl _), List.append_nil]
    exact ⟨hBg, v, hblk.set_ 2 _, ownsRow_setCell_other hown (own_blk_ne hown hblk (by decide)) _⟩)
  have h8 : ∀ j, j < 256 → ((UInt8.ofNat j).toNat : Int) = (j : Int) := fun j hj => by rw [UInt8.toNat_ofNat', Nat.mod_eq_of_lt hj]
  obtain ⟨bd, hbd⟩ : ∃ bd, x.bad = bd := ⟨_, rfl⟩
  rw [hbd] at c2 ⊢
  have hcase : bd = true ∨ (bd = false ∧ D < C) ∨ (bd = false ∧ ¬ D < C) := by
    cases bd
    · by_cases hDC : D < C
      · exact .inr (.inl ⟨rfl, hDC⟩)
      · exact .inr (.inr ⟨rfl, hDC⟩)
    · exact .inl rfl
  clear h0 hr hc hd hn hU hV hY hS hown hblk hC hD hbd
  rcases hcase with rfl | ⟨rfl, hDC⟩ | ⟨rfl, hDC⟩
  · simp only [Bool.true_or]
    have HSB := HS true
    clear HS
    go_enter Tryz.func17, Tryz.ntmps17
    go_wp2_with (first
      | (go_at_call 29; with_reducible refine (hsg _).mono ?_; rintro e w1 ⟨rfl, k, hk⟩; subst hk)
      | (go_at_call 26; with_reducible refine (hc1 _).mono ?_; rintro e w1 ⟨rfl, rfl⟩)
      | (go_at_call 29; with_reducible refine (hsg2 _).mono ?_; rintro e w1 ⟨rfl, k2, hk2⟩; subst hk2))
    go_loopw [9] (fun kv wr => ∃ j : Nat, C ≤ j ∧ (j ≤ D + 1 ∨ j = C) ∧ kv = .int .i64 j ∧ SetAt wr B g { x with out := x.out ++ Pl.preS C j, bad := true } ∧ BX B g w wr) (fun kv _ => D + 1 - (intOf kv).toNat)
    case atStart => exact ⟨C, Nat.le_refl _, .inr rfl, rfl, HSB.out, (bx (below_drew w (k + k2))).setG 2 _⟩
    case round =>
      obtain ⟨j, hCj, hj, rfl, ⟨_, v3, hb3, hown3⟩, hbl⟩ := hrel
      obtain ⟨A, cp, rfl, _⟩ := own_slice hown3
      have hszr : B ≤ wr.heap.size := Nat.le_trans hBw hbl.size
      have hpl := Pl.preS_len (C := C) (k := j) (by omega)
      by_cases hlt : j ≤ D
      · have h8j := h8 j (by omega)
        have hgl3 := hb3.lt
        obtain ⟨m, hm⟩ : ∃ m, (x.out ++ Pl.preS C j).length = m := ⟨_, rfl⟩
        have hml : m ≤ x.out.length + 256 := by rw [← hm, List.length_append]; omega
        simp only [hm] at hown3 hb3
        have e0 : wr.cell? ⟨g, 0, none⟩ = some (.slice A m cp) := hb3.cell 0
        have HO := Lib.hid hown3
        have HB := Lib.hid hb3
        have HM := Lib.hid hm
        have HL := Lib.hid hbl
        have HP := Lib.hid (Pl.preS_succ hCj)
        clear hown3 hb3 hm hbl hpl
        go_wp2_with (at_builtin; refine wpList_pushI rfl _ _ rfl wr B (.slice A m cp) m (x.out ++ Pl.preS C j) (UInt8.ofNat j) _ h8j rfl HO.out HM.out.symm rfl (by omega) (by omega) ?_; intro A2 c2' w2 hown2 hg2 hat2
                     have b2 := Blk.grown (HB.out.alloc _) hg2 (own_blk_ne HO.out HB.out (by decide)).symm
                     have q2 := b2.cell 0; have f2' := b2.frozen 0; have l2 := b2.lt)
        refine ⟨⟨j + 1, by omega, .inl (by omega), by go_num, ?_, ?_⟩, by simp [intOf]; omega⟩
        · rw [HP.out, ← List.append_assoc]
          exact SetAt.pushed (x := { x with out := x.out ++ Pl.preS C j, bad := true }) hBg rfl rfl b2 (by rw [show (x.out ++ Pl.preS C j).length = m from HM.out]; exact hown2)
        · exact ((HL.out.alloc (by omega) _).grown hg2 (by simp; omega) (fun i hi => (HO.out.lt i hi).1)).setG 0 _
      · have hsp : Pl.preS C j = Pl.span c d := by
          rw [HSP.out]
          rcases hj with hj | rfl
          · rw [show j = D + 1 by omega]
          · rw [Pl.preS_nil (Nat.le_refl _), Pl.preS_nil (by omega)]
        have HF := Lib.hid (show SetAt wr B g { x with out := x.out ++ Pl.span c d, bad := true } from ⟨hBg, _, hb3, by rw [← hsp]; exact hown3⟩)
        clear hown3 hb3 hpl hsp
        go_wp2_with fail
        go_returns
        exact ⟨hbl, by rw [HY.out]; rfl, HF.out⟩
  · simp only [Bool.false_or, decide_eq_true hDC]
    have HSB := HS true
    clear HS
    go_enter Tryz.func17, Tryz.ntmps17
    go_wp2_with (first
      | (go_at_call 29; with_reducible refine (hsg _).mono ?_; rintro e w1 ⟨rfl, k, hk⟩; subst hk)
      | (go_at_call 26; with_reducible refine (hc1 _).mono ?_; rintro e w1 ⟨rfl, rfl⟩)
      | (go_at_call 29; with_reducible refine (hsg2 _).mono ?_; rintro e w1 ⟨rfl, k2, hk2⟩; subst hk2))
    go_loopw [9] (fun kv wr => ∃ j : Nat, C ≤ j ∧ (j ≤ D + 1 ∨ j = C) ∧ kv = .int .i64 j ∧ SetAt wr B g { x with out := x.out ++ Pl.preS C j, bad := true } ∧ BX B g w wr) (fun kv _ => D + 1 - (intOf kv).toNat)
    case atStart => exact ⟨C, Nat.le_refl _, .inr rfl, rfl, HSB.out, (bx (below_drew w (k + k2))).setG 2 _⟩
    case round =>
      obtain ⟨j, hCj, hj, rfl, ⟨_, v3, hb3, hown3⟩, hbl⟩ := hrel
      obtain ⟨A, cp, rfl, _⟩ := own_slice hown3
      have hszr : B ≤ wr.heap.size := Nat.le_trans hBw hbl.size
      have hpl := Pl.preS_len (C := C) (k := j) (by omega)
      by_cases hlt : j ≤ D
      · exact absurd hlt (by omega)
      · have hsp : Pl.preS C j = Pl.span c d := by
          rw [HSP.out]
          rcases hj with hj | rfl
          · rw [show j = D + 1 by omega]
          · rw [Pl.preS_nil (Nat.le_refl _), Pl.preS_nil (by omega)]
        have HF := Lib.hid (show SetAt wr B g { x with out := x.out ++ Pl.span c d, bad := true } from ⟨hBg, _, hb3, by rw [← hsp]; exact hown3⟩)
        clear hown3 hb3 hpl hsp
        go_wp2_with fail
        go_returns
        exact ⟨hbl, by rw [HY.out]; rfl, HF.out⟩
  · simp only [Bool.false_or, decide_eq_false hDC]
    have HSB := HS false
    clear HS
    go_enter Tryz.func17, Tryz.ntmps17
    go_wp2_with (first
      | (go_at_call 29; with_reducible refine (hsg _).mono ?_; rintro e w1 ⟨rfl, k, hk⟩; subst hk)
      | (go_at_call 26; with_reducible refine (hc1 _).mono ?_; rintro e w1 ⟨rfl, rfl⟩)
      | (go_at_call 29; with_reducible refine (hsg2 _).mono ?_; rintro e w1 ⟨rfl, k2, hk2⟩; subst hk2))
    go_loopw [9] (fun kv wr => ∃ j : Nat, C ≤ j ∧ (j ≤ D + 1 ∨ j = C) ∧ kv = .int .i64 j ∧ SetAt wr B g { x with out := x.out ++ Pl.preS C j, bad := false } ∧ BX B g w wr) (fun kv _ => D + 1 - (intOf kv).toNat)
    case atStart => exact ⟨C, Nat.le_refl _, .inr rfl, rfl, HSB.out, (bx (below_drew w (k + k2))).setG 2 _⟩
    case round =>
      obtain ⟨j, hCj, hj, rfl, ⟨_, v3, hb3, hown3⟩, hbl⟩ := hrel
      obtain ⟨A, cp, rfl, _⟩ := own_slice hown3
      have hszr : B ≤ wr.heap.size := Nat.le_trans hBw hbl.size
      have hpl := Pl.preS_len (C := C) (k := j) (by omega)
      by_cases hlt : j ≤ D
      · have h8j := h8 j (by omega)
        have hgl3 := hb3.lt
        obtain ⟨m, hm⟩ : ∃ m, (x.out ++ Pl.preS C j).length = m := ⟨_, rfl⟩
        have hml : m ≤ x.out.length + 256 := by rw [← hm, List.length_append]; omega
        simp only [hm] at hown3 hb3
        have e0 : wr.cell? ⟨g, 0, none⟩ = some (.slice A m cp) := hb3.cell 0
        have HO := Lib.hid hown3
        have HB := Lib.hid hb3
        have HM := Lib.hid hm
        have HL := Lib.hid hbl
        have HP := Lib.hid (Pl.preS_succ hCj)
        clear hown3 hb3 hm hbl hpl
        go_wp2_with (at_builtin; refine wpList_pushI rfl _ _ rfl wr B (.slice A m cp) m (x.out ++ Pl.preS C j) (UInt8.ofNat j) _ h8j rfl HO.out HM.out.symm rfl (by omega) (by omega) ?_; intro A2 c2' w2 hown2 hg2 hat2
                     have b2 := Blk.grown (HB.out.alloc _) hg2 (own_blk_ne HO.out HB.out (by decide)).symm
                     have q2 := b2.cell 0; have f2' := b2.frozen 0; have l2 := b2.lt)
        refine ⟨⟨j + 1, by omega, .inl (by omega), by go_num, ?_, ?_⟩, by simp [intOf]; omega⟩
        · rw [HP.out, ← List.append_assoc]
          exact SetAt.pushed (x := { x with out := x.out ++ Pl.preS C j, bad := false }) hBg rfl rfl b2 (by rw [show (x.out ++ Pl.preS C j).length = m from HM.out]; exact hown2)
        · exact ((HL.out.alloc (by omega) _).grown hg2 (by simp; omega) (fun i hi => (HO.out.lt i hi).1)).setG 0 _
      · have hsp : Pl.preS C j = Pl.span c d := by
          rw [HSP.out]
          rcases hj with hj | rfl
          · rw [show j = D + 1 by omega]
          · rw [Pl.preS_nil (Nat.le_refl _), Pl.preS_nil (by omega)]
        have HF := Lib.hid (show SetAt wr B g { x with out := x.out ++ Pl.span c d, bad := false } from ⟨hBg, _, hb3, by rw [← hsp]; exact hown3⟩)
        clear hown3 hb3 hpl hsp
        go_wp2_with fail
        go_returns
        exact ⟨hbl, by rw [HY.out]; rfl, HF.out⟩

theorem plain_any (w : World) (B g : Nat) (s : List UInt8) (x : Pl.TS) (h : SetAt w B g x) (hBw : B ≤ w.heap.size) (h0 : s ≠ []) (hs : s.length < 1000000000) (ho : x.out.length + 65536 ≤ 140737488355328) :
    Calls Tryz.prog 17 #[.pointer (some ⟨g, 0, none⟩), .string (strB s)] w (PlainPost B g (Pl.plainS s x) w) := by
  by_cases hn : Lib.hasPrefix (s.drop (Pl.signN s)) [45] = true ∧ s.drop (Pl.signN s + 1) ≠ []
  · exact plain_span w B g s x h hBw h0 hs ho hn
  · exact plain_one w B g s x h hBw h0 hs ho hn

end Go.Proofs.YtlhiadnolckoeaaGreatDoor
end
