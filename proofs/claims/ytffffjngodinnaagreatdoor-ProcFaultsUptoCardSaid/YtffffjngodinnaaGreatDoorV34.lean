/-
  Parts of the proof: A walk over RunActs of a job of no nodes, of any faults; A walk over RunActs of a job that may not be.
-/
import Derived.Test.YtffffjngodinnaaGreatDoorV24
import Derived.Test.YtffffjngodinnaaGreatDoorV33

section
namespace Go.Proofs.YtffffjngodinnaaGreatDoor
open Go.RowKit Go.Maps Go.Shelf

set_option maxRecDepth 100000 in
set_option maxHeartbeats 1000000 in
theorem go_top (w : World) (p : Nat) (J : PS) (h : ProcOf w p J) (ht : J.top = true) (id : FuncId) (caps : Array Value) :
    Calls Tryz.prog 39 #[.pointer (some ⟨p, 0, none⟩), .func (.func id) #[] caps] w fun e w' => e = .returned (.pointer (some ⟨w.heap.size, 0, none⟩)) ∧ MachAt w' w.heap.size p (.func (.func id) #[] caps) false 0 ∧ Below w.heap.size w w' := by
  have hb := h.blk
  have c13 : w.cell? ⟨p, 13, none⟩ = some (.bool true) := by rw [hb.cell 13]; simp [procCells, ht]
  have lp := hb.lt
  have km := Blk.new w 92 #[.pointer (some ⟨p, 0, none⟩), .func (.func id) #[] caps, .bool false, .int .i64 0]
  have bm := below_one w (.cells #[.pointer (some ⟨p, 0, none⟩), .func (.func id) #[] caps, .bool false, .int .i64 0] 92)
  have KM := Lib.hid km
  have BM := Lib.hid bm
  clear hb h km bm
  go_enter Tryz.func39, Tryz.ntmps39
  go_wp2_with fail
  go_returns
  exact ⟨rfl, KM.out, BM.out⟩

/-- what comes of a job of acts -/
def ActsPost (l : List ActIt) (fl : List (Int × Int)) (inb : List UInt8) (n : Int) (F : Flow) : Prop := PF.acts fl (Flow.first inb (.slice none 0 0)).pl l = (F.pl, n)

set_option maxRecDepth 100000 in
set_option maxHeartbeats 2000000 in
theorem start_acts (w : World) (args : List ByteArray) (inb : List UInt8) (buf line run : Int) (fl : List (Int × Int)) (A : Option Addr) (c : Nat) (l : List ActIt) (hr : Reads w w.heap.size 3 A l.length (actsC l)) (hlen : l.length ≤ 2097152) (hB : ∀ a ∈ l, Bytes w w.heap.size (.slice a.A a.bs.length a.c) a.bs ∧ a.bs.length ≤ 140737488355328)
    (hk : ∀ a ∈ l, -9223372036854775808 ≤ a.k ∧ a.k ≤ 9223372036854775807) (hfit : (Flow.first inb (.slice none 0 0)).pl.FitsAll fl l) (bl : Nat) (hbl : Blk w bl 31 #[.slice A l.length c]) :
    StartDoes w args inb buf line run fl 12 #[.pointer (some ⟨bl, 0, none⟩)] (ActsPost l fl inb) := by
  intro W X sv hbW hX hfl _ _ _ _ hfoot
  have c0 : W.cell? ⟨bl, 0, none⟩ = some (.slice A l.length c) := (Blk.on hbl hbW).cell 0
  have hnew := acts_new W X.p A c l ((hr.below hbW).more hbW.size) hlen (fun a ha => ⟨((hB a ha).1.below hbW).more hbW.size, (hB a ha).2⟩)
    (fun m w' => ∃ caps, MachAt w' m X.p (.func (.func 40) #[] caps) false 0 ∧ W.heap.size ≤ m ∧ Below W.heap.size W w' ∧ MainDoes w' X (Flow.first inb sv) 40 caps (ActsPost l fl inb)) (by
      intro W2 b2 k2 l2 hb2 hs2 hin2
      have hX2 := hX.below hb2
      refine (go_top W2 X.p _ hX2.proc hX2.top _ _).mono ?_
      rintro e w3 ⟨rfl, hm3, hb3⟩
      refine ⟨_, rfl, _, hm3, hb2.size, below_step hb2 hb3 (Nat.le_refl _), ?_⟩
      intro W4 hT4 hJ4
      have hpl : X.p < W.heap.size := hX.proc.blk.lt
      have hkeep : KeptFrom W.heap.size W2 W4 := ⟨Nat.le_trans hb3.size hT4.size, fun g h1 h2 => (hT4.block g (Nat.lt_of_lt_of_le h2 hb3.size) (by rw [List.mem_singleton]; omega)).trans (hb3.block g h2)⟩
      have hst := PF.acts_strip fl l2 l (Flow.first inb sv).pl hs2
      have hst2 := PF.acts_strip fl l l2 (Flow.first inb sv).pl hs2.symm
      have hll : l2.length = l.length := by have := congrArg List.length hs2; simpa using this
      refine (acts_main W4 X (Flow.first inb sv) hJ4 W.heap.size b2 k2 l2 (hin2.keep hkeep) ?_ (by rw [hfl]; exact hst2.2 hfit) ?_ (by rw [hll]; exact hlen)).mono ?_
      · intro g h1 h2 hm
        have := hX.foot_lt g hm
        omega
      · intro a ha
        obtain ⟨j, hj⟩ := List.getElem?_of_mem ha
        have h1 : (l2.map ActIt.strip)[j]? = some a.strip := by rw [List.getElem?_map, hj]; rfl
        rw [hs2, List.getElem?_map, Option.map_eq_some_iff] at h1
        obtain ⟨b, hb, hbs⟩ := h1
        have h2 := hk b (List.mem_of_getElem? hb)
        have h3 : b.k = a.k := congrArg Prod.fst hbs
        rw [h3] at h2
        exact h2
      · rintro e w5 ⟨rfl, F', hF', hJ5, hW5⟩
        refine ⟨_, F', rfl, hJ5, hW5, ?_⟩
        show PF.acts fl (Flow.first inb sv).pl l = (F'.pl, _)
        rw [← hst.1, hF', hfl])
  obtain ⟨n, hn⟩ : ∃ n, l.length = n := ⟨_, rfl⟩
  rw [hn] at c0 hnew
  have HN := Lib.hid hnew
  clear hnew hr hB hbl hX hfoot hn
  go_enter Tryz.func12, Tryz.ntmps12
  go_wp2_with (go_at_call 13; refine HN.out.mono ?_; rintro e w1 ⟨m, rfl, caps, hm1, hle, hb1, hmain⟩)
  go_returns
  exact ⟨m, 40, caps, rfl, hm1, hle, hb1, enters_of Tryz.func40 (by kernel_rfl) rfl, hmain⟩

set_option maxRecDepth 100000 in
set_option maxHeartbeats 2000000 in
theorem runActs_any (w : World) (A : Option Addr) (c n : Nat) (args : List ByteArray) (hr : Reads w w.heap.size 1 A n (strsC args)) (hn : args.length = n) (h1 : 1 ≤ n) (hn2 : n ≤ 2097152) (IA : Option Addr) (ic m : Nat) (inb : List UInt8) (hm : inb.length = m) (hiv : Bytes w w.heap.size (.slice IA m ic) inb) (hib : m ≤ 140737488355328)
    (buf line run : Int) (hlm : LimOk buf line run) (FA : Option Addr) (fc fn : Nat) (fl : List (Int × Int)) (hfn : fl.length = fn) (hfv : Faults w (.slice FA fn fc) fl) (hfl : fn ≤ 8796093022208)
    (LA : Option Addr) (lc ln : Nat) (l : List ActIt) (hln : l.length = ln) (hlr : Reads w w.heap.size 3 LA ln (actsC l)) (hlen : ln ≤ 2097152) (hB : ∀ a ∈ l, Bytes w w.heap.size (.slice a.A a.bs.length a.c) a.bs ∧ a.bs.length ≤ 140737488355328)
    (hk : ∀ a ∈ l, -9223372036854775808 ≤ a.k ∧ a.k ≤ 9223372036854775807) (hfit : (Flow.first inb (.slice none 0 0)).pl.FitsAll fl l) (S : PF) (st : Int) (hS : PF.acts fl (Flow.first inb (.slice none 0 0)).pl l = (S, st)) (hsd : ∀ b, (S.said b).length ≤ 140737488355328) :
    Calls Tryz.prog 6 #[.agg #[.slice A n c, .slice none 0 0, .string ⟨#[]⟩, .slice IA m ic, .slice none 0 0, .int .i64 buf, .int .i64 line, .int .i64 run, .slice FA fn fc, .int .i64 0, .slice none 0 0], .slice LA ln lc] w fun e w' => ∃ Ao co Ae ce, e = .returned (.tuple #[.agg #[.slice Ao (S.said true).length co, .slice Ae (S.said false).length ce, .int .i64 st, .slice none 0 0, .int .i64 (S.steps : Int), .int .i64 S.peak, .int .i64 (S.used : Int)], .bool true]) ∧
      w'.ownsRow w.heap.size 5 1 (.slice Ao (S.said true).length co) (S.said true).length (bytesC (S.said true)) ∧ w'.ownsRow w.heap.size 5 1 (.slice Ae (S.said false).length ce) (S.said false).length (bytesC (S.said false)) ∧ Below w.heap.size w w' := by
  have hrun : ∀ W bl, Below w.heap.size w W → Blk W bl 31 #[.slice LA ln lc] → Calls Tryz.prog 11 #[.agg #[.slice A n c, .slice none 0 0, .string ⟨#[]⟩, .slice IA m ic, .slice none 0 0, .int .i64 buf, .int .i64 line, .int .i64 run, .slice FA fn fc, .int .i64 0, .slice none 0 0], .func (.func 12) #[] #[.pointer (some ⟨bl, 0, none⟩)]] W fun e w' => ∃ ov ev, e = .returned (.tuple #[.agg #[ov, ev, .int .i64 st, .slice none 0 0, .int .i64 (S.steps : Int), .int .i64 S.peak, .int .i64 (S.used : Int)], .bool true]) ∧
      w'.ownsRow W.heap.size 5 1 ov (S.said true).length (bytesC (S.said true)) ∧ w'.ownsRow W.heap.size 5 1 ev (S.said false).length (bytesC (S.said false)) ∧ Below W.heap.size W w' := by
    intro W bl hb hbk
    subst hn hm hfn hln
    refine (run_top W A c args (.slice IA inb.length ic) inb buf line run (.slice FA fl.length fc) fl 12 #[.pointer (some ⟨bl, 0, none⟩)] (ActsPost l fl inb) ((hr.below hb).more hb.size) h1 hn2 ((hiv.below hb).more hb.size) hib hlm (hfv.below hb) hfl
      (enters_of Tryz.func12 (by kernel_rfl) rfl) (start_acts W args inb buf line run fl LA lc l ((hlr.below hb).more hb.size) hlen (fun a ha => ⟨((hB a ha).1.below hb).more hb.size, (hB a ha).2⟩) hk hfit bl hbk) ?_).mono ?_
    · intro n F' hP b
      unfold ActsPost at hP
      rw [hS, Prod.mk.injEq] at hP
      have : F'.said b = S.said b := by rw [hP.1]; rfl
      rw [this]
      exact hsd b
    · rintro e w' ⟨n, F', ov, ev, hP, rfl, h2, h3, h4⟩
      unfold ActsPost at hP
      rw [hS, Prod.mk.injEq] at hP
      obtain ⟨h5, rfl⟩ := hP
      subst h5
      exact ⟨ov, ev, rfl, h2, h3, h4⟩
  have HR := Lib.hid hrun
  obtain ⟨no, hno⟩ : ∃ no, (S.said true).length = no := ⟨_, rfl⟩
  obtain ⟨ne, hne⟩ : ∃ ne, (S.said false).length = ne := ⟨_, rfl⟩
  obtain ⟨us, hus⟩ : ∃ us : Int, (S.used : Int) = us := ⟨_, rfl⟩
  obtain ⟨sp, hsp⟩ : ∃ sp : Int, (S.steps : Int) = sp := ⟨_, rfl⟩
  obtain ⟨pk, hpk⟩ : ∃ pk : Int, S.peak = pk := ⟨_, rfl⟩
  obtain ⟨bo, hbo⟩ : ∃ bo, bytesC (S.said true) = bo := ⟨_, rfl⟩
  obtain ⟨be, hbe⟩ : ∃ be, bytesC (S.said false) = be := ⟨_, rfl⟩
  simp only [hno, hne, hus, hsp, hpk, hbo, hbe] at hrun ⊢
  have HR := Lib.hid hrun
  clear hrun hr hiv hfv hlr hB hk hfit hS hsd hlm hno hne hus hsp hpk hbo hbe
  obtain ⟨g, hg⟩ : ∃ g, w.heap.size = g := ⟨_, rfl⟩
  obtain ⟨Z, hZ⟩ : ∃ Z, ((w.alloc (.cells #[.slice A n c, .slice none 0 0, .string ⟨#[]⟩, .slice IA m ic, .slice none 0 0, .int .i64 buf, .int .i64 line, .int .i64 run, .slice FA fn fc, .int .i64 0, .slice none 0 0] 30)).alloc (.cells #[.slice LA ln lc] 31)).alloc (.cells #[.slice none 0 0, .slice none 0 0, .int .i64 0, .slice none 0 0, .int .i64 0, .int .i64 0, .int .i64 0] 36) = Z := ⟨_, rfl⟩
  have bZ : Below w.heap.size w Z := by rw [← hZ]; exact below_box (below_box (below_one w _) (Nat.le_refl _) _) (Nat.le_refl _) _
  have kJ : Blk Z g 30 #[.slice A n c, .slice none 0 0, .string ⟨#[]⟩, .slice IA m ic, .slice none 0 0, .int .i64 buf, .int .i64 line, .int .i64 run, .slice FA fn fc, .int .i64 0, .slice none 0 0] := by rw [← hZ, ← hg]; exact ((Blk.new w _ _).alloc _).alloc _
  have kL : Blk Z (g + 1) 31 #[.slice LA ln lc] := by rw [← hZ, ← hg]; exact (Blk.newNext w _ _ _).alloc _
  have kR : Blk Z (g + 1 + 1) 36 #[.slice none 0 0, .slice none 0 0, .int .i64 0, .slice none 0 0, .int .i64 0, .int .i64 0, .int .i64 0] := by
    rw [← hZ, ← hg]
    have := Blk.newNext (w.alloc (.cells #[.slice A n c, .slice none 0 0, .string ⟨#[]⟩, .slice IA m ic, .slice none 0 0, .int .i64 buf, .int .i64 line, .int .i64 run, .slice FA fn fc, .int .i64 0, .slice none 0 0] 30)) (.cells #[.slice LA ln lc] 31) 36 #[.slice none 0 0, .slice none 0 0, .int .i64 0, .slice none 0 0, .int .i64 0, .int .i64 0, .int .i64 0]
    rwa [World.size_alloc] at this
  have hZs : g + 1 + 1 < Z.heap.size := kR.lt
  rw [hg] at bZ
  have HB := Lib.hid bZ
  have HKR := Lib.hid kR
  have HKL := Lib.hid kL
  have z0 : Z.cell? ⟨g, 0, none⟩ = some (.slice A n c) := kJ.cell 0
  have z1 : Z.cell? ⟨g, 1, none⟩ = some (.slice none 0 0) := kJ.cell 1
  have z2 : Z.cell? ⟨g, 2, none⟩ = some (.string ⟨#[]⟩) := kJ.cell 2
  have z3 : Z.cell? ⟨g, 3, none⟩ = some (.slice IA m ic) := kJ.cell 3
  have z4 : Z.cell? ⟨g, 4, none⟩ = some (.slice none 0 0) := kJ.cell 4
  have z5 : Z.cell? ⟨g, 5, none⟩ = some (.int .i64 buf) := kJ.cell 5
  have z6 : Z.cell? ⟨g, 6, none⟩ = some (.int .i64 line) := kJ.cell 6
  have z7 : Z.cell? ⟨g, 7, none⟩ = some (.int .i64 run) := kJ.cell 7
  have z8 : Z.cell? ⟨g, 8, none⟩ = some (.slice FA fn fc) := kJ.cell 8
  have z9 : Z.cell? ⟨g, 9, none⟩ = some (.int .i64 0) := kJ.cell 9
  have z10 : Z.cell? ⟨g, 10, none⟩ = some (.slice none 0 0) := kJ.cell 10
  clear bZ kR kJ kL
  go_enter Tryz.func6, Tryz.ntmps6
  have hmf : ∀ (fn : Fn) (first cap : Array Value) (w : World), (Instr.makeFunc fn first cap).run Tryz.prog w = .ok (.func fn first cap) w := fun _ _ _ _ => rfl
  go_wp2_with (first
    | (go_at_call 11; refine (HR.out Z (g + 1) (by rw [hg]; exact HB.out) HKL.out).mono ?_; rintro e w1 ⟨ov, ev, rfl, hov, hev, hb1⟩
       obtain ⟨Ao, co, rfl, _, _, _⟩ := own_slice hov
       obtain ⟨Ae, ce, rfl, _, _, _⟩ := own_slice hev
       have HR1 := Lib.hid (Blk.on HKR.out hb1))
    | (refine wpList_store_blk rfl 36 (.tmp 4) (.tmp 9) rfl (g + 1 + 1) 36 #[.slice none 0 0, .slice none 0 0, .int .i64 0, .slice none 0 0, .int .i64 0, .int .i64 0, .int .i64 0] #[.slice Ao no co, .slice Ae ne ce, .int .i64 st, .slice none 0 0, .int .i64 sp, .int .i64 pk, .int .i64 us] rfl rfl HR1.out rfl (by kernel_rfl) (by kernel_rfl) ?_
       intro w2 b2 g2
       obtain ⟨q0, q1, q2, q3, q4, q5, q6⟩ := cells7 b2))
  refine bodyPost_ret (v := .tuple #[.agg #[.slice Ao no co, .slice Ae ne ce, .int .i64 st, .slice none 0 0, .int .i64 sp, .int .i64 pk, .int .i64 us], .bool true]) (by simp [results, Tryz.results6, go_sem, q0, q1, q2, q3, q4, q5, q6]) rfl ?_
  have hzs := HB.out.size
  have b01 : Below g w w1 := HB.out.trans (hb1.mono (by omega))
  have hkeep : ∀ k, k < w1.heap.size → k ≠ g + 1 + 1 → w2.heap[k]? = w1.heap[k]? := fun k h1 h2 => g2.block k h1 (by simpa using h2)
  have ho2 : ∀ {v : Value} {n : Nat} {xs : List Value}, w1.ownsRow Z.heap.size 5 1 v n xs → w2.ownsRow g 5 1 v n xs := fun h =>
    Joins.ownsRow_le (ownsRow_same h fun k hk => hkeep k (h.lt k hk).2 (by have := (h.lt k hk).1; omega)) (by omega)
  subst hg
  exact ⟨Ao, co, Ae, ce, rfl, ho2 hov, ho2 hev, (b01.grown g2 b01.size (fun k hk => by cases hk; omega)).mono (by omega)⟩

end Go.Proofs.YtffffjngodinnaaGreatDoor
end

section
namespace Go.Proofs.YtffffjngodinnaaGreatDoor
open Go.RowKit Go.Maps Go.Shelf

set_option maxRecDepth 100000 in
set_option maxHeartbeats 2000000 in
theorem mayNo (w : World) : Calls Tryz.prog 25 #[.agg #[.slice none 0 0, .slice none 0 0, .string ⟨#[]⟩, .slice none 0 0, .slice none 0 0, .int .i64 0, .int .i64 0, .int .i64 0, .slice none 0 0, .int .i64 0, .slice none 0 0]] w fun e w' => e = .returned (.tuple #[.pointer none, .bool false]) ∧ Below w.heap.size w w' := by
  go_enter Tryz.func25, Tryz.ntmps25
  go_wp2_with (go_at_call 55; refine (loadNone _).mono ?_; rintro e w1 ⟨t, ht0, rfl, hts, hT, hb1⟩
               have bx : Blk w1 w.heap.size 30 #[.slice none 0 0, .slice none 0 0, .string ⟨#[]⟩, .slice none 0 0, .slice none 0 0, .int .i64 0, .int .i64 0, .int .i64 0, .slice none 0 0, .int .i64 0, .slice none 0 0] := Blk.on (Blk.new w _ _) hb1
               have x0 : w1.cell? ⟨w.heap.size, 0, none⟩ = some (.slice none 0 0) := bx.cell 0)
  go_returns
  exact ⟨rfl, below_step (below_one w _) hb1 (Nat.le_refl _)⟩

set_option maxRecDepth 100000 in
set_option maxHeartbeats 2000000 in
theorem runNo (w : World) (f : Value) : Calls Tryz.prog 11 #[.agg #[.slice none 0 0, .slice none 0 0, .string ⟨#[]⟩, .slice none 0 0, .slice none 0 0, .int .i64 0, .int .i64 0, .int .i64 0, .slice none 0 0, .int .i64 0, .slice none 0 0], f] w fun e w' => e = .returned (.tuple #[.agg #[.slice none 0 0, .slice none 0 0, .int .i64 0, .slice none 0 0, .int .i64 0, .int .i64 0, .int .i64 0], .bool false]) ∧ Below w.heap.size w w' := by
  obtain ⟨g, hg⟩ : ∃ g, w.heap.size = g := ⟨_, rfl⟩
  obtain ⟨Z, hZ⟩ : ∃ Z, (w.alloc (.cells #[.slice none 0 0, .slice none 0 0, .string ⟨#[]⟩, .slice none 0 0, .slice none 0 0, .int .i64 0, .int .i64 0, .int .i64 0, .slice none 0 0, .int .i64 0, .slice none 0 0] 30)).alloc (.cells #[.slice none 0 0, .slice none 0 0, .int .i64 0, .slice none 0 0, .int .i64 0, .int .i64 0, .int .i64 0] 36) = Z := ⟨_, rfl⟩
  have bZ : Below g w Z := by rw [← hZ, ← hg]; exact below_box (below_one w _) (Nat.le_refl _) _
  have kJ : Blk Z g 30 #[.slice none 0 0, .slice none 0 0, .string ⟨#[]⟩, .slice none 0 0, .slice none 0 0, .int .i64 0, .int .i64 0, .int .i64 0, .slice none 0 0, .int .i64 0, .slice none 0 0] := by rw [← hZ, ← hg]; exact (Blk.new w _ _).alloc _
  have kR : Blk Z (g + 1) 36 #[.slice none 0 0, .slice none 0 0, .int .i64 0, .slice none 0 0, .int .i64 0, .int .i64 0, .int .i64 0] := by rw [← hZ, ← hg]; exact Blk.newNext w _ _ _
  have z0 : Z.cell? ⟨g, 0, none⟩ = some (.slice none 0 0) := kJ.cell 0
  have z1 : Z.cell? ⟨g, 1, none⟩ = some (.slice none 0 0) := kJ.cell 1
  have z2 : Z.cell? ⟨g, 2, none⟩ = some (.string ⟨#[]⟩) := kJ.cell 2
  have z3 : Z.cell? ⟨g, 3, none⟩ = some (.slice none 0 0) := kJ.cell 3
  have z4 : Z.cell? ⟨g, 4, none⟩ = some (.slice none 0 0) := kJ.cell 4
  have z5 : Z.cell? ⟨g, 5, none⟩ = some (.int .i64 0) := kJ.cell 5
  have z6 : Z.cell? ⟨g, 6, none⟩ = some (.int .i64 0) := kJ.cell 6
  have z7 : Z.cell? ⟨g, 7, none⟩ = some (.int .i64 0) := kJ.cell 7
  have z8 : Z.cell? ⟨g, 8, none⟩ = some (.slice none 0 0) := kJ.cell 8
  have z9 : Z.cell? ⟨g, 9, none⟩ = some (.int .i64 0) := kJ.cell 9
  have z10 : Z.cell? ⟨g, 10, none⟩ = some (.slice none 0 0) := kJ.cell 10
  have hZs := kR.lt
  have HB := Lib.hid bZ
  have HKR := Lib.hid kR
  rw [hg]
  clear bZ kJ kR
  go_enter Tryz.func11, Tryz.ntmps11
  go_wp2_with (first
    | (go_at_call 25; refine (mayNo Z).mono ?_; rintro e w1 ⟨rfl, hb1⟩
       have HR1 := Lib.hid (Blk.on HKR.out hb1))
    | (refine wpList_store_blk rfl 36 (.tmp 4) (.tmp 20) rfl (g + 1) 36 #[.slice none 0 0, .slice none 0 0, .int .i64 0, .slice none 0 0, .int .i64 0, .int .i64 0, .int .i64 0] #[.slice none 0 0, .slice none 0 0, .int .i64 0, .slice none 0 0, .int .i64 0, .int .i64 0, .int .i64 0] rfl rfl HR1.out rfl (by kernel_rfl) (by kernel_rfl) ?_
       intro w2 b2 g2
       obtain ⟨q0, q1, q2, q3, q4, q5, q6⟩ := cells7 b2))
  refine bodyPost_ret (v := .tuple #[.agg #[.slice none 0 0, .slice none 0 0, .int .i64 0, .slice none 0 0, .int .i64 0, .int .i64 0, .int .i64 0], .bool false]) (by simp [results, Tryz.results11, go_sem, q0, q1, q2, q3, q4, q5, q6]) rfl ?_
  have hzs := HB.out.size
  exact ⟨rfl, (HB.out.trans (hb1.mono (by omega))).grown g2 (Nat.le_trans (by omega) hb1.size) (fun k hk => by cases hk; omega)⟩

set_option maxRecDepth 100000 in
set_option maxHeartbeats 2000000 in
theorem runActsNo (w : World) (LA : Option Addr) (ln lc : Nat) : Calls Tryz.prog 6 #[.agg #[.slice none 0 0, .slice none 0 0, .string ⟨#[]⟩, .slice none 0 0, .slice none 0 0, .int .i64 0, .int .i64 0, .int .i64 0, .slice none 0 0, .int .i64 0, .slice none 0 0], .slice LA ln lc] w fun e w' => e = .returned (.tuple #[.agg #[.slice none 0 0, .slice none 0 0, .int .i64 0, .slice none 0 0, .int .i64 0, .int .i64 0, .int .i64 0], .bool false]) ∧ Below w.heap.size w w' := by
  have hmf : ∀ (fn : Fn) (first cap : Array Value) (w : World), (Instr.makeFunc fn first cap).run Tryz.prog w = .ok (.func fn first cap) w := fun _ _ _ _ => rfl
  obtain ⟨g, hg⟩ : ∃ g, w.heap.size = g := ⟨_, rfl⟩
  obtain ⟨Z, hZ⟩ : ∃ Z, ((w.alloc (.cells #[.slice none 0 0, .slice none 0 0, .string ⟨#[]⟩, .slice none 0 0, .slice none 0 0, .int .i64 0, .int .i64 0, .int .i64 0, .slice none 0 0, .int .i64 0, .slice none 0 0] 30)).alloc (.cells #[.slice LA ln lc] 31)).alloc (.cells #[.slice none 0 0, .slice none 0 0, .int .i64 0, .slice none 0 0, .int .i64 0, .int .i64 0, .int .i64 0] 36) = Z := ⟨_, rfl⟩
  have bZ : Below g w Z := by rw [← hZ, ← hg]; exact below_box (below_box (below_one w _) (Nat.le_refl _) _) (Nat.le_refl _) _
  have kJ : Blk Z g 30 #[.slice none 0 0, .slice none 0 0, .string ⟨#[]⟩, .slice none 0 0, .slice none 0 0, .int .i64 0, .int .i64 0, .int .i64 0, .slice none 0 0, .int .i64 0, .slice none 0 0] := by rw [← hZ, ← hg]; exact ((Blk.new w _ _).alloc _).alloc _
  have kR : Blk Z (g + 1 + 1) 36 #[.slice none 0 0, .slice none 0 0, .int .i64 0, .slice none 0 0, .int .i64 0, .int .i64 0, .int .i64 0] := by
    rw [← hZ, ← hg]
    have := Blk.newNext (w.alloc (.cells #[.slice none 0 0, .slice none 0 0, .string ⟨#[]⟩, .slice none 0 0, .slice none 0 0, .int .i64 0, .int .i64 0, .int .i64 0, .slice none 0 0, .int .i64 0, .slice none 0 0] 30)) (.cells #[.slice LA ln lc] 31) 36 #[.slice none 0 0, .slice none 0 0, .int .i64 0, .slice none 0 0, .int .i64 0, .int .i64 0, .int .i64 0]
    rwa [World.size_alloc] at this

  have z0 : Z.cell? ⟨g, 0, none⟩ = some (.slice none 0 0) := kJ.cell 0
  have z1 : Z.cell? ⟨g, 1, none⟩ = some (.slice none 0 0) := kJ.cell 1
  have z2 : Z.cell? ⟨g, 2, none⟩ = some (.string ⟨#[]⟩) := kJ.cell 2
  have z3 : Z.cell? ⟨g, 3, none⟩ = some (.slice none 0 0) := kJ.cell 3
  have z4 : Z.cell? ⟨g, 4, none⟩ = some (.slice none 0 0) := kJ.cell 4
  have z5 : Z.cell? ⟨g, 5, none⟩ = some (.int .i64 0) := kJ.cell 5
  have z6 : Z.cell? ⟨g, 6, none⟩ = some (.int .i64 0) := kJ.cell 6
  have z7 : Z.cell? ⟨g, 7, none⟩ = some (.int .i64 0) := kJ.cell 7
  have z8 : Z.cell? ⟨g, 8, none⟩ = some (.slice none 0 0) := kJ.cell 8
  have z9 : Z.cell? ⟨g, 9, none⟩ = some (.int .i64 0) := kJ.cell 9
  have z10 : Z.cell? ⟨g, 10, none⟩ = some (.slice none 0 0) := kJ.cell 10

  have hZs := kR.lt
  have HB := Lib.hid bZ
  have HKR := Lib.hid kR
  rw [hg]
  clear bZ kJ kR
  go_enter Tryz.func6, Tryz.ntmps6
  go_wp2_with (first
    | (go_at_call 11; refine (runNo Z _).mono ?_; rintro e w1 ⟨rfl, hb1⟩
       have HR1 := Lib.hid (Blk.on HKR.out hb1))
    | (refine wpList_store_blk rfl 36 (.tmp 4) (.tmp 9) rfl (g + 1 + 1) 36 #[.slice none 0 0, .slice none 0 0, .int .i64 0, .slice none 0 0, .int .i64 0, .int .i64 0, .int .i64 0] #[.slice none 0 0, .slice none 0 0, .int .i64 0, .slice none 0 0, .int .i64 0, .int .i64 0, .int .i64 0] rfl rfl HR1.out rfl (by kernel_rfl) (by kernel_rfl) ?_
       intro w2 b2 g2
       obtain ⟨q0, q1, q2, q3, q4, q5, q6⟩ := cells7 b2))
  refine bodyPost_ret (v := .tuple #[.agg #[.slice none 0 0, .slice none 0 0, .int .i64 0, .slice none 0 0, .int .i64 0, .int .i64 0, .int .i64 0], .bool false]) (by simp [results, Tryz.results6, go_sem, q0, q1, q2, q3, q4, q5, q6]) rfl ?_
  have hzs := HB.out.size
  exact ⟨rfl, (HB.out.trans (hb1.mono (by omega))).grown g2 (Nat.le_trans (by omega) hb1.size) (fun k hk => by cases hk; omega)⟩

end Go.Proofs.YtffffjngodinnaaGreatDoor
end
