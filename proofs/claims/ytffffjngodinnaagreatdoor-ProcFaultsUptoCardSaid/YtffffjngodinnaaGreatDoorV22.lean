/-
  Parts of the proof: A walk over the main function of acts, for a job that runs to its end at once; A row of acts, cloned with all of its bytes: the beginning of Acts; What acts ask of the numbers is met when all is small: plain; Faults that only interrupt, or cut short, change nothing of what comes of acts that read nothing; they cost one step each at most. (Plain: no program in sight.).
-/
import Derived.Test.YtffffjngodinnaaGreatDoorV19
import Derived.Test.YtffffjngodinnaaGreatDoorV13
import Derived.Deep.MidRow
import Derived.Test.YtffffjngodinnaaGreatDoorV21
import Derived.Laws.OwnMore
import Derived.Deep.RegionHeld3

section
namespace Go.Proofs.YtffffjngodinnaaGreatDoor
open Go.RowKit Go.Maps Go.Shelf

/-- an act as it stands in memory -/
structure ActIt where
  k : Int
  n : Int
  A : Option Addr
  c : Nat
  bs : List UInt8
def actC (a : ActIt) : List Value := [.int .i64 a.k, .int .i64 a.n, .slice a.A a.bs.length a.c]
def actsC (l : List ActIt) : List Value := l.flatMap actC
theorem actsC_length (l : List ActIt) : (actsC l).length = l.length * 3 := by
  induction l with
  | nil => rfl
  | cons a l ih => rw [show actsC (a :: l) = actC a ++ actsC l from rfl, List.length_append, ih, show (actC a).length = 3 from rfl, List.length_cons]; omega
theorem actsC_at {l : List ActIt} {i : Nat} {a : ActIt} (h : l[i]? = some a) (j : Nat) (hj : j < 3) : (actsC l)[i * 3 + j]? = (actC a)[j]? := by
  induction l generalizing i with
  | nil => simp at h
  | cons b l ih =>
    have hl : (actC b).length = 3 := rfl
    have e : actsC (b :: l) = actC b ++ actsC l := rfl
    cases i with
    | zero =>
      obtain rfl : b = a := by simpa using h
      rw [e, List.getElem?_append_left (by rw [hl]; omega)]
      congr 1
      omega
    | succ i =>
      rw [e, List.getElem?_append_right (by rw [hl]; omega), hl, show (i + 1) * 3 + j - 3 = i * 3 + j by omega]
      exact ih (by simpa using h)

namespace PF
/-- acts one behind the other: the status -/
def acts (fl : List (Int × Int)) : PF → List ActIt → PF × Int
  | s, [] => (s, 0)
  | s, a :: l => if 0 ≤ (s.act fl a.k a.n a.bs).2 then s.act fl a.k a.n a.bs else acts fl (s.act fl a.k a.n a.bs).1 l
/-- what they ask of the numbers -/
def FitsAll (fl : List (Int × Int)) : PF → List ActIt → Prop
  | _, [] => True
  | s, a :: l => s.Fits fl a.k a.n a.bs ∧ FitsAll fl (s.act fl a.k a.n a.bs).1 l
end PF

/-- the acts of a machine, and the kinds, where its main function finds them; all of it in blocks from L on -/
structure ActsIn (w : World) (L bl bk : Nat) (l : List ActIt) : Prop where
  box : ∃ v, Blk w bl 31 #[v] ∧ w.ownsRow L 34 3 v l.length (actsC l)
  bytes : ∀ a ∈ l, a.bs.length ≤ a.c ∧ w.ownsRow L 5 1 (.slice a.A a.bs.length a.c) a.bs.length (bytesC a.bs)
  kinds : ∃ mb, Blk w bk 95 #[.map (some mb)] ∧ MapOf w Tryz.prog 3 mb 6 kindF ∧ L ≤ mb
  low : L ≤ bl ∧ L ≤ bk
/-- blocks from L on are as they were -/
def KeptFrom (L : Nat) (w w' : World) : Prop := w.heap.size ≤ w'.heap.size ∧ ∀ g, L ≤ g → g < w.heap.size → w'.heap[g]? = w.heap[g]?
theorem KeptFrom.refl (L : Nat) (w : World) : KeptFrom L w w := ⟨Nat.le_refl _, fun _ _ _ => rfl⟩
theorem ActsIn.keep {w w' : World} {L bl bk : Nat} {l : List ActIt} (h : ActsIn w L bl bk l) (hk : KeptFrom L w w') : ActsIn w' L bl bk l := by
  obtain ⟨v, h1, h2⟩ := h.box
  obtain ⟨mb, h3, h4, h5⟩ := h.kinds
  refine ⟨⟨v, (hk.2 _ h.low.1 h1.lt).trans h1, ownsRow_same h2 fun g hg => hk.2 g (h2.lt g hg).1 (h2.lt g hg).2⟩, fun a ha => ?_, ⟨mb, (hk.2 _ h.low.2 h3.lt).trans h3, h4.same (hk.2 _ h5 h4.lt), h5⟩, h.low⟩
  obtain ⟨h6, h7⟩ := h.bytes a ha
  exact ⟨h6, ownsRow_same h7 fun g hg => hk.2 g (h7.lt g hg).1 (h7.lt g hg).2⟩

/-- how the main function of acts stands ahead of a round: what is done, and what there is yet -/
structure MainSt (X : Job) (F0 : Flow) (w0 : World) (L : Nat) (R : PF × Int) (rest : List ActIt) (F : Flow) (w : World) : Prop where
  job : JobOf w X F
  went : Went X F0 F w0 w
  kept : KeptFrom L w0 w
  off : ∀ g, L ≤ g → g < w0.heap.size → g ∉ X.foot F
  ends : F.pl.acts X.K.fl rest = R
  fits : F.pl.FitsAll X.K.fl rest
theorem MainSt.step {X : Job} {F0 F F' : Flow} {w0 w w' : World} {L : Nat} {R : PF × Int} {a : ActIt} {rest : List ActIt} (h : MainSt X F0 w0 L R (a :: rest) F w) (hJ : JobOf w' X F') (hW : Went X F F' w w') (hp : F'.pl = (F.pl.act X.K.fl a.k a.n a.bs).1) (hn : (F.pl.act X.K.fl a.k a.n a.bs).2 < 0) : MainSt X F0 w0 L R rest F' w' := by
  have hend := h.ends
  rw [PF.acts, if_neg (by omega)] at hend
  refine ⟨hJ, h.went.trans hW, ⟨Nat.le_trans h.kept.1 hW.turns.size, fun g h1 h2 => ?_⟩, fun g h1 h2 => ?_, by rw [hp]; exact hend, by rw [hp]; exact h.fits.2⟩
  · exact (hW.away (Nat.lt_of_lt_of_le h2 h.kept.1) (h.off g h1 h2)).1.trans (h.kept.2 g h1 h2)
  · exact (hW.away (Nat.lt_of_lt_of_le h2 h.kept.1) (h.off g h1 h2)).2
theorem MainSt.below {X : Job} {F0 F : Flow} {w0 w w' : World} {L : Nat} {R : PF × Int} {rest : List ActIt} (h : MainSt X F0 w0 L R rest F w) (hb : Below w.heap.size w w') : MainSt X F0 w0 L R rest F w' :=
  ⟨h.job.below hb, h.went.trans (.of_below X F hb), ⟨Nat.le_trans h.kept.1 hb.size, fun g h1 h2 => (hb.block g (Nat.lt_of_lt_of_le h2 h.kept.1)).trans (h.kept.2 g h1 h2)⟩, h.off, h.ends, h.fits⟩

theorem actZero (w : World) : (zeroValue 100).run Tryz.prog w = .ok (.agg #[.nilFunc]) w := by kernel_rfl

set_option maxRecDepth 100000 in
set_option maxHeartbeats 2000000 in
theorem acts_main (w : World) (X : Job) (F : Flow) (h : JobOf w X F) (L bl bk : Nat) (l : List ActIt) (hl : ActsIn w L bl bk l) (hoff : ∀ g, L ≤ g → g < w.heap.size → g ∉ X.foot F) (hfit : F.pl.FitsAll X.K.fl l) (hk : ∀ a ∈ l, -9223372036854775808 ≤ a.k ∧ a.k ≤ 9223372036854775807) (hlen : l.length ≤ 2097152) :
    Calls Tryz.prog 40 #[.pointer (some ⟨X.p, 0, none⟩), .pointer (some ⟨bl, 0, none⟩), .pointer (some ⟨bk, 0, none⟩)] w fun e w' => e = .returned (.int .i64 (F.pl.acts X.K.fl l).2) ∧ ∃ F', F'.pl = (F.pl.acts X.K.fl l).1 ∧ JobOf w' X F' ∧ Went X F F' w w' := by
  obtain ⟨R, hR⟩ : ∃ R, F.pl.acts X.K.fl l = R := ⟨_, rfl⟩
  rw [hR]
  have H0 : Hid (MainSt X F w L R (l.drop 0) F w) := Lib.hid ⟨h, Went.refl _ _ _, KeptFrom.refl _ _, hoff, hR, hfit⟩
  have HA := Lib.hid hl
  have HK := Lib.hid hk
  obtain ⟨v, hb0, hrow⟩ := hl.box
  obtain ⟨n, hn⟩ : ∃ n, l.length = n := ⟨_, rfl⟩
  rw [hn] at hlen
  obtain ⟨A, cp, hv, _⟩ := own_slice hrow
  rw [hn] at hv
  subst hv
  have c0 : w.cell? ⟨bl, 0, none⟩ = some (.slice A n cp) := hb0.cell 0
  have HN := Lib.hid hn
  have HROW := Lib.hid hrow
  clear hb0 hrow hl hk hR h hoff hfit hn
  go_enter Tryz.func40, Tryz.ntmps40
  go_wp2_with fail
  go_loopw [12] (fun iv wr => ∃ (i : Nat) (F1 : Flow), i ≤ n ∧ iv = .int .i64 (i : Int) ∧ Hid (MainSt X F w L R (l.drop i) F1 wr)) (fun iv _ => n - (intOf iv).toNat)
  case atStart => exact ⟨0, F, Nat.zero_le _, rfl, H0⟩
  case round =>
    obtain ⟨i, F1, hi, rfl, HS⟩ := hrel
    by_cases hlt : i < n
    · obtain ⟨a, ha⟩ : ∃ a, l[i]? = some a := ⟨_, List.getElem?_eq_getElem (by rw [HN.out]; exact hlt)⟩
      have hdrop : l.drop i = a :: l.drop (i + 1) := by
        rw [List.drop_eq_getElem_cons (by rw [HN.out]; exact hlt)]
        rw [List.getElem?_eq_getElem (by rw [HN.out]; exact hlt)] at ha
        rw [Option.some.inj ha]
      have hmem : a ∈ l := List.mem_of_getElem? ha
      have HAW := HA.out.keep HS.out.kept
      have hke := HK.out a hmem
      have hbytes := HAW.bytes a hmem
      obtain ⟨mb, hbk, hmap, _⟩ := HAW.kinds
      have hS := HS.out
      rw [hdrop] at hS
      obtain ⟨g, hA, hra⟩ : ∃ g, A = some ⟨g, 0, none⟩ ∧ wr.rangeAt g (i * 3) (actC a) := by
        have hr : wr.ownsRow L 34 3 (.slice A n cp) l.length (actsC l) := ownsRow_same HROW.out fun g hg => HS.out.kept.2 g (HROW.out.lt g hg).1 (HROW.out.lt g hg).2
        rcases hr.2 with ⟨_, h0⟩ | ⟨g, cap, cur, e, _, hgb, _, _, _, hcur⟩
        · rw [HN.out] at h0; omega
        · simp only [Value.slice.injEq] at e
          refine ⟨g, e.1, fun j v hv => ?_⟩
          have hj : j < 3 := (List.getElem?_eq_some_iff.1 hv).1
          have h1 := (actsC_at ha j hj).trans hv
          rw [← hcur, List.getElem?_take] at h1
          split at h1
          · rw [Array.getElem?_toList] at h1
            exact (cell_of_row wr g (i * 3 + j) cur 34 (0, 0) hgb).trans h1
          · cases h1
      subst hA
      obtain ⟨k, m, A', c', bs⟩ := a
      obtain ⟨q, hq⟩ : ∃ q, bs.length = q := ⟨_, rfl⟩
      have hrd : Reads wr wr.heap.size 1 A' bs.length (bytesC bs) := by
        obtain ⟨_, _, e, _, _, h⟩ := own_slice hbytes.2
        cases e
        exact h
      have hao : ∀ ad, A' = some ad → ad.block ∉ X.foot F1 := fun ad e => by
        have h1 := HA.out.bytes _ hmem
        have h2 := h1.2.lt ad.block (by rw [e]; rfl)
        exact HS.out.off _ h2.1 h2.2
      have hkc : wr.cell? ⟨bk, 0, none⟩ = some (.map (some mb)) := hbk.cell 0
      have hcc := hbytes.1
      have hlk := kindF_of k
      obtain ⟨W, hW⟩ : ∃ W, wr.alloc (.cells #[.int .i64 k, .int .i64 m, .slice A' q c'] 34) = W := ⟨_, rfl⟩
      unfold actC at hra
      simp only at hra hcc hke
      rw [hq] at hra hcc
      have hone : (#[.int .i64 k, .int .i64 m, .slice A' q c'] : Array Value).all (·.oneCell') = true := by simp [Value.oneCell']
      have HRD := Lib.hid hrd
      have HAO := Lib.hid hao
      have HQ := Lib.hid hq
      have HMAP := Lib.hid hmap
      have HS2 := Lib.hid hS
      clear hrd hao hq hmap hS hdrop hmem HAW hbytes hbk hW
      cases hkd : kindOf k with
      | none =>
        rw [hkd] at hlk
        go_wp2_with (first
          | (refine wpList_load_mid rfl _ _ rfl g (i * 3) rfl [.int .i64 k, .int .i64 m, .slice A' q c'] _ hra Tryz.underlying34 rfl (by kernel_rfl) ?_)
          | (refine wpList_store_blk rfl 34 (.tmp 6) (.tmp 15) rfl wr.heap.size 34 #[.int .i64 0, .int .i64 0, .slice none 0 0] #[.int .i64 k, .int .i64 m, .slice A' q c'] rfl rfl (Blk.new wr _ _) rfl (by kernel_rfl) hone ?_; intro w2 b2 g2
             have hb2 : Below wr.heap.size wr w2 := (below_one wr _).grown g2 (by simp) (fun j hj => by cases hj; exact Nat.le_refl _)
             have k0 : w2.cell? ⟨wr.heap.size, 0, none⟩ = some (.int .i64 k) := b2.cell 0
             have lk := b2.lt
             have hkc2 : w2.cell? ⟨bk, 0, none⟩ = some (.map (some mb)) := (hb2.cell (World.block_lt_of_cell? wr _ hkc)).trans hkc
             have hmap2 := HMAP.out.same (hb2.block _ HMAP.out.lt))
          | (at_lookup; refine wpList_look_of _ rfl _ _ 95 rfl 3 100 intKeys Tryz.underlying95 (.agg #[.nilFunc]) (actZero _) mb 6 kindF rfl hmap2 _ (kindL k) rfl (keyOf_int_mk Tryz.underlying3 (WalkArith.wf_i64 (by omega))) ?_; rw [hlk]; simp only [Option.map_none, Option.getD_none, Option.isSome_none])
          | (refine wpList_store_blk rfl 100 (.tmp 7) (.tmp 21) rfl w2.heap.size 100 #[.nilFunc] #[.nilFunc] rfl rfl (Blk.new w2 _ _) rfl (by kernel_rfl) (by simp [Value.oneCell']) ?_; intro w3 b3 g3
             have hb3 : Below w2.heap.size w2 w3 := (below_one w2 _).grown g3 (by simp) (fun j hj => by cases hj; exact Nat.le_refl _)
             have hbw : Below wr.heap.size wr w3 := below_step hb2 hb3 (Nat.le_refl _)))
        have hrr := PF.act_none (fl := X.K.fl) (s := F1.pl) (n := m) (bs := bs) hkd
        go_roundw
        case rel => exact ⟨i + 1, F1, by omega, by go_num, Lib.hid ((HS2.out.step HS2.out.job (Went.refl _ _ _) (by simp only [hrr]) (by simp only [hrr]; decide)).below hbw)⟩
        case measure => simp [intOf]; omega
      | some id =>
        rw [hkd] at hlk
        obtain ⟨hdo, hen⟩ := does_kind hkd
        have hcall := fun W hb => hdo W X F1 m A' c' bs (HS2.out.job.below hb) ((HRD.out.below hb).more hb.size) HAO.out (by rw [HQ.out]; exact hcc) HS2.out.fits.1
        rw [HQ.out] at hcall
        obtain ⟨Z, hZ⟩ : ∃ Z, F1.pl.act X.K.fl k m bs = Z := ⟨_, rfl⟩
        rw [hZ] at hcall
        have HCALL := Lib.hid hcall
        have HZ := Lib.hid hZ
        clear hcall hZ hdo
        by_cases hz : 0 ≤ Z.2
        · skip
          go_wp2_with (first
            | (refine wpList_load_mid rfl _ _ rfl g (i * 3) rfl [.int .i64 k, .int .i64 m, .slice A' q c'] _ hra Tryz.underlying34 rfl (by kernel_rfl) ?_)
            | (refine wpList_store_blk rfl 34 (.tmp 6) (.tmp 15) rfl wr.heap.size 34 #[.int .i64 0, .int .i64 0, .slice none 0 0] #[.int .i64 k, .int .i64 m, .slice A' q c'] rfl rfl (Blk.new wr _ _) rfl (by kernel_rfl) hone ?_; intro w2 b2 g2
               have hb2 : Below wr.heap.size wr w2 := (below_one wr _).grown g2 (by simp) (fun j hj => by cases hj; exact Nat.le_refl _)
               have k0 : w2.cell? ⟨wr.heap.size, 0, none⟩ = some (.int .i64 k) := b2.cell 0
               have lk := b2.lt
               have hkc2 : w2.cell? ⟨bk, 0, none⟩ = some (.map (some mb)) := (hb2.cell (World.block_lt_of_cell? wr _ hkc)).trans hkc
               have hmap2 := HMAP.out.same (hb2.block _ HMAP.out.lt))
            | (at_lookup; refine wpList_look_of _ rfl _ _ 95 rfl 3 100 intKeys Tryz.underlying95 (.agg #[.nilFunc]) (actZero _) mb 6 kindF rfl hmap2 _ (kindL k) rfl (keyOf_int_mk Tryz.underlying3 (WalkArith.wf_i64 (by omega))) ?_; rw [hlk]; simp only [Option.map_some, Option.getD_some, Option.isSome_some, kindV])
            | (refine wpList_store_blk rfl 100 (.tmp 7) (.tmp 21) rfl w2.heap.size 100 #[.nilFunc] #[.func (.func id) #[] #[]] rfl rfl (Blk.new w2 _ _) rfl (by kernel_rfl) (by simp [Value.oneCell']) ?_; intro w3 b3 g3
               have hb3 : Below w2.heap.size w2 w3 := (below_one w2 _).grown g3 (by simp) (fun j hj => by cases hj; exact Nat.le_refl _)
               have hbw : Below wr.heap.size wr w3 := below_step hb2 hb3 (Nat.le_refl _)
               have f0 : w3.cell? ⟨w2.heap.size, 0, none⟩ = some (.func (.func id) #[] #[]) := b3.cell 0
               have lf := b3.lt
               have b23 : Blk w3 wr.heap.size 34 #[.int .i64 k, .int .i64 m, .slice A' q c'] := Blk.on b2 hb3)
            | (refine wpList_load_row rfl 34 (.tmp 6) rfl wr.heap.size rfl 34 #[.int .i64 k, .int .i64 m, .slice A' q c'] (0, 0) _ b23 Tryz.underlying34 rfl (by kernel_rfl) ?_)
            | (refine (HCALL.out w3 hbw).mono ?_; rintro e w4 ⟨rfl, F2, hF2, hJ4, hW4⟩))
          go_returns
          have he := HS2.out.ends
          rw [PF.acts] at he
          simp only at he
          rw [HZ.out, if_pos hz] at he
          rw [← he]
          exact ⟨rfl, F2, hF2, hJ4, (HS2.out.below hbw).went.trans hW4⟩
        · skip
          go_wp2_with (first
            | (refine wpList_load_mid rfl _ _ rfl g (i * 3) rfl [.int .i64 k, .int .i64 m, .slice A' q c'] _ hra Tryz.underlying34 rfl (by kernel_rfl) ?_)
            | (refine wpList_store_blk rfl 34 (.tmp 6) (.tmp 15) rfl wr.heap.size 34 #[.int .i64 0, .int .i64 0, .slice none 0 0] #[.int .i64 k, .int .i64 m, .slice A' q c'] rfl rfl (Blk.new wr _ _) rfl (by kernel_rfl) hone ?_; intro w2 b2 g2
               have hb2 : Below wr.heap.size wr w2 := (below_one wr _).grown g2 (by simp) (fun j hj => by cases hj; exact Nat.le_refl _)
               have k0 : w2.cell? ⟨wr.heap.size, 0, none⟩ = some (.int .i64 k) := b2.cell 0
               have lk := b2.lt
               have hkc2 : w2.cell? ⟨bk, 0, none⟩ = some (.map (some mb)) := (hb2.cell (World.block_lt_of_cell? wr _ hkc)).trans hkc
               have hmap2 := HMAP.out.same (hb2.block _ HMAP.out.lt))
            | (at_lookup; refine wpList_look_of _ rfl _ _ 95 rfl 3 100 intKeys Tryz.underlying95 (.agg #[.nilFunc]) (actZero _) mb 6 kindF rfl hmap2 _ (kindL k) rfl (keyOf_int_mk Tryz.underlying3 (WalkArith.wf_i64 (by omega))) ?_; rw [hlk]; simp only [Option.map_some, Option.getD_some, Option.isSome_some, kindV])
            | (refine wpList_store_blk rfl 100 (.tmp 7) (.tmp 21) rfl w2.heap.size 100 #[.nilFunc] #[.func (.func id) #[] #[]] rfl rfl (Blk.new w2 _ _) rfl (by kernel_rfl) (by simp [Value.oneCell']) ?_; intro w3 b3 g3
               have hb3 : Below w2.heap.size w2 w3 := (below_one w2 _).grown g3 (by simp) (fun j hj => by cases hj; exact Nat.le_refl _)
               have hbw : Below wr.heap.size wr w3 := below_step hb2 hb3 (Nat.le_refl _)
               have f0 : w3.cell? ⟨w2.heap.size, 0, none⟩ = some (.func (.func id) #[] #[]) := b3.cell 0
               have lf := b3.lt
               have b23 : Blk w3 wr.heap.size 34 #[.int .i64 k, .int .i64 m, .slice A' q c'] := Blk.on b2 hb3)
            | (refine wpList_load_row rfl 34 (.tmp 6) rfl wr.heap.size rfl 34 #[.int .i64 k, .int .i64 m, .slice A' q c'] (0, 0) _ b23 Tryz.underlying34 rfl (by kernel_rfl) ?_)
            | (refine (HCALL.out w3 hbw).mono ?_; rintro e w4 ⟨rfl, F2, hF2, hJ4, hW4⟩))
          go_roundw
          case rel => exact ⟨i + 1, F2, by omega, by go_num, Lib.hid ((HS2.out.below hbw).step hJ4 hW4 (by rw [hF2]; simp only [HZ.out]) (by simp only [HZ.out]; omega))⟩
          case measure => simp [intOf]; omega
    · obtain rfl : i = n := by omega
      have hS := HS.out
      have he := hS.ends
      rw [List.drop_eq_nil_of_le (by rw [HN.out]; exact Nat.le_refl _)] at he
      go_wp2_with fail
      go_returns
      rw [← he]
      exact ⟨rfl, F1, rfl, hS.job, hS.went⟩

end Go.Proofs.YtffffjngodinnaaGreatDoor
end

section
namespace Go.Proofs.YtffffjngodinnaaGreatDoor
open Go.RowKit Go.Maps

theorem Tryz.infoAct : (Tryz.prog.info? 34).map (fun i => (i.zero, i.size, i.bytes)) = some (some (.agg #[.int .i64 0, .int .i64 0, .slice none 0 0]), 3, 40) := by kernel_rfl
theorem actsC_oneCell (l : List ActIt) : ∀ u ∈ actsC l, u.oneCell' = true := by
  intro u hu
  obtain ⟨a, _, hq⟩ := List.mem_flatMap.1 hu
  simp only [actC, List.mem_cons, List.not_mem_nil, or_false] at hq
  rcases hq with rfl | rfl | rfl <;> rfl

set_option maxHeartbeats 400000 in
theorem cloneA_any (A : Option Addr) (n cap : Nat) (l : List ActIt) (w : World) (B : Nat) (hn : n = l.length) (hr : Reads w B 3 A n (actsC l)) (hB : B ≤ w.heap.size) (hl : n ≤ 2097152) :
    Calls Tryz.prog 36 #[.slice A n cap] w fun e w' => ∃ v, e = .returned v ∧ w'.ownsRow w.heap.size 34 3 v n (actsC l) ∧ Below w.heap.size w w' := by
  have heq := fun (W : World) => Lib.run_eql_slice_nil (P := Tryz.prog) W 31 34 A n cap 0 0 Tryz.underlying31
  have hR := Lib.hid hr
  have hN := Lib.hid hn
  clear hr hn
  cases A with
  | none =>
    go_enter Tryz.func36, Tryz.ntmps36
    go_wp2
    go_returns
    have h0 : n = 0 := by
      rcases Nat.eq_zero_or_pos n with h | h
      · exact h
      · obtain ⟨ad, h, _⟩ := hR.out.2 h
        cases h
    have hnil : l = [] := List.eq_nil_of_length_eq_zero (hN.out.symm.trans h0)
    subst hnil h0
    exact ⟨_, rfl, World.ownsRow_nil _ _ _ _, Below.refl _ _⟩
  | some ad =>
    obtain ⟨iS, hiS, hS0, hS1, hS2⟩ := info_parts Tryz.infoAct
    have HI := Lib.hid hiS
    have H0 := Lib.hid hS0
    have H1 := Lib.hid hS1
    have H2 := Lib.hid hS2
    clear hiS hS0 hS1 hS2
    go_enter Tryz.func36, Tryz.ntmps36
    go_wp2_with (at_builtin; refine wpList_append_any _ rfl _ _ 31 rfl w.heap.size 34 iS (.agg #[.int .i64 0, .int .i64 0, .slice none 0 0]) 3 40 Tryz.underlying31 HI.out H0.out H1.out H2.out rfl (by decide) (.slice (some ⟨w.heap.size, 0, none⟩) 0 0) 0 [] rfl (World.ownsRow_made w #[] 0 (Nat.le_refl _) (by decide) rfl) w.heap.size (some ad) n cap (actsC l) rfl ((hR.out.more hB).alloc (Nat.le_refl _) _) (actsC_oneCell l) (by simp only [maxLen]; omega) (by omega) (by simp) ?_; intro v1 w1 hown1 hg1 hat1)
    go_returns
    refine ⟨v1, rfl, by simpa using hown1, ((Below.refl _ _).alloc (Nat.le_refl _) _).grown hg1 (by simp) (fun k hk => ?_)⟩
    simp [Value.ownBlock] at hk
    omega

set_option maxHeartbeats 400000 in
theorem cloneU_any (w : World) (A : Option Addr) (c : Nat) (bs : List UInt8) (h : Bytes w w.heap.size (.slice A bs.length c) bs) (hl : bs.length ≤ 140737488355328) :
    Calls Tryz.prog 37 #[.slice A bs.length c] w fun e w' => ∃ v, e = .returned v ∧ w'.ownsRow w.heap.size 5 1 v bs.length (bytesC bs) ∧ Below w.heap.size w w' := by
  obtain ⟨A', cap', e, h2, h3, h4, h5⟩ := h
  cases e
  obtain ⟨n, hn⟩ : ∃ n, bs.length = n := ⟨_, rfl⟩
  rw [hn] at h2 h5 hl ⊢
  have hR := Lib.hid h5
  have hN := Lib.hid hn
  cases A with
  | none =>
    have hc := h4 rfl
    subst hc
    obtain rfl : n = 0 := by omega
    refine (cloneU_nil w).mono ?_
    rintro e w' ⟨rfl, rfl⟩
    have hnil : bs = [] := List.eq_nil_of_length_eq_zero hN.out
    subst hnil
    exact ⟨_, rfl, World.ownsRow_nil _ _ _ _, Below.refl _ _⟩
  | some ad =>
    have heq := fun (W : World) => Lib.run_eql_slice_nil (P := Tryz.prog) W 23 5 (some ad) n c 0 0 Tryz.underlying23
    obtain ⟨iB, hiB, hB0, hB1, hB2⟩ := info_parts Tryz.infoByte
    have HI := Lib.hid hiB
    have H0 := Lib.hid hB0
    have H1 := Lib.hid hB1
    have H2 := Lib.hid hB2
    clear hiB hB0 hB1 hB2 h5 hn
    go_enter Tryz.func37, Tryz.ntmps37
    go_wp2_with (at_builtin; refine wpList_append_any _ rfl _ _ 23 rfl w.heap.size 5 iB (.int .u8 0) 1 1 Tryz.underlying23 HI.out H0.out H1.out H2.out rfl (by decide) (.slice (some ⟨w.heap.size, 0, none⟩) 0 0) 0 [] rfl (World.ownsRow_made w #[] 0 (Nat.le_refl _) (by decide) rfl) w.heap.size (some ad) n c (bytesC bs) rfl (hR.out.alloc (Nat.le_refl _) _) (bytesC_oneCell bs) (by simp only [maxLen]; omega) (by omega) (by simp) ?_; intro v1 w1 hown1 hg1 hat1)
    go_returns
    refine ⟨v1, rfl, by simpa using hown1, ((Below.refl _ _).alloc (Nat.le_refl _) _).grown hg1 (by simp) (fun k hk => ?_)⟩
    simp [Value.ownBlock] at hk
    omega

/-- an act without its place in memory -/
def ActIt.strip (a : ActIt) : Int × Int × List UInt8 := (a.k, a.n, a.bs)
theorem PF.acts_strip (fl : List (Int × Int)) : ∀ (l l' : List ActIt) (s : PF), l.map ActIt.strip = l'.map ActIt.strip → s.acts fl l = s.acts fl l' ∧ (s.FitsAll fl l → s.FitsAll fl l')
  | [], [], _, _ => ⟨rfl, id⟩
  | [], b :: l', _, h => by simp at h
  | a :: l, [], _, h => by simp at h
  | a :: l, b :: l', s, h => by
    simp only [List.map_cons, List.cons.injEq, ActIt.strip, Prod.mk.injEq] at h
    obtain ⟨⟨h1, h2, h3⟩, h4⟩ := h
    have ih := fun s' => PF.acts_strip fl l l' s' h4
    rw [PF.acts, PF.acts, h1, h2, h3]
    refine ⟨by rw [(ih _).1], ?_⟩
    unfold PF.FitsAll
    rw [h1, h2, h3]
    exact fun h => ⟨h.1, (ih _).2 h.2⟩

end Go.Proofs.YtffffjngodinnaaGreatDoor
end

section
namespace Go.Proofs.YtffffjngodinnaaGreatDoor

namespace PF
variable {fl : List (Int × Int)}
/-- what may not grow much -/
structure Grew (fl : List (Int × Int)) (s s' : PF) (d e : Nat) : Prop where
  used : s.used ≤ fl.length → s'.used ≤ fl.length
  steps : s.used ≤ fl.length → s'.steps + s'.left fl + s'.inb.length ≤ s.steps + s.left fl + s.inb.length + d
  said : ∀ b, (s'.said b).length + s'.inb.length ≤ (s.said b).length + s.inb.length + e
theorem Grew.trans {s s' s'' : PF} {d e d' e' : Nat} (h : Grew fl s s' d e) (h' : Grew fl s' s'' d' e') : Grew fl s s'' (d + d') (e + e') :=
  ⟨fun hu => h'.used (h.used hu), fun hu => by have := h.steps hu; have := h'.steps (h.used hu); omega, fun b => by have := h.said b; have := h'.said b; omega⟩
theorem Grew.refl (s : PF) : Grew fl s s 0 0 := ⟨id, fun _ => Nat.le_refl _, fun _ => Nat.le_refl _⟩
theorem Grew.more {s s' : PF} {d e d' e' : Nat} (h : Grew fl s s' d e) (hd : d ≤ d') (he : e ≤ e') : Grew fl s s' d' e' :=
  ⟨h.used, fun hu => by have := h.steps hu; omega, fun b => by have := h.said b; omega⟩
theorem grew_failed {s : PF} (h : wErr (s.next fl) ≠ 0 ∨ (s.next fl).1 = 2) : Grew fl s (s.failed fl) 0 0 := by
  refine ⟨fun hu => (took_le hu).1, fun hu => ?_, fun b => Nat.le_refl _⟩
  have ht := took_lt h hu
  show s.steps + 1 + (fl.length - s.took fl) + s.inb.length ≤ s.steps + (fl.length - s.used) + s.inb.length + 0
  omega
theorem grew_wrote {s : PF} (b : Bool) (bs : List UInt8) : Grew fl s (s.wrote fl b bs) 1 bs.length := by
  refine ⟨fun hu => (took_le hu).1, fun hu => ?_, fun b' => ?_⟩
  · have ht := took_le (fl := fl) hu
    show s.steps + 1 + (fl.length - s.took fl) + s.inb.length ≤ s.steps + (fl.length - s.used) + s.inb.length + 1
    omega
  · show (if b' = b then s.said b ++ bs else s.said b').length + s.inb.length ≤ _
    split
    · subst b'; rw [List.length_append]; omega
    · omega
theorem grew_all : ∀ (f : Nat) (s : PF) (b : Bool) (bs : List UInt8), Grew fl s (all fl f s b bs).1 bs.length bs.length ∧ (all fl f s b bs).1.held = s.held
  | 0, s, b, bs => ⟨(Grew.refl s).more (Nat.zero_le _) (Nat.zero_le _), rfl⟩
  | f + 1, s, b, bs => by
    rw [all]
    split
    · exact ⟨(Grew.refl s).more (Nat.zero_le _) (Nat.zero_le _), rfl⟩
    · rename_i hne
      have hpos := List.length_pos_iff.2 hne
      split
      · rename_i h9
        have ih := grew_all f (s.failed fl) b bs
        exact ⟨((grew_failed (.inl (by rw [h9]; decide))).trans ih.1).more (by omega) (by omega), ih.2⟩
      · split
        · have hp := some_pos (fl := fl) (s := s) hpos
          have ih := grew_all f (s.wrote fl b (bs.take (s.some_ fl bs.length))) b (bs.drop (s.some_ fl bs.length))
          refine ⟨((grew_wrote b (bs.take (s.some_ fl bs.length))).trans ih.1).more ?_ ?_, ih.2⟩
          · rw [List.length_drop]; omega
          · rw [List.length_drop, List.length_take]; omega
        · rename_i h0
          exact ⟨(grew_failed (.inl h0)).more (Nat.zero_le _) (Nat.zero_le _), rfl⟩
/-- what was read counts as what is to be written -/
theorem grew_copies : ∀ (f : Nat) (s : PF) (m : Nat), Grew fl s (copy2 fl (reads fl f s m)).1 1 0 ∧ (copy2 fl (reads fl f s m)).1.held = s.held
  | 0, s, m => ⟨(Grew.refl s).more (by omega) (Nat.le_refl _), rfl⟩
  | f + 1, s, m => by
    rw [reads]
    split
    · rename_i h2
      have ih := grew_copies f (s.failed fl) m
      exact ⟨((grew_failed (.inr h2)).trans ih.1).more (by omega) (by omega), ih.2⟩
    · split
      · rename_i h4
        have hw : wErr (s.next fl) ≠ 0 := by unfold wErr; rw [if_neg (by rw [h4]; decide), if_pos h4]; decide
        exact ⟨(grew_failed (.inl hw)).more (by omega) (Nat.le_refl _), rfl⟩
      · obtain ⟨n, hn⟩ : ∃ n, s.some_ fl (min m s.inb.length) = n := ⟨_, rfl⟩
        have hnl := some_le (fl := fl) (s := s) (min m s.inb.length)
        rw [hn] at hnl ⊢
        have htl : (s.inb.take n).length = n := by rw [List.length_take]; omega
        have ih := grew_all (fl := fl) ((s.read fl n).left fl + (s.inb.take n).length + 1) (s.read fl n) true (s.inb.take n)
        rw [htl] at ih
        have hdl : (s.read fl n).inb.length = s.inb.length - n := List.length_drop
        show Grew fl s (all fl ((s.read fl n).left fl + (s.inb.take n).length + 1) (s.read fl n) true (s.inb.take n)).1 1 0 ∧ (all fl ((s.read fl n).left fl + (s.inb.take n).length + 1) (s.read fl n) true (s.inb.take n)).1.held = s.held
        rw [htl]
        refine ⟨⟨fun hu => ih.1.used (took_le hu).1, fun hu => ?_, fun b => ?_⟩, ih.2⟩
        · have h1 := ih.1.steps (took_le (fl := fl) hu).1
          have h2 := took_le (fl := fl) hu
          have h3 : (s.read fl n).steps = s.steps + 1 := rfl
          have h4 : (s.read fl n).left fl ≤ s.left fl := by show fl.length - s.took fl ≤ fl.length - s.used; omega
          rw [hdl] at h1
          omega
        · have h1 := ih.1.said b
          have h2 : (s.read fl n).said b = s.said b := rfl
          rw [hdl, h2] at h1
          omega
theorem grew_act (s : PF) (k n : Int) (bs : List UInt8) : Grew fl s (s.act fl k n bs).1 (bs.length + 1) bs.length := by
  unfold act
  split
  · exact (grew_copies _ s _).1.more (by omega) (by omega)
  split
  · exact (grew_all _ s true bs).1.more (by omega) (by omega)
  split
  · exact (grew_all _ s false bs).1.more (by omega) (by omega)
  split
  · exact ⟨id, fun _ => by show s.steps + (fl.length - s.used) + s.inb.length ≤ s.steps + (fl.length - s.used) + s.inb.length + _; omega, fun b => by show (s.said b).length + s.inb.length ≤ _; omega⟩
  split
  · exact ⟨id, fun _ => by show s.steps + (fl.length - s.used) + s.inb.length ≤ s.steps + (fl.length - s.used) + s.inb.length + _; omega, fun b => by show (s.said b).length + s.inb.length ≤ _; omega⟩
  split
  · exact (Grew.refl s).more (by omega) (by omega)
  · exact (Grew.refl s).more (by omega) (by omega)
theorem held_act (s : PF) (k n : Int) (bs : List UInt8) (h : Nat) (hh : s.held = (h : Int)) : ∃ h' : Nat, (s.act fl k n bs).1.held = (h' : Int) ∧ (h' : Int) ≤ h + (if k = 4 then max 0 n else 0) := by
  unfold act
  split
  · exact ⟨h, (grew_copies _ s _).2.trans hh, by split <;> omega⟩
  split
  · exact ⟨h, (grew_all _ s true bs).2.trans hh, by split <;> omega⟩
  split
  · exact ⟨h, (grew_all _ s false bs).2.trans hh, by split <;> omega⟩
  split
  · exact ⟨((h : Int) + max 0 n).toNat, by show s.held + max 0 n = _; rw [hh]; omega, by omega⟩
  split
  · refine ⟨(dropped h n).toNat, ?_, ?_⟩
    · show dropped s.held n = _
      rw [hh]
      unfold dropped
      split <;> omega
    · unfold dropped
      split <;> omega
  split
  · exact ⟨h, hh, by omega⟩
  · exact ⟨h, hh, by omega⟩

/-- how much acts bring along; how much they hold -/
def bulk (l : List ActIt) : Nat := (l.map fun a => a.bs.length + 1).sum
def held_ (l : List ActIt) : Int := (l.map fun a => if a.k = 4 then max 0 a.n else 0).sum
theorem held_nonneg (l : List ActIt) : 0 ≤ held_ l := by
  induction l with
  | nil => exact Int.le_refl _
  | cons a l ih => simp only [held_, List.map_cons, List.sum_cons] at ih ⊢; split <;> omega
theorem fits_small : ∀ (l : List ActIt) (s : PF), s.used ≤ fl.length → (∀ a ∈ l, -9223372036854775808 ≤ a.n ∧ a.n ≤ 9223372036854775807) → s.steps + s.left fl + s.inb.length + bulk l + 2 < 4611686018427387904 →
    (∀ b, (s.said b).length + s.inb.length + bulk l ≤ 140737488355000) → (∃ h : Nat, s.held = (h : Int) ∧ (h : Int) + held_ l < 4611686018427387904) → s.FitsAll fl l
  | [], _, _, _, _, _, _ => trivial
  | a :: l, s, hu, hn, hs, hd, ⟨h, hh, hhl⟩ => by
    have hb : bulk (a :: l) = a.bs.length + 1 + bulk l := by simp [bulk]
    have hc : held_ (a :: l) = (if a.k = 4 then max 0 a.n else 0) + held_ l := by simp [held_]
    have hp0 : 0 ≤ (if a.k = 4 then max 0 a.n else 0) := by split <;> omega
    have hp := held_nonneg l
    rw [hb] at hs
    rw [hc] at hhl
    have hg := grew_act (fl := fl) s a.k a.n a.bs
    obtain ⟨h', h1, h2⟩ := held_act (fl := fl) s a.k a.n a.bs h hh
    refine ⟨⟨hn a (by simp), by omega, fun b => by have := hd b; rw [hb] at this; omega, h, hh, by omega, fun e => by rw [if_pos e] at hhl; omega⟩, ?_⟩
    refine fits_small l _ (hg.used hu) (fun x hx => hn x (by simp [hx])) ?_ (fun b => ?_) ⟨h', h1, by omega⟩
    · have := hg.steps hu
      omega
    · have h3 := hg.said b
      have h4 := hd b
      rw [hb] at h4
      omega
end PF

end Go.Proofs.YtffffjngodinnaaGreatDoor
end

section
namespace Go.Proofs.YtffffjngodinnaaGreatDoor
open Go.RowKit Go.Maps Go.Shelf

namespace PF
/-- faults that only interrupt, or cut short -/
def Mild (fl : List (Int × Int)) : Prop := ∀ f ∈ fl, f.1 < 3 ∨ 5 < f.1

section
variable {fl : List (Int × Int)} {s s' : PF}
theorem Mild.next (h : Mild fl) (s : PF) : (s.next fl).1 < 3 ∨ 5 < (s.next fl).1 := by
  unfold PF.next
  rw [List.getD_eq_getElem?_getD]
  cases e : fl[s.used]? with
  | none => left; decide
  | some f => exact h f (List.mem_of_getElem? e)
theorem said_nil (b : Bool) : (fun b' => if b' = b then s.said b ++ [] else s.said b') = s.said := by
  funext b'
  by_cases h : b' = b
  · subst h; simp
  · simp [h]

theorem all_steps (b : Bool) : ∀ (f : Nat) (s : PF) (bs : List UInt8), s.steps ≤ (all fl f s b bs).1.steps := by
  intro f
  induction f with
  | zero => intro s bs; exact Nat.le_refl _
  | succ f ih =>
    intro s bs
    rw [all]
    split
    · exact Nat.le_refl _
    split
    · exact Nat.le_trans (Nat.le_succ _) (ih (s.failed fl) bs)
    split
    · exact Nat.le_trans (Nat.le_succ _) (ih (s.wrote fl b _) _)
    · exact Nat.le_succ _
theorem all_mild (hm : Mild fl) (b : Bool) : ∀ (f : Nat) (s : PF) (bs : List UInt8), s.used ≤ fl.length → s.left fl + bs.length < f → ∃ k u, all fl f s b bs = ({ s with steps := s.steps + k, said := fun b' => if b' = b then s.said b ++ bs else s.said b', used := s.used + u }, -1) ∧ (bs = [] → k = 0 ∧ u = 0) ∧ k ≤ u + 1 ∧ s.used + u ≤ fl.length := by
  intro f
  induction f with
  | zero => intro s bs _ h; omega
  | succ f ih =>
    intro s bs hu hf
    by_cases hb : bs = []
    · subst hb
      refine ⟨0, 0, ?_, fun _ => ⟨rfl, rfl⟩, by omega, by omega⟩
      simp only [all, if_true, Nat.add_zero]
      rw [said_nil]
    · have hlen : 0 < bs.length := List.length_pos_iff.2 hb
      have hwr : wErr (s.next fl) = 0 → ∃ k u, all fl (f + 1) s b bs = ({ s with steps := s.steps + k, said := fun b' => if b' = b then s.said b ++ bs else s.said b', used := s.used + u }, -1) ∧ (bs = [] → k = 0 ∧ u = 0) ∧ k ≤ u + 1 ∧ s.used + u ≤ fl.length := by
        intro he
        obtain ⟨hp1, hp2⟩ := some_pos (fl := fl) (s := s) hlen
        obtain ⟨m, hmm⟩ : ∃ m, s.some_ fl bs.length = m := ⟨_, rfl⟩
        rw [hmm] at hp1 hp2
        obtain ⟨t1, t2⟩ := took_le (fl := fl) hu
        have hdl : (bs.drop m).length = bs.length - m := List.length_drop
        obtain ⟨k, u, h4, h5, h6, h7⟩ := ih (s.wrote fl b (bs.take m)) (bs.drop m) t1 (by
          have e1 : (s.wrote fl b (bs.take m)).left fl = fl.length - s.took fl := rfl
          have e2 : s.left fl = fl.length - s.used := rfl
          omega)
        have h7' : s.took fl + u ≤ fl.length := h7
        refine ⟨k + 1, (s.took fl - s.used) + u, ?_, fun e => absurd e hb, ?_, by omega⟩
        · rw [all, if_neg hb, if_neg (by rw [he]; decide), if_pos he, hmm, h4]
          have hs : (fun b' => if b' = b then (s.wrote fl b (bs.take m)).said b ++ bs.drop m else (s.wrote fl b (bs.take m)).said b') = fun b' => if b' = b then s.said b ++ bs else s.said b' := by
            funext b'
            by_cases h : b' = b
            · subst h
              simp [wrote, List.append_assoc, List.take_append_drop]
            · simp [wrote, h]
          rw [hs]
          simp only [wrote]
          congr 2 <;> omega
        · by_cases hd : bs.drop m = []
          · obtain ⟨rfl, rfl⟩ := h5 hd
            omega
          · have hml : m < bs.length := by
              have := List.length_pos_iff.2 hd
              omega
            have hne : s.used ≠ fl.length := by
              intro e
              have : s.some_ fl bs.length = bs.length := by
                unfold some_ shortN
                rw [next_free e]
                simp
              omega
            have : s.took fl = s.used + 1 := if_neg hne
            omega
      by_cases h2 : (s.next fl).1 = 2
      · have he : wErr (s.next fl) = 9 := by unfold wErr; rw [if_pos h2]
        obtain ⟨ht, hlt⟩ := took_lt (.inr h2) hu
        obtain ⟨k, u, h4, _, h6, h7⟩ := ih (s.failed fl) bs (by show s.took fl ≤ _; omega) (by
          have : (s.failed fl).left fl = fl.length - (s.used + 1) := by show fl.length - s.took fl = _; rw [ht]
          have e2 : s.left fl = fl.length - s.used := rfl
          omega)
        refine ⟨k + 1, u + 1, ?_, fun e => absurd e hb, by omega, ?_⟩
        · rw [all, if_neg hb, if_pos he, h4]
          simp only [failed, ht]
          congr 2 <;> omega
        · have : (s.failed fl).used = s.used + 1 := ht
          omega
      · refine hwr ?_
        have := hm.next s
        unfold wErr
        rw [if_neg h2, if_neg (by omega), if_neg (by omega), if_neg (by omega)]

/-- without faults all goes at once -/
theorem all_free (b : Bool) (f : Nat) (s : PF) (bs : List UInt8) (hu : s.used = 0) (hf : bs.length < f) : ∃ k, all [] f s b bs = ({ s with steps := s.steps + k, said := fun b' => if b' = b then s.said b ++ bs else s.said b' }, -1) ∧ (bs ≠ [] → k = 1) := by
  obtain ⟨k, u, h1, h2, h3, h4⟩ := all_mild (fl := []) (fun _ h => by cases h) b f s bs (by simp [hu]) (by simp [left]; omega)
  have hu0 : u = 0 := by simp at h4; omega
  subst hu0
  refine ⟨k, h1, fun hne => ?_⟩
  cases f with
  | zero => omega
  | succ f =>
    have hk : k ≠ 0 := by
      intro e
      subst e
      have hx : (all [] (f + 1) s b bs).1.steps = s.steps := by rw [h1]; rfl
      rw [all, if_neg hne, if_neg (by rw [next_free hu]; decide), if_pos (by rw [next_free hu]; rfl)] at hx
      have hmono := all_steps (fl := []) b f (s.wrote [] b (bs.take (s.some_ [] bs.length))) (bs.drop (s.some_ [] bs.length))
      rw [hx] at hmono
      have : (s.wrote [] b (bs.take (s.some_ [] bs.length))).steps = s.steps + 1 := rfl
      omega
    omega

/-- two runs that are alike but for steps and faults -/
structure Like (s s' : PF) : Prop where
  said : s.said = s'.said
  held : s.held = s'.held
  peak : s.peak = s'.peak
  steps : s.steps ≤ s'.steps + s.used
  free : s'.used = 0
theorem act_like (hm : Mild fl) (k n : Int) (bs : List UInt8) (hk : k ≠ 1) (hl : Like s s') (hu : s.used ≤ fl.length) : (s.act fl k n bs).2 = (s'.act [] k n bs).2 ∧ Like (s.act fl k n bs).1 (s'.act [] k n bs).1 ∧ (s.act fl k n bs).1.used ≤ fl.length := by
  have hall : ∀ b : Bool, (all fl (s.left fl + bs.length + 1) s b bs).2 = (all [] (s'.left [] + bs.length + 1) s' b bs).2 ∧ Like (all fl (s.left fl + bs.length + 1) s b bs).1 (all [] (s'.left [] + bs.length + 1) s' b bs).1 ∧ (all fl (s.left fl + bs.length + 1) s b bs).1.used ≤ fl.length := by
    intro b
    obtain ⟨k1, u1, e1, a1, a2, a3⟩ := all_mild hm b (s.left fl + bs.length + 1) s bs hu (Nat.lt_succ_self _)
    obtain ⟨k2, e2, a4⟩ := all_free b (s'.left [] + bs.length + 1) s' bs hl.free (by omega)
    rw [e1, e2]
    refine ⟨rfl, ⟨?_, hl.held, hl.peak, ?_, hl.free⟩, a3⟩
    · show (fun b' => if b' = b then s.said b ++ bs else s.said b') = fun b' => if b' = b then s'.said b ++ bs else s'.said b'
      rw [hl.said]
    · show s.steps + k1 ≤ s'.steps + k2 + (s.used + u1)
      have := hl.steps
      by_cases hb : bs = []
      · have := (a1 hb).1
        omega
      · have := a4 hb
        omega
  unfold act
  rw [if_neg hk, if_neg hk]
  by_cases h2 : k = 2
  · rw [if_pos h2, if_pos h2]; exact hall true
  rw [if_neg h2, if_neg h2]
  by_cases h3 : k = 3
  · rw [if_pos h3, if_pos h3]; exact hall false
  rw [if_neg h3, if_neg h3]
  by_cases h4 : k = 4
  · rw [if_pos h4, if_pos h4]
    refine ⟨rfl, ⟨hl.said, ?_, ?_, hl.steps, hl.free⟩, hu⟩
    · show s.held + _ = s'.held + _; rw [hl.held]
    · show max s.peak _ = max s'.peak _; rw [hl.held, hl.peak]
  rw [if_neg h4, if_neg h4]
  by_cases h5 : k = 5
  · rw [if_pos h5, if_pos h5]
    refine ⟨rfl, ⟨hl.said, ?_, hl.peak, hl.steps, hl.free⟩, hu⟩
    show dropped s.held n = dropped s'.held n; rw [hl.held]
  rw [if_neg h5, if_neg h5]
  by_cases h6 : k = 6
  · rw [if_pos h6, if_pos h6]; exact ⟨rfl, hl, hu⟩
  rw [if_neg h6, if_neg h6]
  exact ⟨rfl, hl, hu⟩
/-- THE STAGE'S THEOREM, plain -/
theorem acts_like (hm : Mild fl) : ∀ (l : List ActIt) (s s' : PF), (∀ a ∈ l, a.k ≠ 1) → Like s s' → s.used ≤ fl.length → (acts fl s l).2 = (acts [] s' l).2 ∧ Like (acts fl s l).1 (acts [] s' l).1 ∧ (acts fl s l).1.used ≤ fl.length := by
  intro l
  induction l with
  | nil => intro s s' _ hl hu; exact ⟨rfl, hl, hu⟩
  | cons a l ih =>
    intro s s' hk hl hu
    obtain ⟨h1, h2, h3⟩ := act_like hm a.k a.n a.bs (hk a (by simp)) hl hu
    unfold acts
    rw [h1]
    by_cases h0 : 0 ≤ (s'.act [] a.k a.n a.bs).2
    · rw [if_pos h0, if_pos h0]
      exact ⟨h1, h2, h3⟩
    · rw [if_neg h0, if_neg h0]
      exact ih _ _ (fun x hx => hk x (by simp [hx])) h2 h3

end
end PF
end Go.Proofs.YtffffjngodinnaaGreatDoor
end
