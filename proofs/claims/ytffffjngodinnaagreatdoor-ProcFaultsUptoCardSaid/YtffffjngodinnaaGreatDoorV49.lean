/-
  Parts of the proof: toolchestref02.Same of rows of the same nodes; toolchestref04.Mild and Alike; toolchestref04.Alike of two results that say the same; A walk over RunActs of any job that may not be (printed by wip/tools/runactst.py).
-/
import Derived.Test.YtffffjngodinnaaGreatDoorV44
import Derived.Test.YtffffjngodinnaaGreatDoorV15
import Derived.Test.YtffffjngodinnaaGreatDoorV07
import Derived.Test.YtffffjngodinnaaGreatDoorV32
import Derived.Test.YtffffjngodinnaaGreatDoorV48
import Derived.Test.YtffffjngodinnaaGreatDoorV34

section
namespace Go.Proofs.YtffffjngodinnaaGreatDoor
open Go.RowKit Go.Maps Go.Shelf

/-- where a node of a row lies -/
theorem reads_node {w : World} {B n i : Nat} {NA : Option Addr} {L : List NodeIt} {x : NodeIt} (hr : Reads w B 6 NA n (nodesC L)) (hn : L.length = n) (hx : L[i]? = some x) : ∃ gb off, NA = some ⟨gb, off, none⟩ ∧ gb < B ∧ w.rangeAt gb (off + i * 6) (nodeC x) := by
  have hlt : i < L.length := (List.getElem?_eq_some_iff.1 hx).1
  obtain ⟨ad, rfl, hb, hc⟩ := hr.2 (by omega)
  obtain ⟨gb, off, sp⟩ := ad
  have h0 := nodesC_at hx 0 (by omega)
  have hc0 := hc (i * 6 + 0) _ (h0.trans rfl)
  have hsp : sp = none := by
    cases i with
    | zero =>
      have hc1 : w.cell? ⟨gb, off, sp⟩ = some (.string x.path) := hc0
      cases sp with
      | none => rfl
      | some y =>
        unfold World.cell? at hc1
        split at hc1
        · simp at hc1
        · cases hc1
    | succ i' =>
      have hz := hc 0 ((nodesC L)[0]'(by rw [nodesC_len]; omega)) (List.getElem?_eq_getElem (by rw [nodesC_len]; omega))
      have hc1 : w.cell? ⟨gb, off, sp⟩ = some ((nodesC L)[0]'(by rw [nodesC_len]; omega)) := hz
      cases sp with
      | none => rfl
      | some y =>
        unfold World.cell? at hc1
        split at hc1
        · simp at hc1
        · cases hc1
  subst hsp
  refine ⟨gb, off, rfl, hb, fun j u hu => ?_⟩
  have hj : j < 6 := by
    by_cases hj : j < 6
    · exact hj
    · rw [List.getElem?_eq_none (by show 6 ≤ j; omega)] at hu; cases hu
  have h1 := hc (i * 6 + j) u ((nodesC_at hx j hj).trans hu)
  have e : (⟨gb, off, none⟩ : Addr).add (i * 6 + j) = ⟨gb, off + i * 6 + j, none⟩ := by unfold Addr.add; split <;> simp_all [Nat.add_assoc]
  rw [e] at h1
  exact h1
theorem nd_inj {p p' : ByteArray} (h : p.data.toList = p'.data.toList) : p = p' := ByteArray.ext (Array.ext' h)

set_option maxRecDepth 100000 in
set_option maxHeartbeats 4000000 in
theorem same_true (w : World) (NA1 : Option Addr) (c1 n : Nat) (L1 : List NodeIt) (NA2 : Option Addr) (c2 : Nat) (L2 : List NodeIt) (hn : n ≤ maxLen) (h1 : L1.length = n) (h2 : L2.length = n) (r1 : Reads w w.heap.size 6 NA1 n (nodesC L1)) (r2 : Reads w w.heap.size 6 NA2 n (nodesC L2))
    (d1 : ∀ x ∈ L1, Reads w w.heap.size 1 x.A x.data.length (bytesC x.data)) (d2 : ∀ x ∈ L2, Reads w w.heap.size 1 x.A x.data.length (bytesC x.data)) (heq : L1.map NodeIt.nd = L2.map NodeIt.nd) :
    Calls Tryz.prog 24 #[.slice NA1 n c1, .slice NA2 n c2] w fun e w' => e = .returned (.bool true) ∧ Below w.heap.size w w' := by
  have HN := Lib.hid hn
  have H1 := Lib.hid h1
  have H2 := Lib.hid h2
  have R1 := Lib.hid r1
  have R2 := Lib.hid r2
  have D1 := Lib.hid d1
  have D2 := Lib.hid d2
  have HEQ := Lib.hid heq
  clear hn h1 h2 r1 r2 d1 d2 heq
  go_enter Tryz.func24, Tryz.ntmps24
  go_wp2_with fail
  go_loopw [5] (fun iv wr => ∃ (i : Nat), i ≤ n ∧ iv = .int .i64 (i : Int) ∧ Hid (Below w.heap.size w wr)) (fun iv _ => n - (intOf iv).toNat)
  case atStart => exact ⟨0, Nat.zero_le _, rfl, Lib.hid (Below.refl _ _)⟩
  case round =>
    obtain ⟨i, hi, rfl, HS⟩ := hrel
    by_cases hlt : i < n
    · obtain ⟨x, hx⟩ : ∃ x, L1[i]? = some x := ⟨_, List.getElem?_eq_getElem (by rw [H1.out]; exact hlt)⟩
      obtain ⟨y, hy⟩ : ∃ y, L2[i]? = some y := ⟨_, List.getElem?_eq_getElem (by rw [H2.out]; exact hlt)⟩
      obtain ⟨g1, o1, hN1, hg1, hra1⟩ := reads_node (R1.out.below HS.out) H1.out hx
      obtain ⟨g2, o2, hN2, hg2, hra2⟩ := reads_node R2.out H2.out hy
      have e0 : x.nd = y.nd := by
        have h := congrArg (fun l => l[i]?) HEQ.out
        simp only [List.getElem?_map, hx, hy, Option.map_some, Option.some.injEq] at h
        exact h
      have hra2w : ∀ W, Below w.heap.size w W → W.rangeAt g2 (o2 + i * 6) (nodeC y) := fun W hW => by
        obtain ⟨g', o', e', _, h'⟩ := reads_node (R2.out.below hW) H2.out hy
        rw [hN2] at e'
        cases e'
        exact h'
      have hd1 := D1.out x (List.mem_of_getElem? hx)
      have hd2 := D2.out y (List.mem_of_getElem? hy)
      subst hN1 hN2
      obtain ⟨p, d, m, k, o, A, c, bs⟩ := x
      obtain ⟨p', d', m', k', o', A', c', bs'⟩ := y
      simp only [NodeIt.nd, Abs.Nd.mk.injEq] at e0
      obtain ⟨ep, rfl, rfl, rfl, rfl, rfl⟩ := e0
      obtain rfl := nd_inj ep
      obtain ⟨q, hq⟩ : ∃ q, bs.length = q := ⟨_, rfl⟩
      have hra1' : wr.rangeAt g1 (o1 + i * 6) [.string p, .bool d, .int .i64 m, .int .i64 k, .int .i64 o, .slice A q c] := by rw [← hq]; exact hra1
      have hra2' : ∀ W, Below w.heap.size w W → W.rangeAt g2 (o2 + i * 6) [.string p, .bool d, .int .i64 m, .int .i64 k, .int .i64 o, .slice A' q c'] := fun W hW => by rw [← hq]; exact hra2w W hW
      have hone : (#[.string p, .bool d, .int .i64 m, .int .i64 k, .int .i64 o, .slice A q c] : Array Value).all (·.oneCell') = true := by simp [Value.oneCell']
      have hone' : (#[.string p, .bool d, .int .i64 m, .int .i64 k, .int .i64 o, .slice A' q c'] : Array Value).all (·.oneCell') = true := by simp [Value.oneCell']
      have hi0 : (0 : Int) ≤ (i : Int) := by omega
      have hi1 : (i : Int) < (n : Int) := by omega
      have hBwr := HS.out.size
      have hl1 : g1 < wr.heap.size := Nat.lt_of_lt_of_le hg1 hBwr
      have hl2 : g2 < wr.heap.size := Nat.lt_of_lt_of_le hg2 hBwr
      obtain ⟨Sb, hSb⟩ : ∃ S, strB bs = S := ⟨_, rfl⟩
      have hcv1 : ∀ W, Below w.heap.size w W → (convert 23 9 (.slice A q c)).run Tryz.prog W = .ok (.string Sb) W := fun W hW => convOut hSb hq (hd1.below hW)
      have hcv2 : ∀ W, Below w.heap.size w W → (convert 23 9 (.slice A' q c')).run Tryz.prog W = .ok (.string Sb) W := fun W hW => convOut hSb hq (hd2.below hW)
      have HQ := Lib.hid hq
      have HRA := Lib.hid hra2'
      have HC1 := Lib.hid hcv1
      have HC2 := Lib.hid hcv2
      clear hra1 hra2 hra2w hra2' hcv1 hcv2 hd1 hd2 hx hy ep hSb hq
      go_wp2_with (first
        | (refine wpList_load_mid rfl _ _ rfl g2 (o2 + i * 6) rfl [.string p, .bool d, .int .i64 m, .int .i64 k, .int .i64 o, .slice A' q c'] _ (HRA.out w2 hb2) Tryz.underlying111 rfl (by kernel_rfl) ?_)
        | (refine wpList_store_blk rfl 111 (.tmp 7) (.tmp 26) rfl w2.heap.size 111 #[.string ⟨#[]⟩, .bool false, .int .i64 0, .int .i64 0, .int .i64 0, .slice none 0 0] #[.string p, .bool d, .int .i64 m, .int .i64 k, .int .i64 o, .slice A' q c'] rfl rfl (Blk.new w2 _ _) rfl (by kernel_rfl) hone' ?_; intro w3 b3 gr3
           have hbb : Below w2.heap.size w2 w3 := (below_one w2 _).grown gr3 (by simp) (fun j hj => by cases hj; exact Nat.le_refl _)
           have hb3 : Below w.heap.size w w3 := hb2.trans (hbb.mono hb2.size)
           have cv1 := HC1.out w3 hb3
           have cv2 := HC2.out w3 hb3
           have b2' := Blk.on b2 hbb
           have l2' := b2'.lt
           have l3' := b3.lt
           have q0 : w3.cell? ⟨wr.heap.size, 0, none⟩ = some (.string p) := b2'.cell 0
           have q1 : w3.cell? ⟨wr.heap.size, 1, none⟩ = some (.bool d) := b2'.cell 1
           have q2 : w3.cell? ⟨wr.heap.size, 2, none⟩ = some (.int .i64 m) := b2'.cell 2
           have q3 : w3.cell? ⟨wr.heap.size, 3, none⟩ = some (.int .i64 k) := b2'.cell 3
           have q4 : w3.cell? ⟨wr.heap.size, 4, none⟩ = some (.int .i64 o) := b2'.cell 4
           have q5 : w3.cell? ⟨wr.heap.size, 5, none⟩ = some (.slice A q c) := b2'.cell 5
           have s0 : w3.cell? ⟨w2.heap.size, 0, none⟩ = some (.string p) := b3.cell 0
           have s1 : w3.cell? ⟨w2.heap.size, 1, none⟩ = some (.bool d) := b3.cell 1
           have s2 : w3.cell? ⟨w2.heap.size, 2, none⟩ = some (.int .i64 m) := b3.cell 2
           have s3 : w3.cell? ⟨w2.heap.size, 3, none⟩ = some (.int .i64 k) := b3.cell 3
           have s4 : w3.cell? ⟨w2.heap.size, 4, none⟩ = some (.int .i64 o) := b3.cell 4
           have s5 : w3.cell? ⟨w2.heap.size, 5, none⟩ = some (.slice A' q c') := b3.cell 5)
        | (refine wpList_load_mid rfl _ _ rfl g1 (o1 + i * 6) rfl [.string p, .bool d, .int .i64 m, .int .i64 k, .int .i64 o, .slice A q c] _ hra1' Tryz.underlying111 rfl (by kernel_rfl) ?_)
        | (refine wpList_store_blk rfl 111 (.tmp 6) (.tmp 22) rfl wr.heap.size 111 #[.string ⟨#[]⟩, .bool false, .int .i64 0, .int .i64 0, .int .i64 0, .slice none 0 0] #[.string p, .bool d, .int .i64 m, .int .i64 k, .int .i64 o, .slice A q c] rfl rfl (Blk.new wr _ _) rfl (by kernel_rfl) hone ?_; intro w2 b2 gr2
           have hb2 : Below w.heap.size w w2 := HS.out.trans (((below_one wr _).grown gr2 (by simp) (fun j hj => by cases hj; exact Nat.le_refl _)).mono hBwr)))
      have hw1 : wrap64 ((i : Int) + 1) = ((i + 1 : Nat) : Int) := by have := HN.out; unfold maxLen at this; rw [w64 _ (by omega)]; omega
      rw [hw1]
      refine ⟨⟨i + 1, by omega, rfl, Lib.hid hb3⟩, ?_⟩
      simp only [intOf]
      omega
    · obtain rfl : i = n := by omega
      go_wp2_with fail
      go_returns
      exact ⟨rfl, HS.out⟩

/-- a row that is read lies in one block, flat -/
theorem reads_flat {w : World} {B n size : Nat} {A : Option Addr} {xs : List Value} (h : Reads w B size A n xs) (hx : xs ≠ []) : ∃ gb off, A = some ⟨gb, off, none⟩ ∧ gb < B ∧ ∀ j u, xs[j]? = some u → w.cell? ⟨gb, off + j, none⟩ = some u := by
  have hn : 0 < n := by
    rcases Nat.eq_zero_or_pos n with h0 | h0
    · have := h.1; rw [h0, Nat.zero_mul] at this; exact absurd (List.eq_nil_of_length_eq_zero this) hx
    · exact h0
  obtain ⟨ad, rfl, hb, hc⟩ := h.2 hn
  obtain ⟨gb, off, sp⟩ := ad
  have hsp : sp = none := by
    obtain ⟨u, t, rfl⟩ : ∃ u t, xs = u :: t := by cases xs with | nil => exact absurd rfl hx | cons u t => exact ⟨u, t, rfl⟩
    have hc1 : w.cell? ⟨gb, off, sp⟩ = some u := hc 0 u rfl
    cases sp with
    | none => rfl
    | some y =>
      unfold World.cell? at hc1
      split at hc1
      · simp at hc1
      · cases hc1
  subst hsp
  refine ⟨gb, off, rfl, hb, fun j u hu => ?_⟩
  have h1 := hc j u hu
  have e : (⟨gb, off, none⟩ : Addr).add j = ⟨gb, off + j, none⟩ := by unfold Addr.add; split <;> simp_all
  rw [e] at h1
  exact h1
/-- a fault that only interrupts, or cuts short -/
def mildF (f : Int × Int) : Bool := !(decide (3 ≤ f.1) && decide (f.1 ≤ 5))

set_option maxRecDepth 100000 in
set_option maxHeartbeats 2000000 in
theorem mild_any (w : World) (FA : Option Addr) (fc fn : Nat) (fl : List (Int × Int)) (hfn : fl.length = fn) (hn : fn ≤ maxLen) (hr : Reads w w.heap.size 2 FA fn (faultV fl)) :
    Calls Tryz.prog 9 #[.slice FA fn fc] w fun e w' => e = .returned (.bool (fl.all mildF)) ∧ Below w.heap.size w w' := by
  have HR := Lib.hid hr
  have HFN := Lib.hid hfn
  have HN := Lib.hid hn
  clear hr hfn hn
  go_enter Tryz.func9, Tryz.ntmps9
  go_wp2_with fail
  go_loopw [3] (fun iv wr => ∃ (i : Nat), i ≤ fn ∧ iv = .int .i64 (i : Int) ∧ Hid (fl.all mildF = (fl.drop i).all mildF) ∧ Hid (Below w.heap.size w wr)) (fun iv _ => fn - (intOf iv).toNat)
  case atStart => exact ⟨0, Nat.zero_le _, rfl, Lib.hid rfl, Lib.hid (Below.refl _ _)⟩
  case round =>
    obtain ⟨i, hi, rfl, HA, HS⟩ := hrel
    by_cases hlt : i < fn
    · obtain ⟨f, hf⟩ : ∃ f, fl[i]? = some f := ⟨_, List.getElem?_eq_getElem (by rw [HFN.out]; exact hlt)⟩
      have hdrop : fl.drop i = f :: fl.drop (i + 1) := by
        rw [List.drop_eq_getElem_cons (by rw [HFN.out]; exact hlt)]
        rw [List.getElem?_eq_getElem (by rw [HFN.out]; exact hlt)] at hf
        rw [Option.some.inj hf]
      obtain ⟨gb, off, hFA, hgb, hc⟩ := reads_flat (HR.out.below HS.out) (by intro e; have := HR.out.1; rw [e] at this; simp at this; omega)
      have c0 := hc _ _ (faultV_at hf).1
      have hgl : gb < wr.heap.size := Nat.lt_of_lt_of_le hgb HS.out.size
      have hi0 : (0 : Int) ≤ (i : Int) := by omega
      have hi1 : (i : Int) < (fn : Int) := by omega
      subst hFA
      obtain ⟨k, n⟩ := f
      dsimp only at c0
      have hall : fl.all mildF = (mildF (k, n) && (fl.drop (i + 1)).all mildF) := by rw [HA.out, hdrop, List.all_cons]
      have HALL := Lib.hid hall
      clear hc hf hdrop hall
      by_cases h3 : 3 ≤ k
      · have d3 : decide (3 ≤ k) = true := decide_eq_true h3
        by_cases h5 : k ≤ 5
        · have d5 : decide (k ≤ 5) = true := decide_eq_true h5
          go_wp2_with fail
          go_returns
          refine ⟨?_, HS.out⟩
          rw [HALL.out, show mildF (k, n) = false by simp [mildF, h3, h5], Bool.false_and]
          rfl
        · have d5 : decide (k ≤ 5) = false := decide_eq_false h5
          go_wp2_with fail
          have hw1 : wrap64 ((i : Int) + 1) = ((i + 1 : Nat) : Int) := by have := HN.out; unfold maxLen at this; rw [w64 _ (by omega)]; omega
          rw [hw1]
          refine ⟨⟨i + 1, by omega, rfl, Lib.hid (by rw [HALL.out, show mildF (k, n) = true by simp [mildF, h3, h5], Bool.true_and]), HS⟩, ?_⟩
          simp only [intOf]
          omega
      · have d3 : decide (3 ≤ k) = false := decide_eq_false h3
        go_wp2_with fail
        have hw1 : wrap64 ((i : Int) + 1) = ((i + 1 : Nat) : Int) := by have := HN.out; unfold maxLen at this; rw [w64 _ (by omega)]; omega
        rw [hw1]
        refine ⟨⟨i + 1, by omega, rfl, Lib.hid (by rw [HALL.out, show mildF (k, n) = true by simp [mildF, h3], Bool.true_and]), HS⟩, ?_⟩
        simp only [intOf]
        omega
    · obtain rfl : i = fn := by omega
      go_wp2_with fail
      go_returns
      refine ⟨?_, HS.out⟩
      rw [HA.out, List.drop_of_length_le (by rw [HFN.out]; exact Nat.le_refl _)]
      rfl

end Go.Proofs.YtffffjngodinnaaGreatDoor
end

section
namespace Go.Proofs.YtffffjngodinnaaGreatDoor
open Go.RowKit Go.Maps Go.Shelf

/-- what a result in memory tells -/
structure ResTells (w : World) (Ao : Option Addr) (no : Nat) (Ae : Option Addr) (ne : Nat) (An : Option Addr) (nn : Nat) (lo le : List UInt8) (Ns : List NodeIt) : Prop where
  h1 : lo.length = no
  h2 : le.length = ne
  ln : Ns.length = nn
  hm : nn ≤ maxLen
  out : Reads w w.heap.size 1 Ao no (bytesC lo)
  err : Reads w w.heap.size 1 Ae ne (bytesC le)
  nodes : Reads w w.heap.size 6 An nn (nodesC Ns)
  data : ∀ x ∈ Ns, Reads w w.heap.size 1 x.A x.data.length (bytesC x.data)
theorem ResTells.below {w w' : World} {Ao : Option Addr} {no : Nat} {Ae : Option Addr} {ne : Nat} {An : Option Addr} {nn : Nat} {lo le : List UInt8} {Ns : List NodeIt} (h : ResTells w Ao no Ae ne An nn lo le Ns) (hb : Below w.heap.size w w') : ResTells w' Ao no Ae ne An nn lo le Ns :=
  ⟨h.h1, h.h2, h.ln, h.hm, (h.out.below hb).more hb.size, (h.err.below hb).more hb.size, (h.nodes.below hb).more hb.size, fun x hx => ((h.data x hx).below hb).more hb.size⟩
theorem ResTells.nil (w : World) : ResTells w none 0 none 0 none 0 [] [] [] :=
  ⟨rfl, rfl, rfl, Nat.zero_le _, Reads.none_, Reads.none_, Reads.none_, fun _ h => (by cases h)⟩

set_option maxRecDepth 100000 in
set_option maxHeartbeats 4000000 in
theorem alike_true (w : World) (Ao Ao' Ae Ae' An An' : Option Addr) (no co co' ne ce ce' nn cn cn' : Nat) (st s1 s2 p1 p2 u1 u2 : Int) (lo le : List UInt8) (N1 N2 : List NodeIt) (h1 : ResTells w Ao no Ae ne An nn lo le N1) (h2 : ResTells w Ao' no Ae' ne An' nn lo le N2) (heq : N1.map NodeIt.nd = N2.map NodeIt.nd) :
    Calls Tryz.prog 8 #[.agg #[.slice Ao no co, .slice Ae ne ce, .int .i64 st, .slice An nn cn, .int .i64 s1, .int .i64 p1, .int .i64 u1], .agg #[.slice Ao' no co', .slice Ae' ne ce', .int .i64 st, .slice An' nn cn', .int .i64 s2, .int .i64 p2, .int .i64 u2]] w fun e w' => e = .returned (.bool true) ∧ Below w.heap.size w w' := by
  obtain ⟨g, hg⟩ : ∃ g, w.heap.size = g := ⟨_, rfl⟩
  obtain ⟨Z, hZ⟩ : ∃ Z, (w.alloc (.cells #[.slice Ao no co, .slice Ae ne ce, .int .i64 st, .slice An nn cn, .int .i64 s1, .int .i64 p1, .int .i64 u1] 36)).alloc (.cells #[.slice Ao' no co', .slice Ae' ne ce', .int .i64 st, .slice An' nn cn', .int .i64 s2, .int .i64 p2, .int .i64 u2] 36) = Z := ⟨_, rfl⟩
  have bZ : Below w.heap.size w Z := by rw [← hZ]; exact below_box (below_one w _) (Nat.le_refl _) _
  have k1 : Blk Z g 36 #[.slice Ao no co, .slice Ae ne ce, .int .i64 st, .slice An nn cn, .int .i64 s1, .int .i64 p1, .int .i64 u1] := by rw [← hZ, ← hg]; exact (Blk.new w _ _).alloc _
  have k2 : Blk Z (g + 1) 36 #[.slice Ao' no co', .slice Ae' ne ce', .int .i64 st, .slice An' nn cn', .int .i64 s2, .int .i64 p2, .int .i64 u2] := by rw [← hZ, ← hg]; exact Blk.newNext w _ _ _
  have t1 := h1.below bZ
  have t2 := h2.below bZ
  have z1 : Z.cell? ⟨g, 3, none⟩ = some (.slice An nn cn) := k1.cell 3
  have z2 : Z.cell? ⟨g + 1, 3, none⟩ = some (.slice An' nn cn') := k2.cell 3
  have l2 := k2.lt
  have hsame := same_true Z An cn nn N1 An' cn' N2 t1.hm t1.ln t2.ln t1.nodes t2.nodes t1.data t2.data heq
  obtain ⟨So, hSo⟩ : ∃ S, strB lo = S := ⟨_, rfl⟩
  obtain ⟨Se, hSe⟩ : ∃ S, strB le = S := ⟨_, rfl⟩
  have HS := Lib.hid hsame
  have T1 := Lib.hid t1
  have T2 := Lib.hid t2
  have K1 := Lib.hid k1
  have K2 := Lib.hid k2
  have HSO := Lib.hid hSo
  have HSE := Lib.hid hSe
  have BZ := Lib.hid bZ
  rw [hg]
  clear hsame t1 t2 k1 k2 hSo hSe h1 h2 heq bZ
  go_enter Tryz.func8, Tryz.ntmps8
  go_wp2_with (first
    | (go_at_call 24; refine HS.out.mono ?_; rintro e w1 ⟨rfl, hb1⟩
       have cv1 : (convert 23 9 (.slice Ao no co)).run Tryz.prog w1 = .ok (.string So) w1 := convOut HSO.out T1.out.h1 (by rw [T1.out.h1]; exact T1.out.out.below hb1)
       have cv2 : (convert 23 9 (.slice Ao' no co')).run Tryz.prog w1 = .ok (.string So) w1 := convOut HSO.out T1.out.h1 (by rw [T1.out.h1]; exact T2.out.out.below hb1)
       have cv3 : (convert 23 9 (.slice Ae ne ce)).run Tryz.prog w1 = .ok (.string Se) w1 := convOut HSE.out T1.out.h2 (by rw [T1.out.h2]; exact T1.out.err.below hb1)
       have cv4 : (convert 23 9 (.slice Ae' ne ce')).run Tryz.prog w1 = .ok (.string Se) w1 := convOut HSE.out T1.out.h2 (by rw [T1.out.h2]; exact T2.out.err.below hb1)
       have b1 := Blk.on K1.out hb1
       have b2 := Blk.on K2.out hb1
       have l3 := b2.lt
       have q0 : w1.cell? ⟨g, 0, none⟩ = some (.slice Ao no co) := b1.cell 0
       have q1 : w1.cell? ⟨g, 1, none⟩ = some (.slice Ae ne ce) := b1.cell 1
       have q2 : w1.cell? ⟨g, 2, none⟩ = some (.int .i64 st) := b1.cell 2
       have y0 : w1.cell? ⟨g + 1, 0, none⟩ = some (.slice Ao' no co') := b2.cell 0
       have y1 : w1.cell? ⟨g + 1, 1, none⟩ = some (.slice Ae' ne ce') := b2.cell 1
       have y2 : w1.cell? ⟨g + 1, 2, none⟩ = some (.int .i64 st) := b2.cell 2))
  go_returns
  exact ⟨rfl, by rw [← hg]; exact below_step BZ.out hb1 (Nat.le_refl _)⟩

end Go.Proofs.YtffffjngodinnaaGreatDoor
end

section
namespace Go.Proofs.YtffffjngodinnaaGreatDoor
open Go.RowKit Go.Maps Go.Shelf

set_option maxRecDepth 100000 in
set_option maxHeartbeats 2000000 in
theorem runNoT (w : World) (A : Option Addr) (c n : Nat) (EA : Option Addr) (ec en : Nat) (cwd : ByteArray) (IA : Option Addr) (ic m : Nat) (NA : Option Addr) (nc nn : Nat) (Ls : List NodeIt) (buf line run : Int) (FA : Option Addr) (fc fn : Nat) (now : Int) (PA : Option Addr) (pc pn : Nat) (f : Value)
    (hcw : cwd.size ≤ 1048576) (hLn : Ls.length = nn) (hnn2 : nn ≤ 1048576) (hNr : Reads w w.heap.size 6 NA nn (nodesC Ls)) (hNo : ∀ x ∈ Ls, NodeOk w w.heap.size x)
    (hM : Abs.mayT (Abs.LS.init.run (Ls.map NodeIt.nd)) (limBad n buf line run now) cwd.data.toList = none) : Calls Tryz.prog 11 #[.agg #[.slice A n c, .slice EA en ec, .string cwd, .slice IA m ic, .slice NA nn nc, .int .i64 buf, .int .i64 line, .int .i64 run, .slice FA fn fc, .int .i64 now, .slice PA pn pc], f] w fun e w' => e = .returned (.tuple #[.agg #[.slice none 0 0, .slice none 0 0, .int .i64 0, .slice none 0 0, .int .i64 0, .int .i64 0, .int .i64 0], .bool false]) ∧ Below w.heap.size w w' := by
  have hmay : ∀ W, Below w.heap.size w W → Calls Tryz.prog 25 #[.agg #[.slice A n c, .slice EA en ec, .string cwd, .slice IA m ic, .slice NA nn nc, .int .i64 buf, .int .i64 line, .int .i64 run, .slice FA fn fc, .int .i64 now, .slice PA pn pc]] W fun e w' => (∃ a, e = .returned (.tuple #[.pointer a, .bool false])) ∧ Below W.heap.size W w' := fun W hW => by
    have h := job_may W A n c (.slice EA en ec) cwd (.slice IA m ic) NA nn nc Ls buf line run (.slice FA fn fc) now (.slice PA pn pc) hcw hLn hnn2 ((hNr.below hW).more hW.size) (fun x hx => ((hNo x hx).below hW).more hW.size)
    rw [hM] at h
    refine h.mono ?_
    rintro e w' (⟨_, h1, h2⟩ | ⟨s', t, S, β, h0, _⟩)
    · exact ⟨h1, h2⟩
    · cases h0
  have HMAY := Lib.hid hmay
  clear hmay hcw hLn hnn2 hNr hNo hM
  obtain ⟨g, hg⟩ : ∃ g, w.heap.size = g := ⟨_, rfl⟩
  obtain ⟨Z, hZ⟩ : ∃ Z, (w.alloc (.cells #[.slice A n c, .slice EA en ec, .string cwd, .slice IA m ic, .slice NA nn nc, .int .i64 buf, .int .i64 line, .int .i64 run, .slice FA fn fc, .int .i64 now, .slice PA pn pc] 30)).alloc (.cells #[.slice none 0 0, .slice none 0 0, .int .i64 0, .slice none 0 0, .int .i64 0, .int .i64 0, .int .i64 0] 36) = Z := ⟨_, rfl⟩
  have bZ : Below g w Z := by rw [← hZ, ← hg]; exact below_box (below_one w _) (Nat.le_refl _) _
  have kJ : Blk Z g 30 #[.slice A n c, .slice EA en ec, .string cwd, .slice IA m ic, .slice NA nn nc, .int .i64 buf, .int .i64 line, .int .i64 run, .slice FA fn fc, .int .i64 now, .slice PA pn pc] := by rw [← hZ, ← hg]; exact (Blk.new w _ _).alloc _
  have kR : Blk Z (g + 1) 36 #[.slice none 0 0, .slice none 0 0, .int .i64 0, .slice none 0 0, .int .i64 0, .int .i64 0, .int .i64 0] := by rw [← hZ, ← hg]; exact Blk.newNext w _ _ _
  have z0 : Z.cell? ⟨g, 0, none⟩ = some (.slice A n c) := kJ.cell 0
  have z1 : Z.cell? ⟨g, 1, none⟩ = some (.slice EA en ec) := kJ.cell 1
  have z2 : Z.cell? ⟨g, 2, none⟩ = some (.string cwd) := kJ.cell 2
  have z3 : Z.cell? ⟨g, 3, none⟩ = some (.slice IA m ic) := kJ.cell 3
  have z4 : Z.cell? ⟨g, 4, none⟩ = some (.slice NA nn nc) := kJ.cell 4
  have z5 : Z.cell? ⟨g, 5, none⟩ = some (.int .i64 buf) := kJ.cell 5
  have z6 : Z.cell? ⟨g, 6, none⟩ = some (.int .i64 line) := kJ.cell 6
  have z7 : Z.cell? ⟨g, 7, none⟩ = some (.int .i64 run) := kJ.cell 7
  have z8 : Z.cell? ⟨g, 8, none⟩ = some (.slice FA fn fc) := kJ.cell 8
  have z9 : Z.cell? ⟨g, 9, none⟩ = some (.int .i64 now) := kJ.cell 9
  have z10 : Z.cell? ⟨g, 10, none⟩ = some (.slice PA pn pc) := kJ.cell 10
  have hZs := kR.lt
  have HB := Lib.hid bZ
  have HKR := Lib.hid kR
  rw [hg]
  clear bZ kJ kR
  go_enter Tryz.func11, Tryz.ntmps11
  go_wp2_with (first
    | (go_at_call 25; refine (HMAY.out Z (by rw [hg]; exact HB.out)).mono ?_; rintro e w1 ⟨⟨pa, rfl⟩, hb1⟩
       have HR1 := Lib.hid (Blk.on HKR.out hb1))
    | (refine wpList_store_blk rfl 36 (.tmp 4) (.tmp 20) rfl (g + 1) 36 #[.slice none 0 0, .slice none 0 0, .int .i64 0, .slice none 0 0, .int .i64 0, .int .i64 0, .int .i64 0] #[.slice none 0 0, .slice none 0 0, .int .i64 0, .slice none 0 0, .int .i64 0, .int .i64 0, .int .i64 0] rfl rfl HR1.out rfl (by kernel_rfl) (by kernel_rfl) ?_
       intro w2 b2 g2
       obtain ⟨q0, q1, q2, q3, q4, q5, q6⟩ := cells7 b2))
  refine bodyPost_ret (v := .tuple #[.agg #[.slice none 0 0, .slice none 0 0, .int .i64 0, .slice none 0 0, .int .i64 0, .int .i64 0, .int .i64 0], .bool false]) (by simp [results, Tryz.results11, go_sem, q0, q1, q2, q3, q4, q5, q6]) rfl ?_
  have hzs := HB.out.size
  exact ⟨rfl, (HB.out.trans (hb1.mono (by omega))).grown g2 (Nat.le_trans (by omega) hb1.size) (fun k hk => by cases hk; omega)⟩

set_option maxRecDepth 100000 in
set_option maxHeartbeats 2000000 in
theorem runActsNoT (w : World) (A : Option Addr) (c n : Nat) (EA : Option Addr) (ec en : Nat) (cwd : ByteArray) (IA : Option Addr) (ic m : Nat) (NA : Option Addr) (nc nn : Nat) (Ls : List NodeIt) (buf line run : Int) (FA : Option Addr) (fc fn : Nat) (now : Int) (PA : Option Addr) (pc pn : Nat) (LA : Option Addr) (ln lc : Nat)
    (hcw : cwd.size ≤ 1048576) (hLn : Ls.length = nn) (hnn2 : nn ≤ 1048576) (hNr : Reads w w.heap.size 6 NA nn (nodesC Ls)) (hNo : ∀ x ∈ Ls, NodeOk w w.heap.size x)
    (hM : Abs.mayT (Abs.LS.init.run (Ls.map NodeIt.nd)) (limBad n buf line run now) cwd.data.toList = none) : Calls Tryz.prog 6 #[.agg #[.slice A n c, .slice EA en ec, .string cwd, .slice IA m ic, .slice NA nn nc, .int .i64 buf, .int .i64 line, .int .i64 run, .slice FA fn fc, .int .i64 now, .slice PA pn pc], .slice LA ln lc] w fun e w' => e = .returned (.tuple #[.agg #[.slice none 0 0, .slice none 0 0, .int .i64 0, .slice none 0 0, .int .i64 0, .int .i64 0, .int .i64 0], .bool false]) ∧ Below w.heap.size w w' := by
  have hmf : ∀ (fn : Fn) (first cap : Array Value) (w : World), (Instr.makeFunc fn first cap).run Tryz.prog w = .ok (.func fn first cap) w := fun _ _ _ _ => rfl
  have hrun : ∀ W f, Below w.heap.size w W → Calls Tryz.prog 11 #[.agg #[.slice A n c, .slice EA en ec, .string cwd, .slice IA m ic, .slice NA nn nc, .int .i64 buf, .int .i64 line, .int .i64 run, .slice FA fn fc, .int .i64 now, .slice PA pn pc], f] W fun e w' => e = .returned (.tuple #[.agg #[.slice none 0 0, .slice none 0 0, .int .i64 0, .slice none 0 0, .int .i64 0, .int .i64 0, .int .i64 0], .bool false]) ∧ Below W.heap.size W w' := fun W f hW =>
    runNoT W A c n EA ec en cwd IA ic m NA nc nn Ls buf line run FA fc fn now PA pc pn f hcw hLn hnn2 ((hNr.below hW).more hW.size) (fun x hx => ((hNo x hx).below hW).more hW.size) hM
  have HRUN := Lib.hid hrun
  clear hrun hcw hLn hnn2 hNr hNo hM
  obtain ⟨g, hg⟩ : ∃ g, w.heap.size = g := ⟨_, rfl⟩
  obtain ⟨Z, hZ⟩ : ∃ Z, ((w.alloc (.cells #[.slice A n c, .slice EA en ec, .string cwd, .slice IA m ic, .slice NA nn nc, .int .i64 buf, .int .i64 line, .int .i64 run, .slice FA fn fc, .int .i64 now, .slice PA pn pc] 30)).alloc (.cells #[.slice LA ln lc] 31)).alloc (.cells #[.slice none 0 0, .slice none 0 0, .int .i64 0, .slice none 0 0, .int .i64 0, .int .i64 0, .int .i64 0] 36) = Z := ⟨_, rfl⟩
  have bZ : Below g w Z := by rw [← hZ, ← hg]; exact below_box (below_box (below_one w _) (Nat.le_refl _) _) (Nat.le_refl _) _
  have kJ : Blk Z g 30 #[.slice A n c, .slice EA en ec, .string cwd, .slice IA m ic, .slice NA nn nc, .int .i64 buf, .int .i64 line, .int .i64 run, .slice FA fn fc, .int .i64 now, .slice PA pn pc] := by rw [← hZ, ← hg]; exact ((Blk.new w _ _).alloc _).alloc _
  have kR : Blk Z (g + 1 + 1) 36 #[.slice none 0 0, .slice none 0 0, .int .i64 0, .slice none 0 0, .int .i64 0, .int .i64 0, .int .i64 0] := by
    rw [← hZ, ← hg]
    have := Blk.newNext (w.alloc (.cells #[.slice A n c, .slice EA en ec, .string cwd, .slice IA m ic, .slice NA nn nc, .int .i64 buf, .int .i64 line, .int .i64 run, .slice FA fn fc, .int .i64 now, .slice PA pn pc] 30)) (.cells #[.slice LA ln lc] 31) 36 #[.slice none 0 0, .slice none 0 0, .int .i64 0, .slice none 0 0, .int .i64 0, .int .i64 0, .int .i64 0]
    rwa [World.size_alloc] at this

  have z0 : Z.cell? ⟨g, 0, none⟩ = some (.slice A n c) := kJ.cell 0
  have z1 : Z.cell? ⟨g, 1, none⟩ = some (.slice EA en ec) := kJ.cell 1
  have z2 : Z.cell? ⟨g, 2, none⟩ = some (.string cwd) := kJ.cell 2
  have z3 : Z.cell? ⟨g, 3, none⟩ = some (.slice IA m ic) := kJ.cell 3
  have z4 : Z.cell? ⟨g, 4, none⟩ = some (.slice NA nn nc) := kJ.cell 4
  have z5 : Z.cell? ⟨g, 5, none⟩ = some (.int .i64 buf) := kJ.cell 5
  have z6 : Z.cell? ⟨g, 6, none⟩ = some (.int .i64 line) := kJ.cell 6
  have z7 : Z.cell? ⟨g, 7, none⟩ = some (.int .i64 run) := kJ.cell 7
  have z8 : Z.cell? ⟨g, 8, none⟩ = some (.slice FA fn fc) := kJ.cell 8
  have z9 : Z.cell? ⟨g, 9, none⟩ = some (.int .i64 now) := kJ.cell 9
  have z10 : Z.cell? ⟨g, 10, none⟩ = some (.slice PA pn pc) := kJ.cell 10

  have hZs := kR.lt
  have HB := Lib.hid bZ
  have HKR := Lib.hid kR
  rw [hg]
  clear bZ kJ kR
  go_enter Tryz.func6, Tryz.ntmps6
  go_wp2_with (first
    | (go_at_call 11; refine (HRUN.out Z _ (by rw [hg]; exact HB.out)).mono ?_; rintro e w1 ⟨rfl, hb1⟩
       have HR1 := Lib.hid (Blk.on HKR.out hb1))
    | (refine wpList_store_blk rfl 36 (.tmp 4) (.tmp 9) rfl (g + 1 + 1) 36 #[.slice none 0 0, .slice none 0 0, .int .i64 0, .slice none 0 0, .int .i64 0, .int .i64 0, .int .i64 0] #[.slice none 0 0, .slice none 0 0, .int .i64 0, .slice none 0 0, .int .i64 0, .int .i64 0, .int .i64 0] rfl rfl HR1.out rfl (by kernel_rfl) (by kernel_rfl) ?_
       intro w2 b2 g2
       obtain ⟨q0, q1, q2, q3, q4, q5, q6⟩ := cells7 b2))
  refine bodyPost_ret (v := .tuple #[.agg #[.slice none 0 0, .slice none 0 0, .int .i64 0, .slice none 0 0, .int .i64 0, .int .i64 0, .int .i64 0], .bool false]) (by simp [results, Tryz.results6, go_sem, q0, q1, q2, q3, q4, q5, q6]) rfl ?_
  have hzs := HB.out.size
  exact ⟨rfl, (HB.out.trans (hb1.mono (by omega))).grown g2 (Nat.le_trans (by omega) hb1.size) (fun k hk => by cases hk; omega)⟩

end Go.Proofs.YtffffjngodinnaaGreatDoor
end
