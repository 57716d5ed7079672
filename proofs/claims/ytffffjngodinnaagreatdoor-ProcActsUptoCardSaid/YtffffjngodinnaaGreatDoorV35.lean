/-
  Parts of the proof.
-/
import Derived.Test.YtffffjngodinnaaGreatDoorV32
import Derived.Test.YtffffjngodinnaaGreatDoorV23
namespace Go.Proofs.YtffffjngodinnaaGreatDoor
section
set_option maxRecDepth 100000
open Go.RowKit Go.Maps Go.Shelf
theorem reads_node {w : World} {B n i : Nat} {NA : Option Addr} {L : List NodeIt} {x : NodeIt} (hr : Reads w B 6 NA n (nodesC L)) (hn : L.length = n) (hx : L[i]? = some x) : ∃ gb off, NA = some ⟨gb, off, none⟩ /\ gb < B /\ w.rangeAt gb (off + i * 6) (nodeC x) := by
 have hlt : i < L.length := (List.getElem?_eq_some_iff.1 hx).1
 obtain ⟨ad, rfl, hb, hc⟩ := hr.2 (by omega)
 obtain ⟨gb, off, sp⟩ := ad
 have h0 := nodesC_at hx 0 (by omega)
 have hc0 := hc (i * 6 + 0) _ (h0.trans rfl)
 have hsp : sp = none := by
  cases i with
  | zero =>
    have hc1 : w.cell? ⟨gb, off, sp⟩ = some (.string x.path) := hc0
    cases sp with
    | none => rfl
    | some y =>
      unfold World.cell? at hc1
      split at hc1
      · simp at hc1
      · cases hc1
  | succ i' =>
    have hz := hc 0 ((nodesC L)[0]'(by rw [nodesC_len]; omega)) (List.getElem?_eq_getElem (by rw [nodesC_len]; omega))
    have hc1 : w.cell? ⟨gb, off, sp⟩ = some ((nodesC L)[0]'(by rw [nodesC_len]; omega)) := hz
    cases sp with
    | none => rfl
    | some y =>
      unfold World.cell? at hc1
      split at hc1
      · simp at hc1
      · cases hc1
 subst hsp
 refine ⟨gb, off, rfl, hb, fun j u hu => ?_⟩
 have hj : j < 6 := by
  by_cases hj : j < 6
  · exact hj
  · rw [List.getElem?_eq_none (by show 6 <= j; omega)] at hu; cases hu
 have h1 := hc (i * 6 + j) u ((nodesC_at hx j hj).trans hu)
 have e : (⟨gb, off, none⟩ : Addr).add (i * 6 + j) = ⟨gb, off + i * 6 + j, none⟩ := by unfold Addr.add; split <;> simp_all [Nat.add_assoc]
 rw [e] at h1
 exact h1
theorem nd_inj {p p' : ByteArray} (h : p.data.toList = p'.data.toList) : p = p' := ByteArray.ext (Array.ext' h)
set_option maxHeartbeats 4000000 in
theorem same_true (w : World) (NA1 : Option Addr) (c1 n : Nat) (L1 : List NodeIt) (NA2 : Option Addr) (c2 : Nat) (L2 : List NodeIt) (hn : n <= maxLen) (h1 : L1.length = n) (h2 : L2.length = n) (r1 : Reads w w.heap.size 6 NA1 n (nodesC L1)) (r2 : Reads w w.heap.size 6 NA2 n (nodesC L2))
 (d1 : ∀ x ∈ L1, Reads w w.heap.size 1 x.A x.data.length (bytesC x.data)) (d2 : ∀ x ∈ L2, Reads w w.heap.size 1 x.A x.data.length (bytesC x.data)) (heq : L1.map NodeIt.nd = L2.map NodeIt.nd) :
 Calls Tryz.prog 24 #[.slice NA1 n c1, .slice NA2 n c2] w fun e w' => e = .returned (.bool true) /\ Below w.heap.size w w' := by
 have HN := Lib.hid hn
 have H1 := Lib.hid h1
 have H2 := Lib.hid h2
 have R1 := Lib.hid r1
 have R2 := Lib.hid r2
 have D1 := Lib.hid d1
 have D2 := Lib.hid d2
 have HEQ := Lib.hid heq
 clear hn h1 h2 r1 r2 d1 d2 heq
 go_enter Tryz.func24, Tryz.ntmps24
 go_wp2_with fail
 go_loopw [5] (fun iv wr => ∃ (i : Nat), i <= n /\ iv = .int .i64 (i : Int) /\ Hid (Below w.heap.size w wr)) (fun iv _ => n - (intOf iv).toNat)
 case atStart => exact ⟨0, Nat.zero_le _, rfl, Lib.hid (Below.refl _ _)⟩
 case round =>
  obtain ⟨i, hi, rfl, HS⟩ := hrel
  by_cases hlt : i < n
  · obtain ⟨x, hx⟩ : ∃ x, L1[i]? = some x := ⟨_, List.getElem?_eq_getElem (by rw [H1.out]; exact hlt)⟩
    obtain ⟨y, hy⟩ : ∃ y, L2[i]? = some y := ⟨_, List.getElem?_eq_getElem (by rw [H2.out]; exact hlt)⟩
    obtain ⟨g1, o1, hN1, hg1, hra1⟩ := reads_node (R1.out.below HS.out) H1.out hx
    obtain ⟨g2, o2, hN2, hg2, hra2⟩ := reads_node R2.out H2.out hy
    have e0 : x.nd = y.nd := by
     have h := congrArg (fun l => l[i]?) HEQ.out
     simp only [List.getElem?_map, hx, hy, Option.map_some, Option.some.injEq] at h
     exact h
    have hra2w : ∀ W, Below w.heap.size w W -> W.rangeAt g2 (o2 + i * 6) (nodeC y) := fun W hW => by
     obtain ⟨g', o', e', _, h'⟩ := reads_node (R2.out.below hW) H2.out hy
     rw [hN2] at e'
     cases e'
     exact h'
    have hd1 := D1.out x (List.mem_of_getElem? hx)
    have hd2 := D2.out y (List.mem_of_getElem? hy)
    subst hN1 hN2
    obtain ⟨p, d, m, k, o, A, c, bs⟩ := x
    obtain ⟨p', d', m', k', o', A', c', bs'⟩ := y
    simp only [NodeIt.nd, Abs.Nd.mk.injEq] at e0
    obtain ⟨ep, rfl, rfl, rfl, rfl, rfl⟩ := e0
    obtain rfl := nd_inj ep
    obtain ⟨q, hq⟩ : ∃ q, bs.length = q := ⟨_, rfl⟩
    have hra1' : wr.rangeAt g1 (o1 + i * 6) [.string p, .bool d, .int .i64 m, .int .i64 k, .int .i64 o, .slice A q c] := by rw [<- hq]; exact hra1
    have hra2' : ∀ W, Below w.heap.size w W -> W.rangeAt g2 (o2 + i * 6) [.string p, .bool d, .int .i64 m, .int .i64 k, .int .i64 o, .slice A' q c'] := fun W hW => by rw [<- hq]; exact hra2w W hW
    have hone : (#[.string p, .bool d, .int .i64 m, .int .i64 k, .int .i64 o, .slice A q c] : Array Value).all (·.oneCell') = true := by simp [Value.oneCell']
    have hone' : (#[.string p, .bool d, .int .i64 m, .int .i64 k, .int .i64 o, .slice A' q c'] : Array Value).all (·.oneCell') = true := by simp [Value.oneCell']
    have hi0 : (0 : Int) <= (i : Int) := by omega
    have hi1 : (i : Int) < (n : Int) := by omega
    have hBwr := HS.out.size
    have hl1 : g1 < wr.heap.size := Nat.lt_of_lt_of_le hg1 hBwr
    have hl2 : g2 < wr.heap.size := Nat.lt_of_lt_of_le hg2 hBwr
    obtain ⟨Sb, hSb⟩ : ∃ S, strB bs = S := ⟨_, rfl⟩
    have hcv1 : ∀ W, Below w.heap.size w W -> (convert 23 9 (.slice A q c)).run Tryz.prog W = .ok (.string Sb) W := fun W hW => convOut hSb hq (hd1.below hW)
    have hcv2 : ∀ W, Below w.heap.size w W -> (convert 23 9 (.slice A' q c')).run Tryz.prog W = .ok (.string Sb) W := fun W hW => convOut hSb hq (hd2.below hW)
    have HQ := Lib.hid hq
    have HRA := Lib.hid hra2'
    have HC1 := Lib.hid hcv1
    have HC2 := Lib.hid hcv2
    clear hra1 hra2 hra2w hra2' hcv1 hcv2 hd1 hd2 hx hy ep hSb hq
    go_wp2_with (first
     | (refine wpList_load_mid rfl _ _ rfl g2 (o2 + i * 6) rfl [.string p, .bool d, .int .i64 m, .int .i64 k, .int .i64 o, .slice A' q c'] _ (HRA.out w2 hb2) Tryz.underlying111 rfl (by kernel_rfl) ?_)
     | (refine wpList_store_blk rfl 111 (.tmp 7) (.tmp 26) rfl w2.heap.size 111 #[.string ⟨#[]⟩, .bool false, .int .i64 0, .int .i64 0, .int .i64 0, .slice none 0 0] #[.string p, .bool d, .int .i64 m, .int .i64 k, .int .i64 o, .slice A' q c'] rfl rfl (Blk.new w2 _ _) rfl (by kernel_rfl) hone' ?_; intro w3 b3 gr3
        have hbb : Below w2.heap.size w2 w3 := (below_one w2 _).grown gr3 (by simp) (fun j hj => by cases hj; exact Nat.le_refl _)
        have hb3 : Below w.heap.size w w3 := hb2.trans (hbb.mono hb2.size)
        have cv1 := HC1.out w3 hb3
        have cv2 := HC2.out w3 hb3
        have b2' := Blk.on b2 hbb
        have l2' := b2'.lt
        have l3' := b3.lt
        have q0 : w3.cell? ⟨wr.heap.size, 0, none⟩ = some (.string p) := b2'.cell 0
        have q1 : w3.cell? ⟨wr.heap.size, 1, none⟩ = some (.bool d) := b2'.cell 1
        have q2 : w3.cell? ⟨wr.heap.size, 2, none⟩ = some (.int .i64 m) := b2'.cell 2
        have q3 : w3.cell? ⟨wr.heap.size, 3, none⟩ = some (.int .i64 k) := b2'.cell 3
        have q4 : w3.cell? ⟨wr.heap.size, 4, none⟩ = some (.int .i64 o) := b2'.cell 4
        have q5 : w3.cell? ⟨wr.heap.size, 5, none⟩ = some (.slice A q c) := b2'.cell 5
        have s0 : w3.cell? ⟨w2.heap.size, 0, none⟩ = some (.string p) := b3.cell 0
        have s1 : w3.cell? ⟨w2.heap.size, 1, none⟩ = some (.bool d) := b3.cell 1
        have s2 : w3.cell? ⟨w2.heap.size, 2, none⟩ = some (.int .i64 m) := b3.cell 2
        have s3 : w3.cell? ⟨w2.heap.size, 3, none⟩ = some (.int .i64 k) := b3.cell 3
        have s4 : w3.cell? ⟨w2.heap.size, 4, none⟩ = some (.int .i64 o) := b3.cell 4
        have s5 : w3.cell? ⟨w2.heap.size, 5, none⟩ = some (.slice A' q c') := b3.cell 5)
     | (refine wpList_load_mid rfl _ _ rfl g1 (o1 + i * 6) rfl [.string p, .bool d, .int .i64 m, .int .i64 k, .int .i64 o, .slice A q c] _ hra1' Tryz.underlying111 rfl (by kernel_rfl) ?_)
     | (refine wpList_store_blk rfl 111 (.tmp 6) (.tmp 22) rfl wr.heap.size 111 #[.string ⟨#[]⟩, .bool false, .int .i64 0, .int .i64 0, .int .i64 0, .slice none 0 0] #[.string p, .bool d, .int .i64 m, .int .i64 k, .int .i64 o, .slice A q c] rfl rfl (Blk.new wr _ _) rfl (by kernel_rfl) hone ?_; intro w2 b2 gr2
        have hb2 : Below w.heap.size w w2 := HS.out.trans (((below_one wr _).grown gr2 (by simp) (fun j hj => by cases hj; exact Nat.le_refl _)).mono hBwr)))
    have hw1 : wrap64 ((i : Int) + 1) = ((i + 1 : Nat) : Int) := by have := HN.out; unfold maxLen at this; rw [w64 _ (by omega)]; omega
    rw [hw1]
    refine ⟨⟨i + 1, by omega, rfl, Lib.hid hb3⟩, ?_⟩
    simp only [intOf]
    omega
  · obtain rfl : i = n := by omega
    go_wp2_with fail
    go_returns
    exact ⟨rfl, HS.out⟩
theorem reads_flat {w : World} {B n size : Nat} {A : Option Addr} {xs : List Value} (h : Reads w B size A n xs) (hx : xs ≠ []) : ∃ gb off, A = some ⟨gb, off, none⟩ /\ gb < B /\ ∀ j u, xs[j]? = some u -> w.cell? ⟨gb, off + j, none⟩ = some u := by
 have hn : 0 < n := by
  rcases Nat.eq_zero_or_pos n with h0 | h0
  · have := h.1; rw [h0, Nat.zero_mul] at this; exact absurd (List.eq_nil_of_length_eq_zero this) hx
  · exact h0
 obtain ⟨ad, rfl, hb, hc⟩ := h.2 hn
 obtain ⟨gb, off, sp⟩ := ad
 have hsp : sp = none := by
  obtain ⟨u, t, rfl⟩ : ∃ u t, xs = u :: t := by cases xs with | nil => exact absurd rfl hx | cons u t => exact ⟨u, t, rfl⟩
  have hc1 : w.cell? ⟨gb, off, sp⟩ = some u := hc 0 u rfl
  cases sp with
  | none => rfl
  | some y =>
    unfold World.cell? at hc1
    split at hc1
    · simp at hc1
    · cases hc1
 subst hsp
 refine ⟨gb, off, rfl, hb, fun j u hu => ?_⟩
 have h1 := hc j u hu
 have e : (⟨gb, off, none⟩ : Addr).add j = ⟨gb, off + j, none⟩ := by unfold Addr.add; split <;> simp_all
 rw [e] at h1
 exact h1
end
section
set_option maxRecDepth 100000
open Go.RowKit Go.Maps Go.Shelf
def ritemC (i : Nat) (x : Abs.Ent) (up : Int) (dv nv : Value) : Array Value := #[.int .i64 (i : Int), .bool x.dir, .int .i64 x.mode, .int .i64 x.tick, dv, nv, .int .i64 up, .int .i64 (x.held : Int)]
def namesE (l : List (Abs.Name × Nat)) : List Value := l.flatMap fun q => [.string (strB q.1), .int .i64 (q.2 : Int)]
def ptrsC (l : List Nat) : List Value := l.map fun b => .pointer (some ⟨b, 0, none⟩)
def bAt : List (Nat × Abs.Ent) -> List Nat -> Nat -> Nat
 | (j, _) :: l, b :: bs, i => if i = j then b else bAt l bs i
 | _, _, _ => 0
def RItem (w : World) (B b i : Nat) (x : Abs.Ent) : Prop := ∃ up dv nv, Blk w b 106 (ritemC i x up dv nv) /\ (x.dir = true -> up = (x.up : Int)) /\ w.ownsRow B 5 1 dv x.data.length (bytesC x.data) /\ w.ownsRow B 194 2 nv x.names.length (namesE x.names)
structure RTree (w : World) (B t : Nat) (T : Abs.T) (bs : List Nat) : Prop where
 len : bs.length = T.ents.length
 tree : ∃ lv, Blk w t 185 #[lv, .int .i64 (T.next : Int)] /\ w.ownsRow B 107 1 lv T.ents.length (ptrsC bs)
 item : ∀ (k b i : Nat) (x : Abs.Ent), bs[k]? = some b -> T.ents[k]? = some (i, x) -> RItem w B b i x
 nodup : bs.Nodup
 low : B <= t /\ ∀ b ∈ bs, B <= b
 wf : T.WF
 small : T.next < 1152921504606846976
 most : T.ents.length < 1152921504606846976
theorem geti_at : ∀ (l : List (Nat × Abs.Ent)) (bs : List Nat) (i : Nat) (x : Abs.Ent), bs.length = l.length -> Abs.geti l i = some x -> ∃ k : Nat, l[k]? = some (i, x) /\ bs[k]? = some (bAt l bs i)
 | [], _, _, _, _, h => by cases h
 | (j, y) :: l, b :: bs, i, x, hl, h => by
   unfold Abs.geti at h
   unfold bAt
   by_cases e : i = j
   · rw [if_pos e] at h ⊢
     cases h
     exact ⟨0, by rw [e]; rfl, rfl⟩
   · rw [if_neg e] at h ⊢
     obtain ⟨k, h1, h2⟩ := geti_at l bs i x (by simpa using hl) h
     exact ⟨k + 1, h1, h2⟩
theorem RTree.at_ {w : World} {B t : Nat} {T : Abs.T} {bs : List Nat} (h : RTree w B t T bs) {i : Nat} {x : Abs.Ent} (hx : T.get i = some x) : RItem w B (bAt T.ents bs i) i x := by
 obtain ⟨k, h1, h2⟩ := geti_at _ _ _ _ h.len hx
 exact h.item k _ i x h2 h1
theorem RItem.below {w w' : World} {B b i : Nat} {x : Abs.Ent} (h : RItem w B b i x) (hb : Below w.heap.size w w') : RItem w' B b i x := by
 obtain ⟨up, dv, nv, h1, h2, h3, h4⟩ := h
 exact ⟨up, dv, nv, Blk.on h1 hb, h2, own_on h3 hb, own_on h4 hb⟩
theorem RTree.below {w w' : World} {B t : Nat} {T : Abs.T} {bs : List Nat} (h : RTree w B t T bs) (hb : Below w.heap.size w w') : RTree w' B t T bs := by
 obtain ⟨lv, h1, h2⟩ := h.tree
 exact ⟨h.len, ⟨lv, Blk.on h1 hb, own_on h2 hb⟩, fun k b i x h3 h4 => (h.item k b i x h3 h4).below hb, h.nodup, h.low, h.wf, h.small, h.most⟩
theorem strB_at {l : List UInt8} {k : Nat} {c : UInt8} (h : l[k]? = some c) : ∀ h' : k < (strB l).size, (strB l)[k]'h' = c := fun h' => by
 show l.toArray[k]'(by simpa [strB, ByteArray.size] using h') = c
 rw [List.getElem?_eq_some_iff] at h
 obtain ⟨_, h⟩ := h
 simpa using h
theorem byte_ne {c d : UInt8} (h : c ≠ d) : (((c.toNat : Int)) == ((d.toNat : Nat) : Int)) = false := by
 simp only [beq_eq_false_iff_ne, ne_eq]
 exact fun e => h (UInt8.toNat_inj.1 (by omega))
set_option maxHeartbeats 1000000 in
theorem refSlash (l : List UInt8) (hl : l.length < 4611686018427387904) (w : World) :
 Calls Tryz.prog 81 #[.string (strB l)] w fun e w' => e = .returned (.bool (Abs.slash l)) /\ w' = w := by
 have hsz : (strB l).size = l.length := strB_size l
 go_enter Tryz.func81, Tryz.ntmps81
 rcases List.eq_nil_or_concat l with rfl | ⟨m, c, rfl⟩
 · have hsz' : (strB []).size = 0 := rfl
   go_wp2
   go_returns
   exact ⟨rfl, rfl⟩
 · simp only [List.concat_eq_append] at hsz hl ⊢
   simp only [List.length_append, List.length_singleton] at hsz hl
   have hix := strB_at (l := m ++ [c]) (k := m.length) (c := c) (by simp)
   have hs : Abs.slash (m ++ [c]) = decide (c = 47) := by unfold Abs.slash; rw [List.getLast?_concat]; by_cases h : c = 47 <;> simp [h]
   have HS := Lib.hid hs
   clear hs
   by_cases h47 : c = 47
   · subst h47
     go_wp2
     go_returns
     exact ⟨by rw [HS.out]; rfl, rfl⟩
   · have hne : (((c.toNat : Int)) == 47) = false := byte_ne (d := 47) h47
     go_wp2
     go_returns
     exact ⟨by rw [HS.out, decide_eq_false h47]; rfl, rfl⟩
set_option maxHeartbeats 1000000 in
theorem refNine (m : Int) (h : 0 <= m /\ m <= 511) (w : World) :
 Calls Tryz.prog 85 #[.int .i64 m] w fun e w' => e = .returned (.int .i64 (Abs.nine m)) /\ w' = w := by
 have h1 : m.tmod 512 = m := Int.tmod_eq_of_lt h.1 (by omega)
 have h2 : wrap64 (m + 512) = m + 512 := w64 _ (by omega)
 have h3 : (m + 512).tmod 512 = m := by rw [Int.tmod_eq_emod_of_nonneg (by omega)]; omega
 have h4 : Abs.nine m = m := by unfold Abs.nine; omega
 have h5 : wrap64 m = m := w64 _ (by omega)
 rw [h4]
 go_enter Tryz.func85, Tryz.ntmps85
 go_wp2
 go_returns
 exact ⟨by simp_all, rfl⟩
def badC (c : UInt8) : Bool := c == 47 || c == 0
theorem named_eq (l : List UInt8) : Abs.named l = (!l.isEmpty && decide (l.length <= 32) && !(l == [46]) && !(l == [46, 46]) && !(l.any badC)) := rfl
set_option maxHeartbeats 2000000 in
theorem refNamed (l : List UInt8) (hl : l.length < 4611686018427387904) (w : World) :
 Calls Tryz.prog 82 #[.string (strB l)] w fun e w' => e = .returned (.bool (Abs.named l)) /\ w' = w := by
 have hsz : (strB l).size = l.length := strB_size l
 have he1 : ((strB l).toList == [46]) = (l == [46]) := by rw [strB_toList]
 have he2 : ((strB l).toList == [46, 46]) = (l == [46, 46]) := by rw [strB_toList]
 have hnm := named_eq l
 go_enter Tryz.func82, Tryz.ntmps82
 by_cases h1 : (l.length : Int) < 1
 · have hr : Abs.named l = false := by
    rw [hnm]
    have : l = [] := List.eq_nil_of_length_eq_zero (by omega)
    subst this
    rfl
   have HR := Lib.hid hr
   clear hnm hr
   go_wp2
   go_returns
   exact ⟨by rw [HR.out]; rfl, rfl⟩
 by_cases h2 : (32 : Int) < (l.length : Int)
 · have hr : Abs.named l = false := by
    rw [hnm, decide_eq_false (by omega)]
    simp
   have HR := Lib.hid hr
   clear hnm hr
   go_wp2
   go_returns
   exact ⟨by rw [HR.out]; rfl, rfl⟩
 by_cases h3 : l = [46]
 · have hr : Abs.named l = false := by rw [h3]; rfl
   have hb : (l == [46]) = true := by rw [h3]; rfl
   rw [hb] at he1
   have HR := Lib.hid hr
   clear hnm hr hb h3
   go_wp2
   go_returns
   exact ⟨by rw [HR.out]; rfl, rfl⟩
 have hb3 : (l == [46]) = false := by simpa using h3
 by_cases h4 : l = [46, 46]
 · have hr : Abs.named l = false := by rw [h4]; rfl
   have hb : (l == [46, 46]) = true := by rw [h4]; rfl
   rw [hb] at he2
   rw [hb3] at he1
   have HR := Lib.hid hr
   clear hnm hr hb h3 h4 hb3
   go_wp2
   go_returns
   exact ⟨by rw [HR.out]; rfl, rfl⟩
 have hb4 : (l == [46, 46]) = false := by simpa using h4
 have hr : Abs.named l = !(l.any badC) := by
  rw [hnm, hb3, hb4, decide_eq_true (by omega)]
  cases l with
  | nil => simp at h1
  | cons a l => simp
 rw [hb3] at he1
 rw [hb4] at he2
 have HR := Lib.hid hr
 clear hnm hr hb3 hb4 h3 h4
 go_wp2
 go_loopw [3] (fun iv wr => ∃ (i : Nat), i <= l.length /\ iv = .int .i64 (i : Int) /\ Hid (l.any badC = (l.drop i).any badC) /\ wr = w) (fun iv _ => l.length - (intOf iv).toNat)
 case atStart => exact ⟨0, Nat.zero_le _, rfl, Lib.hid rfl, rfl⟩
 case round =>
  obtain ⟨i, hi, rfl, HA, rfl⟩ := hrel
  by_cases hlt : i < l.length
  · obtain ⟨c, hc⟩ : ∃ c, l[i]? = some c := ⟨_, List.getElem?_eq_getElem hlt⟩
    have hix := strB_at hc
    have hdrop : l.drop i = c :: l.drop (i + 1) := by
     rw [List.drop_eq_getElem_cons hlt]
     rw [List.getElem?_eq_getElem hlt] at hc
     rw [Option.some.inj hc]
    have hall : l.any badC = (badC c || (l.drop (i + 1)).any badC) := by rw [HA.out, hdrop, List.any_cons]
    have HALL := Lib.hid hall
    have hi1 : (i : Int) < (l.length : Int) := by omega
    have hi0 : (0 : Int) <= (i : Int) := by omega
    clear hdrop hall hc
    by_cases h0 : c = 0
    · subst h0
      go_wp2
      go_returns
      exact ⟨by rw [HR.out, HALL.out]; rfl, rfl⟩
    have hne0 : (((c.toNat : Int)) == 0) = false := byte_ne (d := 0) h0
    by_cases h47 : c = 47
    · subst h47
      go_wp2
      go_returns
      exact ⟨by rw [HR.out, HALL.out]; rfl, rfl⟩
    have hne : (((c.toNat : Int)) == 47) = false := byte_ne (d := 47) h47
    have hbad : badC c = false := by simp [badC, h0, h47]
    go_wp2
    refine ⟨⟨i + 1, by omega, rfl, Lib.hid (by rw [HALL.out, hbad, Bool.false_or]), by trivial⟩, ?_⟩
    simp only [intOf]
    omega
  · obtain rfl : i = l.length := by omega
    go_wp2
    go_returns
    exact ⟨by rw [HR.out, HA.out, List.drop_length]; rfl, rfl⟩
def itemV (T : Abs.T) (bs : List Nat) (i : Nat) : Value := match Abs.geti T.ents i with
 | none => .pointer none
 | some _ => .pointer (some ⟨bAt T.ents bs i, 0, none⟩)
set_option maxHeartbeats 2000000 in
theorem refItem (w : World) (B t : Nat) (T : Abs.T) (bs : List Nat) (h : RTree w B t T bs) (ino : Nat) (hmax : T.ents.length < 1152921504606846976) : Calls Tryz.prog 42 #[.pointer (some ⟨t, 0, none⟩), .int .i64 (ino : Int)] w fun e w' => e = .returned (itemV T bs ino) /\ w' = w := by
 obtain ⟨lv, h1, h2⟩ := h.tree
 obtain ⟨A, c, rfl, _, _, hr⟩ := own_slice h2
 obtain ⟨n, hn⟩ : ∃ n, T.ents.length = n := ⟨_, rfl⟩
 rw [hn] at hr h1 hmax
 have k0 : w.cell? ⟨t, 0, none⟩ = some (.slice A n c) := h1.cell 0
 have lt := h1.lt
 have HH := Lib.hid h
 have HN := Lib.hid hn
 have HR := Lib.hid hr
 clear h h1 h2 hr hn
 go_enter Tryz.func42, Tryz.ntmps42
 go_wp2
 go_loopw [5] (fun iv wr => ∃ (k : Nat), k <= n /\ iv = .int .i64 (k : Int) /\ Hid (Abs.geti T.ents ino = Abs.geti (T.ents.drop k) ino /\ bAt T.ents bs ino = bAt (T.ents.drop k) (bs.drop k) ino) /\ wr = w) (fun iv _ => n - (intOf iv).toNat)
 case atStart => exact ⟨0, Nat.zero_le _, rfl, Lib.hid ⟨rfl, rfl⟩, rfl⟩
 case round =>
  obtain ⟨k, hk, rfl, HA, rfl⟩ := hrel
  by_cases hlt : k < n
  · obtain ⟨⟨j, x⟩, hx⟩ : ∃ p, T.ents[k]? = some p := ⟨_, List.getElem?_eq_getElem (by rw [HN.out]; exact hlt)⟩
    obtain ⟨b, hb⟩ : ∃ b, bs[k]? = some b := ⟨_, List.getElem?_eq_getElem (by rw [HH.out.len, HN.out]; exact hlt)⟩
    have hd1 : T.ents.drop k = (j, x) :: T.ents.drop (k + 1) := by
     rw [List.drop_eq_getElem_cons (by rw [HN.out]; exact hlt)]
     rw [List.getElem?_eq_getElem (by rw [HN.out]; exact hlt)] at hx
     rw [Option.some.inj hx]
    have hd2 : bs.drop k = b :: bs.drop (k + 1) := by
     rw [List.drop_eq_getElem_cons (by rw [HH.out.len, HN.out]; exact hlt)]
     rw [List.getElem?_eq_getElem (by rw [HH.out.len, HN.out]; exact hlt)] at hb
     rw [Option.some.inj hb]
    obtain ⟨gb, off, hA, hgb, hc⟩ := reads_flat HR.out (by intro e; have := HR.out.1; rw [e] at this; simp at this; omega)
    have c0 : wr.cell? ⟨gb, off + k, none⟩ = some (.pointer (some ⟨b, 0, none⟩)) := hc _ _ (by simp [ptrsC, hb])
    obtain ⟨up, dv, nv, hbk, _⟩ := HH.out.item k b j x hb hx
    have c1 : wr.cell? ⟨b, 0, none⟩ = some (.int .i64 (j : Int)) := hbk.cell 0
    have lb := hbk.lt
    have hi1 : (k : Int) < (n : Int) := by omega
    have hi0 : (0 : Int) <= (k : Int) := by omega
    have HX := Lib.hid (And.intro hd1 hd2)
    subst hA
    clear hd1 hd2 hx hb hc hbk
    by_cases e : ino = j
    · have hf : itemV T bs ino = .pointer (some ⟨b, 0, none⟩) := by
       unfold itemV
       rw [HA.out.1, HA.out.2, HX.out.1, HX.out.2]
       simp only [Abs.geti, bAt, e, if_true]
      have HF := Lib.hid hf
      subst e
      clear hf
      go_wp2
      go_returns
      exact ⟨by rw [HF.out]; rfl, rfl⟩
    · have hne : ((j : Int) == (ino : Int)) = false := by simpa using fun h => e (Int.ofNat.inj h).symm
      have HA2 : Hid (Abs.geti T.ents ino = Abs.geti (T.ents.drop (k + 1)) ino /\ bAt T.ents bs ino = bAt (T.ents.drop (k + 1)) (bs.drop (k + 1)) ino) := Lib.hid ⟨by
       rw [HA.out.1, HX.out.1]; simp only [Abs.geti, if_neg e], by
       rw [HA.out.2, HX.out.1, HX.out.2]; simp only [bAt, if_neg e]⟩
      clear e
      go_wp2
      refine ⟨⟨k + 1, by omega, rfl, HA2, by trivial⟩, ?_⟩
      simp only [intOf]
      omega
  · obtain rfl : k = n := by omega
    have hf : itemV T bs ino = .pointer none := by
     unfold itemV
     rw [HA.out.1, List.drop_of_length_le (by rw [HN.out]; exact Nat.le_refl _)]
     rfl
    have HF := Lib.hid hf
    clear hf
    go_wp2
    go_returns
    exact ⟨by rw [HF.out]; rfl, rfl⟩
theorem refItem_at {w : World} {B t : Nat} {T : Abs.T} {bs : List Nat} (h : RTree w B t T bs) {i : Nat} {x : Abs.Ent} (hx : T.get i = some x) : Calls Tryz.prog 42 #[.pointer (some ⟨t, 0, none⟩), .int .i64 (i : Int)] w fun e w' => e = .returned (.pointer (some ⟨bAt T.ents bs i, 0, none⟩)) /\ w' = w :=
 (refItem w B t T bs h i h.most).mono fun e w' ⟨h1, h2⟩ => ⟨by rw [h1]; unfold itemV; rw [show Abs.geti T.ents i = some x from hx], h2⟩
end
section
open Go.RowKit Go.Maps Go.Shelf
namespace Abs
def partsFrom : List UInt8 -> List UInt8 -> List Name
 | cur, [] => if cur = [] then [] else [cur]
 | cur, c :: l => if c = 47 then (if cur = [] then partsFrom [] l else cur :: partsFrom [] l) else partsFrom (cur ++ [c]) l
theorem partsFrom_eq : ∀ (l cur : List UInt8), (47 : UInt8) ∉ cur -> partsFrom cur l = parts (cur ++ l)
 | [], cur, h => by
   unfold partsFrom parts
   rw [List.append_nil, segs_self h]
   by_cases e : cur = []
   · subst e; rfl
   · rw [if_neg e]; cases cur with
     | nil => exact absurd rfl e
     | cons a b => rfl
 | c :: l, cur, h => by
   unfold partsFrom
   by_cases hc : c = 47
   · subst hc
     rw [if_pos rfl, partsFrom_eq l [] (by simp)]
     unfold parts
     rw [segs_app h, List.filter_cons, List.nil_append]
     cases cur with
     | nil => rfl
     | cons a b => simp
   · rw [if_neg hc, partsFrom_eq l (cur ++ [c]) (by simp [h]; exact fun e => hc e.symm)]
     simp
theorem parts_from (l : List UInt8) : partsFrom [] l = parts l := partsFrom_eq l [] (by simp)
theorem partsFrom_len : ∀ (l cur : List UInt8), (partsFrom cur l).length <= l.length + 1
 | [], cur => by unfold partsFrom; split <;> simp
 | c :: l, cur => by
   unfold partsFrom
   have h1 := partsFrom_len l []
   have h2 := partsFrom_len l (cur ++ [c])
   split
   · split
     · simp only [List.length_cons]; omega
     · simp only [List.length_cons]; omega
   · simp only [List.length_cons]; omega
end Abs
theorem strB_cut (l : List UInt8) (a b : Nat) : (strB l).extract a b = strB ((l.drop a).take (b - a)) := by
 rw [show strB l = ⟨l.toArray⟩ from rfl, Lib.extract_mk]; rfl
def strsN (l : List Abs.Name) : List Value := l.map fun p => .string (strB p)
structure PartsSt (l : List UInt8) (i from_ : Nat) (out : List Abs.Name) : Prop where
 le : from_ <= i
 most : out.length <= i
 eq : (i <= l.length /\ Abs.parts l = out ++ Abs.partsFrom ((l.drop from_).take (i - from_)) (l.drop i)) \/ (i = l.length + 1 /\ Abs.parts l = out)
set_option maxRecDepth 100000 in
set_option maxHeartbeats 4000000 in
theorem refParts (l : List UInt8) (hl : l.length <= 2147483648) (w : World) :
 Calls Tryz.prog 80 #[.string (strB l)] w fun e w' => ∃ v, e = .returned v /\ w'.ownsRow w.heap.size 9 1 v (Abs.parts l).length (strsN (Abs.parts l)) /\ Below w.heap.size w w' := by
 have hsz : (strB l).size = l.length := strB_size l
 obtain ⟨iI, hiI, hI0, hI1, hI2⟩ := info_parts Tryz.infoStrC
 have HI := Lib.hid hiI
 have H0 := Lib.hid hI0
 have H1 := Lib.hid hI1
 have H2 := Lib.hid hI2
 clear hiI hI0 hI1 hI2
 go_enter Tryz.func80, Tryz.ntmps80
 go_wp2_with fail
 go_loopw [3, 4, 5] (fun o f iv W => ∃ (i from_ : Nat) (out : List Abs.Name), i <= l.length + 1 /\ iv = .int .i64 (i : Int) /\ f = .int .i64 (from_ : Int) /\ Hid (PartsSt l i from_ out) /\ W.ownsRow w.heap.size 9 1 o out.length (strsN out) /\ Below w.heap.size w W) (fun _ _ iv _ => l.length + 1 - (intOf iv).toNat)
 case atStart => exact ⟨0, 0, [], Nat.zero_le _, rfl, rfl, Lib.hid ⟨Nat.le_refl _, Nat.le_refl _, .inl ⟨Nat.zero_le _, by simp [Abs.parts_from]⟩⟩, World.ownsRow_nil _ _ _ _, Below.refl _ _⟩
 case round =>
  obtain ⟨i, f, out, hi, rfl, rfl, HS, hown, hbel⟩ := hrel
  have HB := Lib.hid hbel
  have HO := Lib.hid hown
  clear hbel hown
  obtain ⟨A, cp, rfl, _⟩ := own_slice HO.out
  have hfi := HS.out.le
  have hom := HS.out.most
  by_cases hlt : i <= l.length
  · have heq : Abs.parts l = out ++ Abs.partsFrom ((l.drop f).take (i - f)) (l.drop i) := by
     rcases HS.out.eq with ⟨_, h⟩ | ⟨h, _⟩
     · exact h
     · omega
    have hcl : ((l.drop f).take (i - f)).length = i - f := by rw [List.length_take, List.length_drop]; omega
    have hext : (strB l).extract f i = strB ((l.drop f).take (i - f)) := strB_cut l f i
    have HEQ := Lib.hid heq
    have HCL := Lib.hid hcl
    have h1 : (i : Int) <= (l.length : Int) := by omega
    have hfi' : (f : Int) <= (i : Int) := by omega
    clear heq hcl
    by_cases hend : i = l.length
    · have hdn : l.drop i = [] := by rw [hend, List.drop_length]
      have HD := Lib.hid hdn
      clear hdn
      by_cases hif : (f : Int) < (i : Int)
      · have hS : PartsSt l (i + 1) (i + 1) (out ++ [(l.drop f).take (i - f)]) := ⟨Nat.le_refl _, by simp; omega, .inr ⟨by omega, by
         rw [HEQ.out, HD.out]
         unfold Abs.partsFrom
         rw [if_neg (by intro e; have := HCL.out; rw [e] at this; simp at this; omega)]⟩⟩
        have HSN := Lib.hid hS
        clear hS HS
        subst hend
        go_wp2_with (at_builtin; refine wpList_append_any _ rfl _ _ 22 rfl w.heap.size 9 iI (.string ⟨#[]⟩) 1 16 Tryz.underlying22 HI.out H0.out H1.out H2.out rfl (by decide) (.slice A out.length cp) out.length (strsN out) rfl ((HO.out).alloc _) (wr.heap.size + 1) (some ⟨wr.heap.size, 0, none⟩) 1 1 [.string (strB ((l.drop f).take (l.length - f)))] rfl (row_one wr 9 _) (by simp [Value.oneCell']) (by simp only [maxLen]; omega) (by omega) (by have := HB.out.size; simp; omega) ?_; intro v1 w1 hown1 hg1 hat1)
        refine ⟨⟨l.length + 1, l.length + 1, _, by omega, rfl, rfl, HSN, ?_, HB.out.alloc HB.out.size _ |>.grown hg1 (by have := HB.out.size; simp; omega) (fun r hr => (HO.out.lt r hr).1)⟩, by simp only [intOf]; omega⟩
        rw [List.length_append]
        simpa [strsN] using hown1
      · have hS : PartsSt l (i + 1) (i + 1) out := ⟨Nat.le_refl _, by omega, .inr ⟨by omega, by
         rw [HEQ.out, HD.out]
         unfold Abs.partsFrom
         rw [if_pos (List.eq_nil_of_length_eq_zero (by rw [HCL.out]; omega)), List.append_nil]⟩⟩
        have HSN := Lib.hid hS
        clear hS HS
        subst hend
        go_wp2_with fail
        exact ⟨⟨l.length + 1, l.length + 1, out, by omega, rfl, rfl, HSN, HO.out, HB.out⟩, by simp only [intOf]; omega⟩
    · have hlt2 : i < l.length := by omega
      obtain ⟨c, hc⟩ : ∃ c, l[i]? = some c := ⟨_, List.getElem?_eq_getElem hlt2⟩
      have hix := strB_at hc
      have hdn : l.drop i = c :: l.drop (i + 1) := by
       rw [List.drop_eq_getElem_cons hlt2]
       rw [List.getElem?_eq_getElem hlt2] at hc
       rw [Option.some.inj hc]
      have htk : (l.drop f).take (i + 1 - f) = (l.drop f).take (i - f) ++ [c] := by
       rw [show i + 1 - f = (i - f) + 1 by omega, List.take_add_one, List.getElem?_drop, show f + (i - f) = i by omega, hc]
       rfl
      have HD := Lib.hid hdn
      have HT := Lib.hid htk
      have hne2 : ((i : Int) == (l.length : Int)) = false := by simpa using fun e => hend (by omega)
      have hi0 : (0 : Int) <= (i : Int) := by omega
      have hi1 : (i : Int) < (l.length : Int) := by omega
      clear hdn htk hc
      by_cases h47 : c = 47
      · subst h47
        by_cases hif : (f : Int) < (i : Int)
        · have hS : PartsSt l (i + 1) (i + 1) (out ++ [(l.drop f).take (i - f)]) := ⟨Nat.le_refl _, by simp; omega, .inl ⟨by omega, by
           rw [HEQ.out, HD.out, Abs.partsFrom, if_pos rfl, if_neg (by intro e; have := HCL.out; rw [e] at this; simp at this; omega)]
           simp⟩⟩
          have HSN := Lib.hid hS
          clear hS HS
          go_wp2_with (at_builtin; refine wpList_append_any _ rfl _ _ 22 rfl w.heap.size 9 iI (.string ⟨#[]⟩) 1 16 Tryz.underlying22 HI.out H0.out H1.out H2.out rfl (by decide) (.slice A out.length cp) out.length (strsN out) rfl ((HO.out).alloc _) (wr.heap.size + 1) (some ⟨wr.heap.size, 0, none⟩) 1 1 [.string (strB ((l.drop f).take (i - f)))] rfl (row_one wr 9 _) (by simp [Value.oneCell']) (by simp only [maxLen]; omega) (by omega) (by have := HB.out.size; simp; omega) ?_; intro v1 w1 hown1 hg1 hat1)
          refine ⟨⟨i + 1, i + 1, _, by omega, rfl, rfl, HSN, ?_, HB.out.alloc HB.out.size _ |>.grown hg1 (by have := HB.out.size; simp; omega) (fun r hr => (HO.out.lt r hr).1)⟩, by simp only [intOf]; omega⟩
          rw [List.length_append]
          simpa [strsN] using hown1
        · have hS : PartsSt l (i + 1) (i + 1) out := ⟨Nat.le_refl _, by omega, .inl ⟨by omega, by
           rw [HEQ.out, HD.out, Abs.partsFrom, if_pos rfl, if_pos (List.eq_nil_of_length_eq_zero (by rw [HCL.out]; omega))]
           simp⟩⟩
          have HSN := Lib.hid hS
          clear hS HS
          go_wp2_with fail
          exact ⟨⟨i + 1, i + 1, out, by omega, rfl, rfl, HSN, HO.out, HB.out⟩, by simp only [intOf]; omega⟩
      · have hne : (((c.toNat : Int)) == 47) = false := byte_ne (d := 47) h47
        have hS : PartsSt l (i + 1) f out := ⟨by omega, by omega, .inl ⟨by omega, by
         rw [HEQ.out, HD.out, Abs.partsFrom, if_neg h47, HT.out]⟩⟩
        have HSN := Lib.hid hS
        clear hS HS
        go_wp2_with fail
        exact ⟨⟨i + 1, f, out, by omega, rfl, rfl, HSN, HO.out, HB.out⟩, by simp only [intOf]; omega⟩
  · have he : i = l.length + 1 := by omega
    have hres : Abs.parts l = out := by
     rcases HS.out.eq with ⟨h, _⟩ | ⟨_, h⟩
     · omega
     · exact h
    have HR := Lib.hid hres
    clear hres
    go_wp2_with fail
    go_returns
    exact ⟨_, rfl, by rw [HR.out]; exact HO.out, HB.out⟩
end
section
set_option maxRecDepth 100000
open Go.RowKit Go.Maps Go.Shelf
theorem namesE_at {l : List (Abs.Name × Nat)} {k : Nat} {q : Abs.Name × Nat} (h : l[k]? = some q) : (namesE l)[k * 2]? = some (.string (strB q.1)) /\ (namesE l)[k * 2 + 1]? = some (.int .i64 (q.2 : Int)) :=
 ⟨flatMap_at (enc := fun q : Abs.Name × Nat => [Value.string (strB q.1), .int .i64 (q.2 : Int)]) (k := 2) (fun _ => rfl) l k 0 q h (by omega), flatMap_at (enc := fun q : Abs.Name × Nat => [Value.string (strB q.1), .int .i64 (q.2 : Int)]) (k := 2) (fun _ => rfl) l k 1 q h (by omega)⟩
set_option maxHeartbeats 2000000 in
theorem refAt (w : World) (B b i : Nat) (x : Abs.Ent) (h : RItem w B b i x) (n : Abs.Name) : Calls Tryz.prog 108 #[.pointer (some ⟨b, 0, none⟩), .string (strB n)] w fun e w' => w' = w /\ ((Abs.lk x.names n = none /\ e = .returned (.int .i64 (-1))) \/ ∃ (k j : Nat), x.names[k]? = some (n, j) /\ Abs.lk x.names n = some j /\ e = .returned (.int .i64 (k : Int))) := by
 obtain ⟨up, dv, nv, h1, _, _, h4⟩ := h
 obtain ⟨A, c, rfl, hlc, hcm, hr⟩ := own_slice h4
 obtain ⟨m, hm⟩ : ∃ m, x.names.length = m := ⟨_, rfl⟩
 rw [hm] at hr hlc h1
 have k5 : w.cell? ⟨b, 5, none⟩ = some (.slice A m c) := h1.cell 5
 have lb := h1.lt
 have hmx : m <= maxLen := Nat.le_trans hlc hcm
 unfold maxLen at hmx
 have HM := Lib.hid hm
 have HR := Lib.hid hr
 clear h1 h4 hr hm hlc hcm
 go_enter Tryz.func108, Tryz.ntmps108
 go_wp2
 go_loopw [5] (fun iv wr => ∃ (k : Nat), k <= m /\ iv = .int .i64 (k : Int) /\ Hid (Abs.lk x.names n = Abs.lk (x.names.drop k) n) /\ wr = w) (fun iv _ => m - (intOf iv).toNat)
 case atStart => exact ⟨0, Nat.zero_le _, rfl, Lib.hid rfl, rfl⟩
 case round =>
  obtain ⟨k, hk, rfl, HA, rfl⟩ := hrel
  by_cases hlt : k < m
  · obtain ⟨⟨p, j⟩, hx⟩ : ∃ p, x.names[k]? = some p := ⟨_, List.getElem?_eq_getElem (by rw [HM.out]; exact hlt)⟩
    have hd1 : x.names.drop k = (p, j) :: x.names.drop (k + 1) := by
     rw [List.drop_eq_getElem_cons (by rw [HM.out]; exact hlt)]
     rw [List.getElem?_eq_getElem (by rw [HM.out]; exact hlt)] at hx
     rw [Option.some.inj hx]
    obtain ⟨gb, off, hA, hgb, hc⟩ := reads_flat HR.out (by intro e; have := HR.out.1; rw [e] at this; simp at this; omega)
    have c0 : wr.cell? ⟨gb, off + k * 2, none⟩ = some (.string (strB p)) := hc _ _ (namesE_at hx).1
    have hi1 : (k : Int) < (m : Int) := by omega
    have hi0 : (0 : Int) <= (k : Int) := by omega
    have hlk : Abs.lk x.names n = if n = p then some j else Abs.lk (x.names.drop (k + 1)) n := by rw [HA.out, hd1]; rfl
    have HL := Lib.hid hlk
    have HX := Lib.hid hx
    subst hA
    clear hd1 hx hc hlk
    by_cases e : n = p
    · have hb : ((strB p).toList == (strB n).toList) = true := by rw [strB_eq, e]; simp
      subst e
      go_wp2
      go_returns
      exact ⟨rfl, .inr ⟨k, j, HX.out, by rw [HL.out]; simp, rfl⟩⟩
    · have hb : ((strB p).toList == (strB n).toList) = false := by rw [strB_eq]; exact decide_eq_false fun h => e h.symm
      have HL2 : Hid (Abs.lk x.names n = Abs.lk (x.names.drop (k + 1)) n) := Lib.hid (by rw [HL.out, if_neg e])
      clear e
      go_wp2
      refine ⟨⟨k + 1, by omega, rfl, HL2, by trivial⟩, ?_⟩
      simp only [intOf]
      omega
  · obtain rfl : k = m := by omega
    have hf : Abs.lk x.names n = none := by
     rw [HA.out, List.drop_of_length_le (by rw [HM.out]; exact Nat.le_refl _)]
     rfl
    have HF := Lib.hid hf
    clear hf
    go_wp2
    go_returns
    exact ⟨rfl, .inl ⟨HF.out, rfl⟩⟩
def leadsE : Except Nat Nat -> Value
 | .ok j => .tuple #[.int .i64 (j : Int), .int .i64 0]
 | .error e => .tuple #[.int .i64 0, .int .i64 (e : Int)]
set_option maxHeartbeats 4000000 in
theorem refLeads (w : World) (B t : Nat) (T : Abs.T) (bs : List Nat) (h : RTree w B t T bs) (i : Nat) (x0 : Abs.Ent) (hx0 : T.get i = some x0) (A : Option Addr) (c m : Nat) (ps : List Abs.Name) (hm : ps.length = m) (hmx : m <= 2147483649) (hpl : ∀ p ∈ ps, p.length < 4611686018427387904) (hr : Reads w w.heap.size 1 A m (strsN ps)) :
 Calls Tryz.prog 79 #[.pointer (some ⟨t, 0, none⟩), .int .i64 (i : Int), .slice A m c] w fun e w' => e = .returned (leadsE (T.leads i ps)) /\ w' = w := by
 have HH := Lib.hid h
 have HM := Lib.hid hm
 have HR := Lib.hid hr
 have HP := Lib.hid hpl
 obtain ⟨R, hR⟩ : ∃ R, T.leads i ps = R := ⟨_, rfl⟩
 rw [hR]
 have H0 : Hid (T.leads i (ps.drop 0) = R /\ ∃ x, T.get i = some x) := Lib.hid ⟨hR, ⟨x0, hx0⟩⟩
 clear h hm hr hpl hR hx0
 go_enter Tryz.func79, Tryz.ntmps79
 go_wp2
 go_loopw [1, 8] (fun jv kv wr => ∃ (j k : Nat), k <= m /\ jv = .int .i64 (j : Int) /\ kv = .int .i64 (k : Int) /\ Hid (T.leads j (ps.drop k) = R /\ ∃ x, T.get j = some x) /\ wr = w) (fun _ kv _ => m - (intOf kv).toNat)
 case atStart => exact ⟨i, 0, Nat.zero_le _, rfl, rfl, H0, rfl⟩
 case round =>
  obtain ⟨j, k, hk, rfl, rfl, HA, rfl⟩ := hrel
  by_cases hlt : k < m
  · obtain ⟨p, hx⟩ : ∃ p, ps[k]? = some p := ⟨_, List.getElem?_eq_getElem (by rw [HM.out]; exact hlt)⟩
    have hd1 : ps.drop k = p :: ps.drop (k + 1) := by
     rw [List.drop_eq_getElem_cons (by rw [HM.out]; exact hlt)]
     rw [List.getElem?_eq_getElem (by rw [HM.out]; exact hlt)] at hx
     rw [Option.some.inj hx]
    obtain ⟨x, hj⟩ := HA.out.2
    obtain ⟨gb, off, hA, hgb, hc⟩ := reads_flat HR.out (by intro e; have := HR.out.1; rw [e] at this; simp at this; omega)
    have c0 : wr.cell? ⟨gb, off + k, none⟩ = some (.string (strB p)) := hc _ _ (by simp [strsN, hx])
    have hi1 : (k : Int) < (m : Int) := by omega
    have hi0 : (0 : Int) <= (k : Int) := by omega
    have hst : (match T.step j p with | .error e => Except.error e | .ok j' => T.leads j' (ps.drop (k + 1))) = R := by have h := HA.out.1; rw [hd1] at h; exact h
    have hitem := refItem_at HH.out hj
    have hri := HH.out.at_ hj
    have hat := refAt wr B _ j x hri p
    have hnm := fun W => refNamed p (HP.out p (List.mem_of_getElem? hx)) W
    obtain ⟨b, hb⟩ : ∃ b, bAt T.ents bs j = b := ⟨_, rfl⟩
    rw [hb] at hitem hri hat
    obtain ⟨up, dv, nv, hbk, hup, _, hnv⟩ := hri
    obtain ⟨An, cn, rfl, _, _, hrn⟩ := own_slice hnv
    have k1 : wr.cell? ⟨b, 1, none⟩ = some (.bool x.dir) := hbk.cell 1
    have k5 : wr.cell? ⟨b, 5, none⟩ = some (.slice An x.names.length cn) := hbk.cell 5
    have k6 : wr.cell? ⟨b, 6, none⟩ = some (.int .i64 up) := hbk.cell 6
    have lb := hbk.lt
    have he1 : ((strB p).toList == [46]) = (p == [46]) := by rw [strB_toList]
    have he2 : ((strB p).toList == [46, 46]) = (p == [46, 46]) := by rw [strB_toList]
    have hlive : ∀ j', T.step j p = .ok j' -> ∃ y, T.get j' = some y := fun j' hs => HH.out.wf.step_live hj hs
    have hstep : T.step j p = if x.dir = false then .error 3 else if p = [46] then .ok j else if p = [46, 46] then .ok x.up else if Abs.named p = false then .error 13 else match Abs.lk x.names p with
     | none => .error 1
     | some j => .ok j := by unfold Abs.T.step; rw [hj]; rfl
    subst hA
    cases hd : x.dir with
    | false =>
      rw [hd] at k1
      have hres : R = .error 3 := by rw [<- hst, hstep, if_pos hd]
      have HRS := Lib.hid hres
      clear hst hstep hlive hat hnm hup hbk hnv hrn hj hd1 hx hc hb he1 he2 hres hd
      go_wp2_with (go_at_call 42; refine hitem.mono ?_; rintro e w2 ⟨rfl, rfl⟩)
      go_returns
      exact ⟨by rw [HRS.out]; rfl, rfl⟩
    | true =>
      rw [hd] at k1
      rw [hup hd] at k6
      rw [if_neg (by rw [hd]; decide)] at hstep
      clear hup hd
      have hcont : ∀ j', T.step j p = .ok j' -> Hid (T.leads j' (ps.drop (k + 1)) = R /\ ∃ y, T.get j' = some y) := fun j' hs => Lib.hid ⟨by have h := hst; rw [hs] at h; exact h, hlive j' hs⟩
      have hstop : ∀ e, T.step j p = .error e -> R = .error e := fun e hs => by have h := hst; rw [hs] at h; exact h.symm
      have HC := Lib.hid hcont
      have HE := Lib.hid hstop
      have HST := Lib.hid hstep
      have HX := Lib.hid hx
      clear hst hlive hcont hstop hstep hbk hnv hj hd1 hx hc
      by_cases hp1 : p = [46]
      · have hb1 : (p == [46]) = true := by rw [hp1]; rfl
        rw [hb1] at he1
        have HNX := HC.out j (by rw [HST.out, if_pos hp1])
        clear hb1 hp1 hat hnm hrn
        go_wp2_with (go_at_call 42; refine hitem.mono ?_; rintro e w2 ⟨rfl, rfl⟩)
        refine ⟨⟨j, k + 1, by omega, rfl, rfl, HNX, by trivial⟩, ?_⟩
        simp only [intOf]
        omega
      have hb1 : (p == [46]) = false := by simpa using hp1
      rw [hb1] at he1
      by_cases hp2 : p = [46, 46]
      · have hb2 : (p == [46, 46]) = true := by rw [hp2]; rfl
        rw [hb2] at he2
        have HNX := HC.out x.up (by rw [HST.out, if_neg hp1, if_pos hp2])
        clear hb1 hb2 hp1 hp2 hat hnm hrn
        go_wp2_with (go_at_call 42; refine hitem.mono ?_; rintro e w2 ⟨rfl, rfl⟩)
        refine ⟨⟨x.up, k + 1, by omega, rfl, rfl, HNX, by trivial⟩, ?_⟩
        simp only [intOf]
        omega
      have hb2 : (p == [46, 46]) = false := by simpa using hp2
      rw [hb2] at he2
      cases hnd : Abs.named p with
      | false =>
        rw [hnd] at hnm
        have hres : R = .error 13 := HE.out _ (by rw [HST.out, if_neg hp1, if_neg hp2, if_pos hnd])
        have HRS := Lib.hid hres
        clear hb1 hb2 hp1 hp2 hat hrn hnd hres
        go_wp2_with (first | (go_at_call 42; refine hitem.mono ?_; rintro e w2 ⟨rfl, rfl⟩) | (go_at_call 82; refine (hnm _).mono ?_; rintro e w3 ⟨rfl, rfl⟩))
        go_returns
        exact ⟨by rw [HRS.out]; rfl, rfl⟩
      | true =>
        rw [hnd] at hnm
        rcases hlk : Abs.lk x.names p with _ | j2
        · have hat2 : Calls Tryz.prog 108 #[.pointer (some ⟨b, 0, none⟩), .string (strB p)] wr fun e w' => e = .returned (.int .i64 (-1)) /\ w' = wr := hat.mono fun e w' ⟨h1, h2⟩ => by
           rcases h2 with ⟨_, h⟩ | ⟨_, _, _, h, _⟩
           · exact ⟨h, h1⟩
           · rw [hlk] at h; cases h
          have hres : R = .error 1 := HE.out _ (by rw [HST.out, if_neg hp1, if_neg hp2, if_neg (by rw [hnd]; decide), hlk])
          have HRS := Lib.hid hres
          clear hb1 hb2 hp1 hp2 hat hrn hnd hres hlk
          go_wp2_with (first | (go_at_call 42; refine hitem.mono ?_; rintro e w2 ⟨rfl, rfl⟩) | (go_at_call 82; refine (hnm _).mono ?_; rintro e w3 ⟨rfl, rfl⟩) | (go_at_call 108; refine hat2.mono ?_; rintro e w4 ⟨rfl, rfl⟩))
          go_returns
          exact ⟨by rw [HRS.out]; rfl, rfl⟩
        · have hat2 : Calls Tryz.prog 108 #[.pointer (some ⟨b, 0, none⟩), .string (strB p)] wr fun e w' => ∃ q : Nat, q < x.names.length /\ (∃ gn on, An = some ⟨gn, on, none⟩ /\ gn < wr.heap.size /\ wr.cell? ⟨gn, on + q * 2 + 1, none⟩ = some (.int .i64 (j2 : Int))) /\ e = .returned (.int .i64 (q : Int)) /\ w' = wr := hat.mono fun e w' ⟨h1, h2⟩ => by
           rcases h2 with ⟨h, _⟩ | ⟨q, j3, hq, h, he⟩
           · rw [hlk] at h; cases h
           · rw [hlk] at h
             cases h
             obtain ⟨gn, on, hAn, hgn, hcn⟩ := reads_flat hrn (by intro e; have := hrn.1; rw [e] at this; have := (List.getElem?_eq_some_iff.1 hq).1; simp at *; omega)
             exact ⟨q, (List.getElem?_eq_some_iff.1 hq).1, ⟨gn, on, hAn, hgn, hcn _ _ (namesE_at hq).2⟩, he, h1⟩
          have HNX := HC.out j2 (by rw [HST.out, if_neg hp1, if_neg hp2, if_neg (by rw [hnd]; decide), hlk])
          obtain ⟨nn, hnn⟩ : ∃ nn, x.names.length = nn := ⟨_, rfl⟩
          rw [hnn] at hat2 k5
          clear hb1 hb2 hp1 hp2 hat hrn hnd hlk hnn
          go_wp2_with (first | (go_at_call 42; refine hitem.mono ?_; rintro e w2 ⟨rfl, rfl⟩) | (go_at_call 82; refine (hnm _).mono ?_; rintro e w3 ⟨rfl, rfl⟩) | (go_at_call 108; refine hat2.mono ?_; rintro e w4 ⟨q, hq, ⟨gn, on, rfl, hgn, hcn⟩, rfl, rfl⟩; have hq0 : (0 : Int) <= (q : Int) := (by omega); have hq1 : (q : Int) < (nn : Int) := (by omega)))
          refine ⟨⟨j2, k + 1, by omega, rfl, rfl, HNX, by trivial⟩, ?_⟩
          simp only [intOf]
          omega
  · obtain rfl : k = m := by omega
    have hf : R = .ok j := by
     rw [<- HA.out.1, List.drop_of_length_le (by rw [HM.out]; exact Nat.le_refl _)]
     rfl
    have HF := Lib.hid hf
    clear hf
    go_wp2
    go_returns
    exact ⟨by rw [HF.out]; rfl, rfl⟩
end
section
set_option maxRecDepth 100000
open Go.RowKit Go.Maps Go.Shelf
theorem parts_small {l p : List UInt8} (h : p ∈ Abs.parts l) : p.length <= l.length := by
  have h1 : p ∈ Abs.segs l := (List.mem_filter.1 h).1
  have h2 := Abs.sumL_segs l
  have h3 : ∀ (L : List Abs.Name), p ∈ L -> p.length + 1 <= Abs.sumL L := by
    intro L
    induction L with
    | nil => intro h; cases h
    | cons a L ih =>
      intro h
      have e : Abs.sumL (a :: L) = a.length + 1 + Abs.sumL L := by simp [Abs.sumL]
      rcases List.mem_cons.1 h with rfl | h
      · omega
      · have := ih h; omega
  have := h3 _ h1
  omega
theorem parts_many (l : List UInt8) : (Abs.parts l).length <= l.length + 1 := by
  rw [<- Abs.parts_from]; exact Abs.partsFrom_len l []
def startR (T : Abs.T) (cwd path : List UInt8) : Except Nat Nat := match T.leads 1 (Abs.parts cwd) with
  | .error e => .error e
  | .ok i => if T.isDir i = false then .error 3 else match path with
    | [] => .ok i
    | c :: _ => if c = 47 then .ok 1 else .ok i
theorem startR_dir {T : Abs.T} (h : T.WF) {cwd path : List UInt8} {i : Nat} (hs : startR T cwd path = .ok i) : T.isDir i = true := by
  unfold startR at hs
  split at hs
  · cases hs
  · split at hs
    · cases hs
    · rename_i j _ hd
      have hj : T.isDir j = true := by simpa using hd
      split at hs
      · cases hs; exact hj
      · split at hs <;> cases hs
        · exact h.root_dir
        · exact hj
theorem startR_eq {T : Abs.T} {cwd : List UInt8} {c : UInt8} {l : List UInt8} : startR T cwd (c :: l) = T.start cwd (c :: l) := rfl
theorem start_nil {T : Abs.T} {cwd : List UInt8} : T.start cwd [] = match startR T cwd [] with | .error e => .error e | .ok _ => .error 1 := by
  unfold Abs.T.start startR
  cases T.leads 1 (Abs.parts cwd) with
  | error e => rfl
  | ok i => by_cases h : T.isDir i = false <;> simp [h]
set_option maxHeartbeats 4000000 in
theorem refFrom (w : World) (B t : Nat) (T : Abs.T) (bs : List Nat) (h : RTree w B t T bs) (cwd path : List UInt8) (hc : cwd.length <= 2147483648) (hp : path.length <= 2147483648) :
    Calls Tryz.prog 78 #[.pointer (some ⟨t, 0, none⟩), .string (strB cwd), .string (strB path)] w fun e w' => e = .returned (leadsE (startR T cwd path)) /\ Below w.heap.size w w' := by
  have hparts := refParts cwd hc w
  obtain ⟨x0, hx0⟩ := h.wf.root_live
  have hsz : (strB path).size = path.length := strB_size path
  obtain ⟨R, hR⟩ : ∃ R, startR T cwd path = R := ⟨_, rfl⟩
  rw [hR]
  obtain ⟨ps, hps⟩ : ∃ ps, Abs.parts cwd = ps := ⟨_, rfl⟩
  obtain ⟨Q, hQ⟩ : ∃ Q, T.leads 1 ps = Q := ⟨_, rfl⟩
  obtain ⟨m, hm⟩ : ∃ m, ps.length = m := ⟨_, rfl⟩
  have hmany := parts_many cwd
  have hsmall : ∀ p ∈ ps, p.length < 4611686018427387904 := fun p hp => by rw [<- hps] at hp; have := parts_small hp; omega
  rw [hps] at hparts hmany
  rw [hm] at hparts hmany
  unfold startR at hR
  rw [hps, hQ] at hR
  have hleads : ∀ W A c, Below w.heap.size w W -> Reads W W.heap.size 1 A m (strsN ps) -> Calls Tryz.prog 79 #[.pointer (some ⟨t, 0, none⟩), .int .i64 1, .slice A m c] W fun e w' => e = .returned (leadsE Q) /\ w' = W := fun W A c hW hrd => by
    rw [<- hQ]
    exact refLeads W B t T bs (h.below hW) 1 x0 hx0 A c m ps hm (by omega) hsmall hrd
  have HH := Lib.hid h
  have HL := Lib.hid hleads
  have hne0 : ∀ e, Q = .error e -> e ≠ 0 := fun e he => Abs.T.leads_ne0 (hQ.trans he)
  have hlive : ∀ i, Q = .ok i -> ∃ x, T.get i = some x := fun i hi => h.wf.leads_live ps 1 ⟨x0, hx0⟩ (hQ.trans hi)
  clear h hleads hx0 hQ hsmall hmany hm hps
  go_enter Tryz.func78, Tryz.ntmps78
  cases Q with
  | error e =>
    have hres : R = .error e := hR.symm
    subst hres
    unfold leadsE at HL ⊢
    have he0 := hne0 e rfl
    have hne : ((e : Int) != 0) = true := by simpa using he0
    clear hR hlive he0 hne0
    go_wp2_with (first
      | (go_at_call 80; refine hparts.mono ?_; rintro e1 w1 ⟨v, rfl, hown, hb1⟩; obtain ⟨A, c, rfl, _, _, hrd⟩ := own_slice hown)
      | (go_at_call 79; refine (HL.out _ _ _ hb1 hrd).mono ?_; rintro e2 w2 ⟨rfl, rfl⟩))
    go_returns
    exact ⟨rfl, hb1⟩
  | ok i =>
    obtain ⟨x, hx⟩ := hlive i rfl
    have hdir : T.isDir i = x.dir := by unfold Abs.T.isDir; rw [hx]
    simp only [hdir] at hR
    unfold leadsE at HL
    dsimp only at HL
    clear hdir hlive hne0
    obtain ⟨d, hd⟩ : ∃ d, x.dir = d := ⟨_, rfl⟩
    have HD := Lib.hid hd
    rw [hd] at hR
    clear hd
    cases d with
    | false =>
      have hres : R = .error 3 := hR.symm
      subst hres
      clear hR
      go_wp2_with (first
      | (go_at_call 80; refine hparts.mono ?_; rintro e1 w1 ⟨v, rfl, hown, hb1⟩; obtain ⟨A, c, rfl, _, _, hrd⟩ := own_slice hown)
      | (go_at_call 79; refine (HL.out _ _ _ hb1 hrd).mono ?_; rintro e2 w2 ⟨rfl, h2⟩; obtain rfl : w1 = w2 := h2.symm
         obtain ⟨up, dv, nv, hbk, _⟩ := (HH.out.below hb1).at_ hx
         have k1 : w1.cell? ⟨bAt T.ents bs i, 1, none⟩ = some (.bool x.dir) := hbk.cell 1
         have lb := hbk.lt
         rw [HD.out] at k1)
      | (go_at_call 42; refine (refItem_at (HH.out.below hb1) hx).mono ?_; rintro e3 w3 ⟨rfl, h3⟩; obtain rfl : w1 = w3 := h3.symm))
      go_returns
      exact ⟨rfl, hb1⟩
    | true =>
      rw [if_neg (by decide)] at hR
      cases path with
      | nil =>
        have hres : R = .ok i := hR.symm
        subst hres
        have hs0 : (strB []).size = 0 := rfl
        clear hR
        go_wp2_with (first
      | (go_at_call 80; refine hparts.mono ?_; rintro e1 w1 ⟨v, rfl, hown, hb1⟩; obtain ⟨A, c, rfl, _, _, hrd⟩ := own_slice hown)
      | (go_at_call 79; refine (HL.out _ _ _ hb1 hrd).mono ?_; rintro e2 w2 ⟨rfl, h2⟩; obtain rfl : w1 = w2 := h2.symm
         obtain ⟨up, dv, nv, hbk, _⟩ := (HH.out.below hb1).at_ hx
         have k1 : w1.cell? ⟨bAt T.ents bs i, 1, none⟩ = some (.bool x.dir) := hbk.cell 1
         have lb := hbk.lt
         rw [HD.out] at k1)
      | (go_at_call 42; refine (refItem_at (HH.out.below hb1) hx).mono ?_; rintro e3 w3 ⟨rfl, h3⟩; obtain rfl : w1 = w3 := h3.symm))
        go_returns
        exact ⟨rfl, hb1⟩
      | cons b l =>
        dsimp only at hR
        simp only [List.length_cons] at hsz hp
        have hix := strB_at (l := b :: l) (k := 0) (c := b) rfl
        by_cases h47 : b = 47
        · rw [if_pos h47] at hR
          subst h47 hR
          go_wp2_with (first
      | (go_at_call 80; refine hparts.mono ?_; rintro e1 w1 ⟨v, rfl, hown, hb1⟩; obtain ⟨A, c, rfl, _, _, hrd⟩ := own_slice hown)
      | (go_at_call 79; refine (HL.out _ _ _ hb1 hrd).mono ?_; rintro e2 w2 ⟨rfl, h2⟩; obtain rfl : w1 = w2 := h2.symm
         obtain ⟨up, dv, nv, hbk, _⟩ := (HH.out.below hb1).at_ hx
         have k1 : w1.cell? ⟨bAt T.ents bs i, 1, none⟩ = some (.bool x.dir) := hbk.cell 1
         have lb := hbk.lt
         rw [HD.out] at k1)
      | (go_at_call 42; refine (refItem_at (HH.out.below hb1) hx).mono ?_; rintro e3 w3 ⟨rfl, h3⟩; obtain rfl : w1 = w3 := h3.symm))
          go_returns
          exact ⟨rfl, hb1⟩
        · rw [if_neg h47] at hR
          have hne : (((b.toNat : Int)) == 47) = false := byte_ne (d := 47) h47
          subst hR
          go_wp2_with (first
      | (go_at_call 80; refine hparts.mono ?_; rintro e1 w1 ⟨v, rfl, hown, hb1⟩; obtain ⟨A, c, rfl, _, _, hrd⟩ := own_slice hown)
      | (go_at_call 79; refine (HL.out _ _ _ hb1 hrd).mono ?_; rintro e2 w2 ⟨rfl, h2⟩; obtain rfl : w1 = w2 := h2.symm
         obtain ⟨up, dv, nv, hbk, _⟩ := (HH.out.below hb1).at_ hx
         have k1 : w1.cell? ⟨bAt T.ents bs i, 1, none⟩ = some (.bool x.dir) := hbk.cell 1
         have lb := hbk.lt
         rw [HD.out] at k1)
      | (go_at_call 42; refine (refItem_at (HH.out.below hb1) hx).mono ?_; rintro e3 w3 ⟨rfl, h3⟩; obtain rfl : w1 = w3 := h3.symm))
          go_returns
          exact ⟨rfl, hb1⟩
end
section
set_option maxRecDepth 100000
open Go.RowKit Go.Maps Go.Shelf
def lookEnd (T : Abs.T) (path : List UInt8) : Except Nat Nat -> Except Nat Nat
 | .error e => .error e
 | .ok j => if Abs.slash path && !T.isDir j then .error 3 else .ok j
theorem startR_ne0 {T : Abs.T} {cwd path : List UInt8} {e : Nat} (h : startR T cwd path = .error e) : e ≠ 0 := by
 unfold startR at h
 repeat' split at h
 · rename_i e' he; cases h; exact Abs.T.leads_ne0 he
 all_goals (cases h <;> decide)
set_option maxHeartbeats 4000000 in
theorem refFind (w : World) (B t : Nat) (T : Abs.T) (bs : List Nat) (h : RTree w B t T bs) (cwd path : List UInt8) (hc : cwd.length <= 2147483648) (hp : path.length <= 2147483648) :
 Calls Tryz.prog 41 #[.pointer (some ⟨t, 0, none⟩), .string (strB cwd), .string (strB path)] w fun e w' => e = .returned (leadsE (T.look cwd path)) /\ Below w.heap.size w w' := by
 have hfrom := refFrom w B t T bs h cwd path hc hp
 obtain ⟨R, hR⟩ : ∃ R, T.look cwd path = R := ⟨_, rfl⟩
 rw [hR]
 obtain ⟨S, hS⟩ : ∃ S, startR T cwd path = S := ⟨_, rfl⟩
 rw [hS] at hfrom
 have hsz : (strB path).size = path.length := strB_size path
 have hemp : ((strB path).toList == []) = (path == []) := by rw [strB_toList]
 go_enter Tryz.func41, Tryz.ntmps41
 cases S with
 | error e =>
   have he0 := startR_ne0 hS
   have hne : ((e : Int) != 0) = true := by simpa using he0
   have hres : R = .error e := by
    rw [<- hR]
    unfold Abs.T.look
    cases path with
    | nil => rw [start_nil, hS]
    | cons b l => rw [<- startR_eq, hS]
   subst hres
   unfold leadsE at hfrom ⊢
   clear h hR hS he0
   go_wp2_with (go_at_call 78; refine hfrom.mono ?_; rintro e1 w1 ⟨rfl, hb1⟩)
   go_returns
   exact ⟨rfl, hb1⟩
 | ok i =>
   have hdi := startR_dir h.wf hS
   unfold leadsE at hfrom
   dsimp only at hfrom
   cases path with
   | nil =>
     have hres : R = .error 1 := by rw [<- hR]; unfold Abs.T.look; rw [start_nil, hS]
     subst hres
     have hb : (([] : List UInt8) == []) = true := rfl
     rw [hb] at hemp
     clear h hR hS hdi
     go_wp2_with (go_at_call 78; refine hfrom.mono ?_; rintro e1 w1 ⟨rfl, hb1⟩)
     go_returns
     exact ⟨rfl, hb1⟩
   | cons b l =>
     obtain ⟨pth, hpth⟩ : ∃ pth, b :: l = pth := ⟨_, rfl⟩
     have hb : ((b :: l) == []) = false := rfl
     rw [hb] at hemp
     have hst : T.start cwd (b :: l) = .ok i := by rw [<- startR_eq]; exact hS
     rw [hpth] at hfrom hp hsz hemp hst hR ⊢
     obtain ⟨x0, hx0, _⟩ := Abs.isDir_of hdi
     obtain ⟨ps, hps⟩ : ∃ ps, Abs.parts pth = ps := ⟨_, rfl⟩
     obtain ⟨Q, hQ⟩ : ∃ Q, T.leads i ps = Q := ⟨_, rfl⟩
     obtain ⟨m, hm⟩ : ∃ m, ps.length = m := ⟨_, rfl⟩
     have hmany := parts_many pth
     have hsmall : ∀ p ∈ ps, p.length < 4611686018427387904 := fun p hp' => by rw [<- hps] at hp'; have := parts_small hp'; omega
     have hparts := fun W => refParts pth hp W
     have hslash := fun W => refSlash pth (by omega) W
     rw [hps] at hparts hmany
     rw [hm] at hparts hmany
     have hleads : ∀ W A c, Below w.heap.size w W -> Reads W W.heap.size 1 A m (strsN ps) -> Calls Tryz.prog 79 #[.pointer (some ⟨t, 0, none⟩), .int .i64 (i : Int), .slice A m c] W fun e w' => e = .returned (leadsE Q) /\ w' = W := fun W A c hW hrd => by
      rw [<- hQ]
      exact refLeads W B t T bs (h.below hW) i x0 hx0 A c m ps hm (by omega) hsmall hrd
     have hlook : R = lookEnd T pth Q := by
      rw [<- hR]; unfold Abs.T.look; rw [hst]; dsimp only; rw [hps, hQ]; cases Q <;> rfl
     have hne0 : ∀ e, Q = .error e -> e ≠ 0 := fun e he => Abs.T.leads_ne0 (hQ.trans he)
     have hlive : ∀ j, Q = .ok j -> ∃ x, T.get j = some x := fun j hj => h.wf.leads_live ps i ⟨x0, hx0⟩ (hQ.trans hj)
     have HH := Lib.hid h
     have HL := Lib.hid hleads
     clear h hleads hx0 hQ hsmall hmany hm hps hR hst hS hdi hpth
     cases Q with
     | error e =>
       have he0 := hne0 e rfl
       have hne : ((e : Int) != 0) = true := by simpa using he0
       unfold lookEnd at hlook
       subst hlook
       unfold leadsE at HL ⊢
       clear hne0 hlive he0
       go_wp2_with (first
        | (go_at_call 78; refine hfrom.mono ?_; rintro e1 w1 ⟨rfl, hb1⟩)
        | (go_at_call 80; refine (hparts _).mono ?_; rintro e2 w2 ⟨v, rfl, hown, hb2⟩; have hb02 := below_thru hb1 hb2; obtain ⟨A, c, rfl, _, _, hrd⟩ := own_slice hown)
        | (go_at_call 79; refine (HL.out _ _ _ hb02 hrd).mono ?_; rintro e3 w3 ⟨rfl, h3⟩; obtain rfl : w2 = w3 := h3.symm))
       go_returns
       exact ⟨rfl, hb02⟩
     | ok j =>
       obtain ⟨x, hx⟩ := hlive j rfl
       have hdir : T.isDir j = x.dir := by unfold Abs.T.isDir; rw [hx]
       unfold lookEnd at hlook
       simp only [hdir] at hlook
       unfold leadsE at HL
       dsimp only at HL
       obtain ⟨d, hd⟩ : ∃ d, x.dir = d := ⟨_, rfl⟩
       have HD := Lib.hid hd
       rw [hd] at hlook
       obtain ⟨sl, hsl⟩ : ∃ sl, Abs.slash pth = sl := ⟨_, rfl⟩
       rw [hsl] at hlook hslash
       clear hdir hlive hne0 hd hsl
       cases sl
       all_goals cases d
       all_goals simp only [Bool.false_and, Bool.true_and, Bool.not_true, Bool.not_false, Bool.false_eq_true, if_false, if_true] at hlook
       all_goals subst hlook
       all_goals go_wp2_with (first
        | (go_at_call 78; refine hfrom.mono ?_; rintro e1 w1 ⟨rfl, hb1⟩)
        | (go_at_call 80; refine (hparts _).mono ?_; rintro e2 w2 ⟨v, rfl, hown, hb2⟩; have hb02 := below_thru hb1 hb2; obtain ⟨A, c, rfl, _, _, hrd⟩ := own_slice hown)
        | (go_at_call 79; refine (HL.out _ _ _ hb02 hrd).mono ?_; rintro e3 w3 ⟨rfl, h3⟩; obtain rfl : w2 = w3 := h3.symm
           obtain ⟨up, dv, nv, hbk, _⟩ := (HH.out.below hb02).at_ hx
           have k1 : w2.cell? ⟨bAt T.ents bs j, 1, none⟩ = some (.bool x.dir) := hbk.cell 1
           have lb := hbk.lt
           rw [HD.out] at k1)
        | (go_at_call 81; refine (hslash _).mono ?_; rintro e4 w4 ⟨rfl, h4⟩; obtain rfl : w2 = w4 := h4.symm)
        | (go_at_call 42; refine (refItem_at (HH.out.below hb02) hx).mono ?_; rintro e5 w5 ⟨rfl, h5⟩; obtain rfl : w2 = w5 := h5.symm))
       all_goals go_returns
       all_goals exact ⟨rfl, hb02⟩
end
section
set_option maxRecDepth 100000
open Go.RowKit Go.Maps Go.Shelf
theorem Reads.front_ {w : World} {B n k : Nat} {A : Option Addr} {xs : List Value} (h : Reads w B 1 A n xs) (hk : k <= n) : Reads w B 1 A k (xs.take k) := by
 refine ⟨by rw [List.length_take, h.1]; omega, fun hp => ?_⟩
 obtain ⟨ad, h1, h2, h3⟩ := h.2 (by omega)
 refine ⟨ad, h1, h2, fun j u hu => ?_⟩
 rw [List.getElem?_take] at hu
 split at hu
 · exact h3 j u hu
 · cases hu
def placeE (T : Abs.T) (bs : List Nat) : Except Nat (Option (Nat × Abs.Name)) -> Value
 | .error e => .tuple #[.pointer none, .string ⟨#[]⟩, .int .i64 (e : Int)]
 | .ok none => .tuple #[.pointer none, .string ⟨#[]⟩, .int .i64 0]
 | .ok (some (d, n)) => .tuple #[.pointer (some ⟨bAt T.ents bs d, 0, none⟩), .string (strB n), .int .i64 0]
def placeEnd (T : Abs.T) (last : Abs.Name) : Except Nat Nat -> Except Nat (Option (Nat × Abs.Name))
 | .error e => .error e
 | .ok d => if T.isDir d = false then .error 3 else if last = [46] \/ last = [46, 46] then .ok none else if Abs.named last = false then .error 13 else .ok (some (d, last))
set_option maxHeartbeats 8000000 in
theorem refPlace (w : World) (B t : Nat) (T : Abs.T) (bs : List Nat) (h : RTree w B t T bs) (cwd path : List UInt8) (hc : cwd.length <= 2147483648) (hp : path.length <= 2147483648) :
 Calls Tryz.prog 109 #[.pointer (some ⟨t, 0, none⟩), .string (strB cwd), .string (strB path)] w fun e w' => e = .returned (placeE T bs (T.place cwd path)) /\ Below w.heap.size w w' := by
 have hfrom := refFrom w B t T bs h cwd path hc hp
 obtain ⟨R, hR⟩ : ∃ R, T.place cwd path = R := ⟨_, rfl⟩
 rw [hR]
 obtain ⟨S, hS⟩ : ∃ S, startR T cwd path = S := ⟨_, rfl⟩
 rw [hS] at hfrom
 have hemp : ((strB path).toList == []) = (path == []) := by rw [strB_toList]
 go_enter Tryz.func109, Tryz.ntmps109
 cases S with
 | error e =>
   have he0 := startR_ne0 hS
   have hne : ((e : Int) != 0) = true := by simpa using he0
   have hres : R = .error e := by
    rw [<- hR]
    unfold Abs.T.place
    cases path with
    | nil => rw [start_nil, hS]
    | cons b l => rw [<- startR_eq, hS]
   subst hres
   unfold leadsE at hfrom
   unfold placeE
   clear h hR hS he0
   go_wp2_with (go_at_call 78; refine hfrom.mono ?_; rintro e1 w1 ⟨rfl, hb1⟩)
   go_returns
   exact ⟨rfl, hb1⟩
 | ok i =>
   have hdi := startR_dir h.wf hS
   unfold leadsE at hfrom
   dsimp only at hfrom
   cases path with
   | nil =>
     have hres : R = .error 1 := by rw [<- hR]; unfold Abs.T.place; rw [start_nil, hS]
     subst hres
     have hb : (([] : List UInt8) == []) = true := rfl
     rw [hb] at hemp
     clear h hR hS hdi
     unfold placeE
     go_wp2_with (go_at_call 78; refine hfrom.mono ?_; rintro e1 w1 ⟨rfl, hb1⟩)
     go_returns
     exact ⟨rfl, hb1⟩
   | cons b l =>
     obtain ⟨pth, hpth⟩ : ∃ pth, b :: l = pth := ⟨_, rfl⟩
     have hb : ((b :: l) == []) = false := rfl
     rw [hb] at hemp
     have hst : T.start cwd (b :: l) = .ok i := by rw [<- startR_eq]; exact hS
     rw [hpth] at hfrom hp hemp hst hR ⊢
     obtain ⟨x0, hx0, _⟩ := Abs.isDir_of hdi
     obtain ⟨ps, hps⟩ : ∃ ps, Abs.parts pth = ps := ⟨_, rfl⟩
     have hmany := parts_many pth
     have hsmall : ∀ p ∈ ps, p.length < 4611686018427387904 := fun p hp' => by rw [<- hps] at hp'; have := parts_small hp'; omega
     have hparts := fun W => refParts pth hp W
     unfold Abs.T.place at hR
     rw [hst] at hR
     dsimp only at hR
     rw [hps] at hparts hmany hR
     clear hS hdi hpth hst hps
     rcases List.eq_nil_or_concat ps with rfl | ⟨qs, last, hql⟩
     · have hres : R = .ok none := by rw [<- hR]; rfl
       subst hres
       clear h hR hx0 hsmall
       unfold placeE
       go_wp2_with (first
        | (go_at_call 78; refine hfrom.mono ?_; rintro e1 w1 ⟨rfl, hb1⟩)
        | (go_at_call 80; refine (hparts _).mono ?_; rintro e2 w2 ⟨v, rfl, hown, hb2⟩; have hb02 := below_thru hb1 hb2; obtain ⟨A, c, rfl, _, _, hrd⟩ := own_slice hown))
       go_returns
       exact ⟨rfl, hb02⟩
     · rw [List.concat_eq_append] at hql
       subst hql
       rw [List.getLast?_concat, List.dropLast_concat] at hR
       obtain ⟨Q, hQ⟩ : ∃ Q, T.leads i qs = Q := ⟨_, rfl⟩
       have hplace : R = placeEnd T last Q := by
        rw [<- hR]; dsimp only; rw [hQ]; cases Q <;> rfl
       obtain ⟨m, hm⟩ : ∃ m, qs.length = m := ⟨_, rfl⟩
       have hml : (qs ++ [last]).length = m + 1 := by simp [hm]
       rw [hml] at hparts hmany
       have hleads : ∀ W A c, Below w.heap.size w W -> Reads W W.heap.size 1 A (m + 1) (strsN (qs ++ [last])) -> Calls Tryz.prog 79 #[.pointer (some ⟨t, 0, none⟩), .int .i64 (i : Int), .slice A m c] W fun e w' => e = .returned (leadsE Q) /\ w' = W := fun W A c hW hrd => by
        rw [<- hQ]
        refine refLeads W B t T bs (h.below hW) i x0 hx0 A c m qs hm (by omega) (fun p hp => hsmall p (by simp [hp])) ?_
        have := hrd.front_ (k := m) (by omega)
        rwa [show (strsN (qs ++ [last])).take m = strsN qs by simp [strsN, hm]] at this
       have hlastc : ∀ W A, Reads W W.heap.size 1 A (m + 1) (strsN (qs ++ [last])) -> ∃ gb off, A = some ⟨gb, off, none⟩ /\ gb < W.heap.size /\ W.cell? ⟨gb, off + m, none⟩ = some (.string (strB last)) := fun W A hrd => by
        obtain ⟨gb, off, hA, hgb, hc⟩ := reads_flat hrd (by simp [strsN])
        exact ⟨gb, off, hA, hgb, hc _ _ (by simp [strsN, hm])⟩
       have hnm := fun W => refNamed last (hsmall last (by simp)) W
       have he1 : ((strB last).toList == [46]) = (last == [46]) := by rw [strB_toList]
       have he2 : ((strB last).toList == [46, 46]) = (last == [46, 46]) := by rw [strB_toList]
       have hne0 : ∀ e, Q = .error e -> e ≠ 0 := fun e he => Abs.T.leads_ne0 (hQ.trans he)
       have hlive : ∀ j, Q = .ok j -> ∃ x, T.get j = some x := fun j hj => h.wf.leads_live qs i ⟨x0, hx0⟩ (hQ.trans hj)
       have HH := Lib.hid h
       have HL := Lib.hid hleads
       have HLC := Lib.hid hlastc
       have hm0 : ¬ ((m + 1 : Nat) : Int) = 0 := by omega
       clear h hleads hlastc hx0 hQ hsmall hm hR hml
       cases Q with
       | error e =>
         have he0 := hne0 e rfl
         have hne : ((e : Int) != 0) = true := by simpa using he0
         unfold placeEnd at hplace
         subst hplace
         unfold leadsE at HL
         unfold placeE
         clear hne0 hlive he0
         go_wp2_with (first
          | (go_at_call 78; refine hfrom.mono ?_; rintro e1 w1 ⟨rfl, hb1⟩)
          | (go_at_call 80; refine (hparts _).mono ?_; rintro e2 w2 ⟨v, rfl, hown, hb2⟩; have hb02 := below_thru hb1 hb2; obtain ⟨A, c, rfl, hlc, _, hrd⟩ := own_slice hown)
          | (go_at_call 79; refine (HL.out _ _ _ hb02 hrd).mono ?_; rintro e3 w3 ⟨rfl, h3⟩; obtain rfl : w2 = w3 := h3.symm))
         go_returns
         exact ⟨rfl, hb02⟩
       | ok j =>
         obtain ⟨x, hx⟩ := hlive j rfl
         have hdir : T.isDir j = x.dir := by unfold Abs.T.isDir; rw [hx]
         unfold placeEnd at hplace
         simp only [hdir] at hplace
         unfold leadsE at HL
         dsimp only at HL
         obtain ⟨d, hd⟩ : ∃ d, x.dir = d := ⟨_, rfl⟩
         have HD := Lib.hid hd
         rw [hd] at hplace
         obtain ⟨nd, hnd⟩ : ∃ nd, Abs.named last = nd := ⟨_, rfl⟩
         rw [hnd] at hplace hnm
         obtain ⟨q1, hq1⟩ : ∃ q1, (last == [46]) = q1 := ⟨_, rfl⟩
         obtain ⟨q2, hq2⟩ : ∃ q2, (last == [46, 46]) = q2 := ⟨_, rfl⟩
         have hdots : (last = [46] \/ last = [46, 46]) ↔ (q1 || q2) = true := by rw [<- hq1, <- hq2]; simp
         rw [hq1] at he1
         rw [hq2] at he2
         simp only [hdots] at hplace
         obtain ⟨bj, hbj⟩ : ∃ bj, bAt T.ents bs j = bj := ⟨_, rfl⟩
         unfold placeE
         rw [hplace]
         clear hdir hlive hne0 hd hnd hq1 hq2 hdots hplace
         cases d
         all_goals (try cases q1)
         all_goals (try cases q2)
         all_goals (try cases nd)
         all_goals simp only [Bool.or_true, Bool.or_false, Bool.false_eq_true, Bool.true_eq_false, if_false, if_true, hbj]
         all_goals go_wp2_with (first
          | (go_at_call 78; refine hfrom.mono ?_; rintro e1 w1 ⟨rfl, hb1⟩)
          | (go_at_call 80; refine (hparts _).mono ?_; rintro e2 w2 ⟨v, rfl, hown, hb2⟩; have hb02 := below_thru hb1 hb2; obtain ⟨A, c, rfl, hlc, _, hrd⟩ := own_slice hown
             obtain ⟨gb, off, rfl, hgb, hc0⟩ := HLC.out _ _ hrd)
          | (go_at_call 79; refine (HL.out _ _ _ hb02 hrd).mono ?_; rintro e3 w3 ⟨rfl, h3⟩; obtain rfl : w2 = w3 := h3.symm
             obtain ⟨up, dv, nv, hbk, _⟩ := (HH.out.below hb02).at_ hx
             rw [hbj] at hbk
             have k1 : w2.cell? ⟨bj, 1, none⟩ = some (.bool x.dir) := hbk.cell 1
             have lb := hbk.lt
             rw [HD.out] at k1)
          | (go_at_call 42; refine (refItem_at (HH.out.below hb02) hx).mono ?_; rintro e5 w5 ⟨he5, h5⟩; obtain rfl : w2 = w5 := h5.symm; rw [hbj] at he5; subst he5)
          | (go_at_call 82; refine (hnm _).mono ?_; rintro e6 w6 ⟨rfl, h6⟩; obtain rfl : w2 = w6 := h6.symm))
         all_goals go_returns
         all_goals exact ⟨rfl, hb02⟩
end
end Go.Proofs.YtffffjngodinnaaGreatDoor
