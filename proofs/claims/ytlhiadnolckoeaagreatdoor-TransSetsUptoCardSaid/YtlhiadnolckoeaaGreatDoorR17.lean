/-
  Parts that the claims share: A walk over the law's coded; A walk over the law's distinct; Walks over the reference's tree of no nodes: what May says of limits; Walks over the reference's Find of the root, and over May; Counts of bytes in an array of 256 numbers: plain; What the laws TransBack and TransApart share: runs of tr at two strings, results in boxes, the limits' box.
-/
import Derived.Test.YtlhiadnolckoeaaGreatDoorR15
import Derived.Test.YtlhiadnolckoeaaGreatDoorR11
import Derived.Test.YtlhiadnolckoeaaGreatDoorR03
import Derived.Test.YtlhiadnolckoeaaGreatDoorR10
import Derived.LoopN
import Derived.Test.YtlhiadnolckoeaaGreatDoorR16

section
namespace Go.Proofs.YtlhiadnolckoeaaGreatDoor
open Go.RowKit Go.Maps

/-- the four cells of a coded byte, as the walk reckons them -/
def codeCells (x : UInt8) : Array Value := #[.int .u8 92, .int .u8 (48 + (x.toNat : Int) / 64), .int .u8 (48 + (x.toNat : Int) / 8 % 8), .int .u8 (48 + (x.toNat : Int) % 8)]
theorem code_nums : (List.range 256).all (fun n => 48 + (n : Int) / 64 == ((UInt8.ofNat (48 + n / 64)).toNat : Int) && (48 + (n : Int) / 8 % 8 == ((UInt8.ofNat (48 + n / 8 % 8)).toNat : Int) && 48 + (n : Int) % 8 == ((UInt8.ofNat (48 + n % 8)).toNat : Int))) = true := by decide +kernel
theorem code_cells (x : UInt8) : (codeCells x).toList = bytesC (Pl.codeB x) := by
  have h := List.all_eq_true.1 code_nums x.toNat (List.mem_range.2 x.toNat_lt)
  simp only [Bool.and_eq_true, beq_iff_eq] at h
  obtain ⟨h1, h2, h3⟩ := h
  unfold codeCells Pl.codeB bytesC
  rw [h1, h2, h3]
  rfl
theorem convCode (W : World) (x : UInt8) (S : ByteArray) (hS : strB (Pl.codeB x) = S) : (convert 23 9 (.slice (some ⟨W.heap.size, 0, none⟩) 4 4)).run Tryz.prog (W.alloc (.cells (codeCells x) 5)).drew = .ok (.string S) (W.alloc (.cells (codeCells x) 5)).drew := by
  subst hS
  refine convert_string (l := Pl.codeB x) (B := W.heap.size + 1) Tryz.underlying23 Tryz.underlying5 Tryz.underlying9 ⟨by simp [bytesC, Pl.codeB], fun _ => ⟨_, rfl, by simp, fun j u hu => ?_⟩⟩
  have e0 : (⟨W.heap.size, 0, none⟩ : Addr).add j = ⟨W.heap.size, j, none⟩ := by unfold Addr.add; split <;> simp_all
  rw [← code_cells] at hu
  rw [e0]
  exact ((Blk.new W 5 (codeCells x)).cell j).trans (by rw [← hu]; simp)
theorem coded_snoc (l : List UInt8) (k : Nat) (x : UInt8) (hx : l[k]? = some x) : strB (Pl.codedL (l.take k)) ++ strB (Pl.codeB x) = strB (Pl.codedL (l.take (k + 1))) := by
  have e : Pl.codedL (l.take (k + 1)) = Pl.codedL (l.take k) ++ Pl.codeB x := by
    rw [List.take_add_one, hx, Option.toList_some, Pl.codedL, Pl.codedL, List.flatMap_append]
    simp
  rw [e]
  apply ByteArray.ext
  simp [strB]

set_option maxRecDepth 100000 in
set_option maxHeartbeats 2000000 in
theorem coded_any (w : World) (A : Option Addr) (cap n : Nat) (l : List UInt8) (hr : Reads w w.heap.size 1 A n (bytesC l)) (hn : l.length = n) (hl : n ≤ 1000) :
    Calls Tryz.prog 12 #[.slice A n cap] w fun e w' => e = .returned (.string (strB (Pl.codedL l))) ∧ Below w.heap.size w w' := by
  have HR := Lib.hid hr
  have HN := Lib.hid hn
  clear hr hn
  go_enter Tryz.func12, Tryz.ntmps12
  go_wp2_with fail
  go_loopw [3, 4] (fun sv iv wr => ∃ k : Nat, k ≤ n ∧ iv = .int .i64 k ∧ sv = .string (strB (Pl.codedL (l.take k))) ∧ Hid (Below w.heap.size w wr)) (fun _ iv _ => n - (intOf iv).toNat)
  case atStart => exact ⟨0, by omega, rfl, rfl, Lib.hid (Below.refl _ _)⟩
  case round =>
    obtain ⟨k, hk, rfl, rfl, hb⟩ := hrel
    by_cases hlt : k < n
    · obtain ⟨ad, u, rfl, hadl, hu, hcell⟩ := (HR.out.below hb.out).at_ hlt
      obtain ⟨x, hx⟩ : ∃ x, l[k]? = some x := ⟨_, List.getElem?_eq_getElem (by rw [HN.out]; exact hlt)⟩
      obtain rfl : u = .int .u8 (x.toNat : Int) := by
        simp only [bytesC, List.getElem?_map, hx, Option.map_some] at hu
        exact (Option.some.inj hu).symm
      obtain ⟨S, hS⟩ : ∃ S, strB (Pl.codedL (l.take k)) = S := ⟨_, rfl⟩
      rw [hS]
      have hxl := x.toNat_lt
      have d1 : wr.drew.cell? (ad.add k) = some (.int .u8 (x.toNat : Int)) := hcell
      obtain ⟨C, hC⟩ : ∃ C, strB (Pl.codeB x) = C := ⟨_, rfl⟩
      have hcv := convCode wr x C hC
      have hB1 := hb.out.alloc hb.out.size (.cells (codeCells x) 5)
      have HB : Hid (Below w.heap.size w (wr.alloc (.cells (codeCells x) 5)).drew) := Lib.hid ⟨hB1.os, hB1.tape, hB1.output, hB1.size, hB1.block⟩
      clear hB1
      unfold codeCells at hcv
      have hCs : C.size = 4 := by rw [← hC, strB_size]; rfl
      obtain ⟨m, hm⟩ : ∃ m, S.size = m := ⟨_, rfl⟩
      have hm1 : m = 4 * k := by
        rw [← hm, ← hS, strB_size]
        have : ∀ l : List UInt8, (Pl.codedL l).length = 4 * l.length := by
          intro l
          induction l with
          | nil => rfl
          | cons b l ih =>
            have e : Pl.codedL (b :: l) = Pl.codeB b ++ Pl.codedL l := rfl
            rw [e, List.length_append, ih, List.length_cons]
            simp [Pl.codeB]
            omega
        rw [this, List.length_take, HN.out]
        omega
      have hmx : ¬ (9223372036854775807 : Int) < (m : Int) + 4 := by omega
      have hmx2 : ¬ 9223372036854775807 < m + 4 := by omega
      clear hm1
      have HSN := Lib.hid (coded_snoc l k x hx)
      go_wp2_with fail
      go_region
      all_goals
        go_wp2_with fail
        exact ⟨⟨k + 1, by omega, by go_num, by rw [← HSN.out, hS, hC], HB⟩, by simp [intOf]; omega⟩
    · obtain rfl : k = n := by omega
      have HT : Hid (l.take k = l) := Lib.hid (by rw [← HN.out]; exact List.take_length)
      go_wp2_with fail
      go_returns
      exact ⟨by rw [HT.out]; rfl, hb.out⟩

end Go.Proofs.YtlhiadnolckoeaaGreatDoor
end

section
namespace Go.Proofs.YtlhiadnolckoeaaGreatDoor
open Go.RowKit Go.Maps

theorem dist_take (l : List UInt8) (many k : Nat) (x : UInt8) (hx : l[k]? = some x) : (l.take (k + 1)).foldl (Pl.distStep many) [] = Pl.distStep many ((l.take k).foldl (Pl.distStep many) []) x := by
  rw [List.take_add_one, hx, Option.toList_some, List.foldl_append]
  rfl
theorem dist_full (many : Nat) : ∀ (l out : List UInt8), many ≤ out.length → l.foldl (Pl.distStep many) out = out
  | [], _, _ => rfl
  | c :: l, out, h => by
    rw [List.foldl_cons, show Pl.distStep many out c = out from if_neg (fun hh => by omega)]
    exact dist_full many l out h

set_option maxRecDepth 100000 in
set_option maxHeartbeats 2000000 in
theorem distinct_any (w : World) (A : Option Addr) (cap n many : Nat) (l : List UInt8) (hr : Reads w w.heap.size 1 A n (bytesC l)) (hn : l.length = n) (hm : many ≤ 1000) (hl : n ≤ 140737488355328) :
    Calls Tryz.prog 9 #[.slice A n cap, .int .i64 (many : Int)] w fun e w' => ∃ v, e = .returned v ∧ w'.ownsRow w.heap.size 5 1 v (Pl.distinctL l many).length (bytesC (Pl.distinctL l many)) ∧ Below w.heap.size w w' := by
  have HR := Lib.hid hr
  have HN := Lib.hid hn
  obtain ⟨iB, hiB, hB0, hB1, hB2⟩ := info_parts Tryz.infoByte
  have HI := Lib.hid hiB
  have H0 := Lib.hid hB0
  have H1 := Lib.hid hB1
  have H2 := Lib.hid hB2
  clear hr hn hiB hB0 hB1 hB2
  go_enter Tryz.func9, Tryz.ntmps9
  go_wp2_with fail
  go_loopw [5, 6, 7, 8] (fun ov iv _ _ wr => ∃ (k : Nat) (out : List UInt8) (Ao : Option Addr) (co : Nat), k ≤ n ∧ iv = .int .i64 k ∧ ov = .slice Ao out.length co ∧ Hid ((l.take k).foldl (Pl.distStep many) [] = out) ∧ out.length ≤ many ∧ Hid (wr.ownsRow w.heap.size 5 1 (.slice Ao out.length co) out.length (bytesC out)) ∧ Hid (Below w.heap.size w wr)) (fun _ iv _ _ _ => n - (intOf iv).toNat)
  case atStart => exact ⟨0, [], none, 0, by omega, rfl, rfl, Lib.hid rfl, by simp, Lib.hid (World.ownsRow_nil _ _ _ _), Lib.hid (Below.refl _ _)⟩
  case round =>
    obtain ⟨k, out, Ao, co, hk, rfl, rfl, hf, hom, ho, hb⟩ := hrel
    by_cases hlt : k < n
    · by_cases hom2 : out.length < many
      · obtain ⟨ad, u, rfl, hadl, hu, hcell⟩ := (HR.out.below hb.out).at_ hlt
        obtain ⟨x, hx⟩ : ∃ x, l[k]? = some x := ⟨_, List.getElem?_eq_getElem (by rw [HN.out]; exact hlt)⟩
        obtain rfl : u = .int .u8 (x.toNat : Int) := by
          simp only [bytesC, List.getElem?_map, hx, Option.map_some] at hu
          exact (Option.some.inj hu).symm
        have HX := Lib.hid hx
        obtain ⟨Ao', co', e1, _, _, hro⟩ := own_slice ho.out
        cases e1
        have HRO := Lib.hid hro
        clear hu hx hro
        go_wp2_with fail
        obtain ⟨W0, hW0⟩ : ∃ W0, W0 = wr := ⟨_, rfl⟩
        subst hW0
        go_loopw [7, 8] (fun tv jv wi => ∃ j : Nat, j ≤ out.length ∧ jv = .int .i64 j ∧ tv = .bool ((out.take j).contains x) ∧ Hid (Below W0.heap.size W0 wi)) (fun _ jv _ => out.length - (intOf jv).toNat)
        case atStart => exact ⟨0, by omega, rfl, rfl, Lib.hid (Below.refl _ _)⟩
        case round =>
          obtain ⟨j, hj, rfl, rfl, hbi⟩ := hrel
          by_cases hjl : j < out.length
          · obtain ⟨bd, u, rfl, hbdl, hu, hyc⟩ := (HRO.out.below hbi.out).at_ hjl
            obtain ⟨y, hy⟩ : ∃ y, out[j]? = some y := ⟨_, List.getElem?_eq_getElem hjl⟩
            obtain rfl : u = .int .u8 (y.toNat : Int) := by
              simp only [bytesC, List.getElem?_map, hy, Option.map_some] at hu
              exact (Option.some.inj hu).symm
            have hxc : wr.cell? (ad.add k) = some (.int .u8 (x.toNat : Int)) := (hbi.out.cell (by rw [block_of_add]; exact Nat.lt_of_lt_of_le hadl hb.out.size)).trans hcell
            have hbq : ((y.toNat : Int) == (x.toNat : Int)) = (y == x) := by
              by_cases e : y = x
              · subst e; simp
              · have e2 : y.toNat ≠ x.toNat := fun h => e (UInt8.toNat_inj.1 h)
                rw [beq_eq_false_iff_ne.2 e, beq_eq_false_iff_ne.2 (by omega)]
            have HTK : Hid ((out.take (j + 1)).contains x = ((out.take j).contains x || (y == x))) := Lib.hid (by
              rw [List.take_add_one, hy, Option.toList_some]
              simp only [List.contains_eq_any_beq, List.any_append, List.any_cons, List.any_nil, Bool.or_false]
              congr 1
              by_cases e : x = y
              · subst e; simp
              · rw [beq_eq_false_iff_ne.2 e, beq_eq_false_iff_ne.2 (fun h => e h.symm)])
            clear hu hy
            obtain ⟨tb, htb⟩ : ∃ tb, (out.take j).contains x = tb := ⟨_, rfl⟩
            rw [htb] at HTK ⊢
            clear htb
            obtain ⟨eb, heb⟩ : ∃ eb, (y == x) = eb := ⟨_, rfl⟩
            rw [heb] at hbq HTK
            clear heb
            cases tb <;> cases eb
            all_goals
              go_wp2_with fail
              go_quiet (fail)
              go_wp2_with fail
              exact ⟨⟨j + 1, by omega, by go_num, by rw [HTK.out]; rfl, Lib.hid (below_drewN hbi.out nq)⟩, by simp [intOf]; omega⟩
          · obtain rfl : j = out.length := by omega
            rw [List.take_length]
            obtain ⟨tb, htb⟩ : ∃ tb, out.contains x = tb := ⟨_, rfl⟩
            rw [htb]
            have hob : wr.ownsRow w.heap.size 5 1 (.slice Ao out.length co) out.length (bytesC out) := ownsRow_same ho.out fun g hg => hbi.out.block g (ho.out.lt g hg).2
            have hbw : Below w.heap.size w wr := hb.out.trans (hbi.out.mono hb.out.size)
            have hxc : wr.cell? (ad.add k) = some (.int .u8 (x.toNat : Int)) := (hbi.out.cell (by rw [block_of_add]; exact Nat.lt_of_lt_of_le hadl hb.out.size)).trans hcell
            have HST := Lib.hid ((dist_take l many k x HX.out).trans (by rw [hf.out]))
            cases tb with
            | true =>
              have hnx : ¬ (out.length < many ∧ x ∉ out) := fun h => h.2 (by simpa using htb)
              have HF : Hid ((l.take (k + 1)).foldl (Pl.distStep many) [] = out) := Lib.hid (HST.out.trans (if_neg hnx))
              have HO := Lib.hid hob
              have HB := Lib.hid hbw
              clear hob hbw htb hnx
              go_wp2_with fail
              exact ⟨⟨k + 1, out, Ao, co, by omega, by go_num, rfl, HF, hom, HO, HB⟩, by simp [intOf]; omega⟩
            | false =>
              have hnx : out.length < many ∧ x ∉ out := ⟨hom2, fun h => by rw [← Bool.not_eq_true] at htb; exact htb (by simpa using h)⟩
              have HF : Hid ((l.take (k + 1)).foldl (Pl.distStep many) [] = out ++ [x]) := Lib.hid (HST.out.trans (if_pos hnx))
              have HO := Lib.hid hob
              have HB := Lib.hid hbw
              have hsz : w.heap.size ≤ wr.heap.size := hbw.size
              clear hob hbw htb hnx
              go_wp2_with (at_builtin; refine wpList_push rfl _ _ rfl wr w.heap.size (.slice Ao out.length co) out.length out x rfl HO.out rfl rfl hsz (by omega) ?_; intro A2 c2 w2 hown2 hg2 hat2)
              have HO2 : Hid (w2.ownsRow w.heap.size 5 1 (.slice A2 (out ++ [x]).length c2) (out ++ [x]).length (bytesC (out ++ [x]))) := Lib.hid (by rw [List.length_append, List.length_singleton]; exact hown2)
              have HB2 : Hid (Below w.heap.size w w2) := Lib.hid ((HB.out.alloc hsz _).grown hg2 (by simp; omega) (fun q hq => (HO.out.lt q hq).1))
              exact ⟨⟨k + 1, out ++ [x], A2, c2, by omega, by go_num, by rw [List.length_append, List.length_singleton], HF, by rw [List.length_append, List.length_singleton]; omega, HO2, HB2⟩, by simp [intOf]; omega⟩
      · have hfin : Pl.distinctL l many = out := by
          unfold Pl.distinctL
          rw [← List.take_append_drop k l, List.foldl_append, hf.out]
          exact dist_full many _ out (by omega)
        have HF := Lib.hid hfin
        clear hfin
        go_wp2_with fail
        go_returns
        exact ⟨_, rfl, by rw [HF.out]; exact ho.out, hb.out⟩
    · have hfin : Pl.distinctL l many = out := by
        unfold Pl.distinctL
        rw [← hf.out, List.take_of_length_le (by rw [HN.out]; omega)]
      have HF := Lib.hid hfin
      clear hfin
      go_wp2_with fail
      go_returns
      exact ⟨_, rfl, by rw [HF.out]; exact ho.out, hb.out⟩

end Go.Proofs.YtlhiadnolckoeaaGreatDoor
end

section
namespace Go.Proofs.YtlhiadnolckoeaaGreatDoor
open Go.RowKit Go.Maps

/-- the reference's tree of the root alone -/
def RefRoot (w : World) (t i : Nat) : Prop := ∃ r, Blk w t 97 #[.slice (some ⟨r, 0, none⟩) 1 1, .int .i64 2] ∧ Blk w r 67 #[.pointer (some ⟨i, 0, none⟩)] ∧
  Blk w i 66 #[.int .i64 1, .bool true, .int .i64 493, .int .i64 0, .slice none 0 0, .slice none 0 0, .int .i64 1, .int .i64 0]
theorem RefRoot.on {w w' : World} {t i : Nat} (h : RefRoot w t i) (hb : Below w.heap.size w w') : RefRoot w' t i := by
  obtain ⟨r, h1, h2, h3⟩ := h
  exact ⟨r, h1.on hb, h2.on hb, h3.on hb⟩

set_option maxRecDepth 100000 in
set_option maxHeartbeats 1000000 in
theorem refNew (w : World) : Calls Tryz.prog 38 #[] w fun e w' => ∃ t i, e = .returned (.pointer (some ⟨t, 0, none⟩)) ∧ RefRoot w' t i ∧ Below w.heap.size w w' := by
  go_enter Tryz.func38, Tryz.ntmps38
  go_wp2
  go_returns
  refine ⟨_, w.heap.size, rfl, ⟨w.heap.size + 1, ?_, ?_, ?_⟩, (((Below.refl _ w).alloc (Nat.le_refl _) _).alloc (by simp) _).alloc (by simp; omega) _⟩
  · have := Blk.newNext (w.alloc (.cells #[.int .i64 1, .bool true, .int .i64 493, .int .i64 0, .slice none 0 0, .slice none 0 0, .int .i64 1, .int .i64 0] 66)) (.cells #[.pointer (some ⟨w.heap.size, 0, none⟩)] 67) 97 #[.slice (some ⟨w.heap.size + 1, 0, none⟩) 1 1, .int .i64 2]
    simpa using this
  · exact (Blk.newNext w _ _ _).alloc _
  · exact ((Blk.new w _ _).alloc _).alloc _

set_option maxRecDepth 100000 in
set_option maxHeartbeats 1000000 in
theorem refLoad (w : World) : Calls Tryz.prog 22 #[.slice none 0 0] w fun e w' => ∃ t i, e = .returned (.tuple #[.pointer (some ⟨t, 0, none⟩), .int .i64 0]) ∧ RefRoot w' t i ∧ Below w.heap.size w w' := by
  go_enter Tryz.func22, Tryz.ntmps22
  go_wp2_with (go_at_call 38; refine (refNew _).mono ?_; rintro e w1 ⟨t, i, rfl, hR, hb⟩)
  refine wp_loop_rounds 1 ?_
  rw [rounds_succ]
  go_wp2
  go_returns
  exact ⟨t, i, rfl, hR, hb⟩

set_option maxRecDepth 100000 in
set_option maxHeartbeats 1000000 in
theorem refItem (w : World) (t i : Nat) (h : RefRoot w t i) : Calls Tryz.prog 24 #[.pointer (some ⟨t, 0, none⟩), .int .i64 1] w fun e w' => e = .returned (.pointer (some ⟨i, 0, none⟩)) ∧ w = w' := by
  obtain ⟨r, h1, h2, h3⟩ := h
  have c1 : w.cell? ⟨t, 0, none⟩ = some (.slice (some ⟨r, 0, none⟩) 1 1) := h1.cell 0
  have c2 : w.cell? ⟨r, 0, none⟩ = some (.pointer (some ⟨i, 0, none⟩)) := h2.cell 0
  have c3 : w.cell? ⟨i, 0, none⟩ = some (.int .i64 1) := h3.cell 0
  have l1 := h1.lt
  have l2 := h2.lt
  have l3 := h3.lt
  go_enter Tryz.func24, Tryz.ntmps24
  go_wp2
  refine wp_loop_rounds 1 ?_
  rw [rounds_succ]
  go_wp2
  go_returns
  exact ⟨rfl, rfl⟩

set_option maxRecDepth 100000 in
set_option maxHeartbeats 1000000 in
theorem refParts0 (w : World) : Calls Tryz.prog 45 #[.string ⟨#[]⟩] w fun e w' => e = .returned (.slice none 0 0) ∧ Below w.heap.size w w' := by
  go_enter Tryz.func45, Tryz.ntmps45
  go_wp2
  refine wp_loop_rounds 2 ?_
  rw [rounds_succ]
  go_wp2
  rw [rounds_succ]
  go_wp2
  go_returns
  exact ⟨rfl, Below.refl _ _⟩
set_option maxRecDepth 100000 in
set_option maxHeartbeats 1000000 in
theorem refParts1 (w : World) : Calls Tryz.prog 45 #[.string ⟨#[47]⟩] w fun e w' => e = .returned (.slice none 0 0) ∧ Below w.heap.size w w' := by
  go_enter Tryz.func45, Tryz.ntmps45
  go_wp2
  refine wp_loop_rounds 3 ?_
  rw [rounds_succ]
  go_wp2
  rw [rounds_succ]
  go_wp2
  rw [rounds_succ]
  go_wp2
  go_returns
  exact ⟨rfl, Below.refl _ _⟩
set_option maxRecDepth 100000 in
set_option maxHeartbeats 1000000 in
theorem refLeads (w : World) (t : Nat) : Calls Tryz.prog 44 #[.pointer (some ⟨t, 0, none⟩), .int .i64 1, .slice none 0 0] w fun e w' => e = .returned (.tuple #[.int .i64 1, .int .i64 0]) ∧ Below w.heap.size w w' := by
  go_enter Tryz.func44, Tryz.ntmps44
  go_wp2
  refine wp_loop_rounds 1 ?_
  rw [rounds_succ]
  go_wp2
  go_returns
  exact ⟨rfl, Below.refl _ _⟩

end Go.Proofs.YtlhiadnolckoeaaGreatDoor
end

section
namespace Go.Proofs.YtlhiadnolckoeaaGreatDoor
open Go.RowKit Go.Maps

set_option maxRecDepth 100000 in
set_option maxHeartbeats 1000000 in
theorem refFrom (w : World) (t i : Nat) (h : RefRoot w t i) : Calls Tryz.prog 43 #[.pointer (some ⟨t, 0, none⟩), .string ⟨#[]⟩, .string ⟨#[47]⟩] w fun e w' => e = .returned (.tuple #[.int .i64 1, .int .i64 0]) ∧ Below w.heap.size w w' := by
  have hdir : ∀ W, RefRoot W t i → W.cell? ⟨i, 1, none⟩ = some (.bool true) ∧ i < W.heap.size := fun W hW => by obtain ⟨r, h1, h2, h3⟩ := hW; exact ⟨h3.cell 1, h3.lt⟩
  go_enter Tryz.func43, Tryz.ntmps43
  go_wp2_with (first
    | (go_at_call 24; refine (refItem _ t i hR2).mono ?_; rintro e w3 ⟨rfl, rfl⟩; obtain ⟨hd1, hd2⟩ := hdir _ hR2)
    | (go_at_call 44; refine (refLeads _ t).mono ?_; rintro e w2 ⟨rfl, hb2⟩; have hR2 := hR1.on hb2)
    | (go_at_call 45; refine (refParts0 _).mono ?_; rintro e w1 ⟨rfl, hb1⟩; have hR1 := h.on hb1))
  go_returns
  exact ⟨rfl, hb1.trans (hb2.mono hb1.size)⟩

set_option maxRecDepth 100000 in
set_option maxHeartbeats 1000000 in
theorem refSlash (w : World) : Calls Tryz.prog 46 #[.string ⟨#[47]⟩] w fun e w' => e = .returned (.bool true) ∧ w = w' := by
  go_enter Tryz.func46, Tryz.ntmps46
  go_wp2
  go_returns
  exact ⟨rfl, rfl⟩

set_option maxRecDepth 100000 in
set_option maxHeartbeats 1000000 in
theorem refFind (w : World) (t i : Nat) (h : RefRoot w t i) : Calls Tryz.prog 23 #[.pointer (some ⟨t, 0, none⟩), .string ⟨#[]⟩, .string ⟨#[47]⟩] w fun e w' => e = .returned (.tuple #[.int .i64 1, .int .i64 0]) ∧ Below w.heap.size w w' := by
  have hdir : ∀ W, RefRoot W t i → W.cell? ⟨i, 1, none⟩ = some (.bool true) ∧ i < W.heap.size := fun W hW => by obtain ⟨r, h1, h2, h3⟩ := hW; exact ⟨h3.cell 1, h3.lt⟩
  go_enter Tryz.func23, Tryz.ntmps23
  go_wp2_with (first
    | (go_at_call 24; refine (refItem _ t i hR4).mono ?_; rintro e w6 ⟨rfl, rfl⟩; obtain ⟨hd1, hd2⟩ := hdir _ hR4)
    | (go_at_call 46; have hR4 := hR3; refine (refSlash _).mono ?_; rintro e w5 ⟨rfl, rfl⟩)
    | (go_at_call 44; refine (refLeads _ t).mono ?_; rintro e w3 ⟨rfl, hb3⟩; have hR3 := hR2.on hb3)
    | (go_at_call 45; refine (refParts1 _).mono ?_; rintro e w2 ⟨rfl, hb2⟩; have hR2 := hR1.on hb2)
    | (go_at_call 43; refine (refFrom _ t i h).mono ?_; rintro e w1 ⟨rfl, hb1⟩; have hR1 := h.on hb1))
  go_returns
  have hb12 := hb1.trans (hb2.mono hb1.size)
  exact ⟨rfl, hb12.trans (hb3.mono hb12.size)⟩

set_option maxRecDepth 100000 in
set_option maxHeartbeats 2000000 in
theorem refMay (w : World) (av : Value) (A : Option Addr) (c : Nat) (buf line run : Int) (hav : av = .slice A 1 c) : Calls Tryz.prog 10 #[.agg (jobCells av (.slice none 0 0) (.slice none 0 0) buf line run)] w fun e w' => ∃ b, e = .returned (.bool b) ∧ (b = true → LimOk buf line run) ∧ Below w.heap.size w w' := by
  subst hav
  have hdir : ∀ W t i, RefRoot W t i → W.cell? ⟨i, 1, none⟩ = some (.bool true) ∧ i < W.heap.size := fun W t i hW => by obtain ⟨r, h1, h2, h3⟩ := hW; exact ⟨h3.cell 1, h3.lt⟩
  unfold jobCells
  obtain ⟨b1, hb1⟩ : ∃ b, decide (buf < 1) = b := ⟨_, rfl⟩
  obtain ⟨b2, hb2⟩ : ∃ b, decide (line < 1) = b := ⟨_, rfl⟩
  obtain ⟨b3, hb3⟩ : ∃ b, decide (run < line) = b := ⟨_, rfl⟩
  obtain ⟨b4, hb4⟩ : ∃ b, decide ((1099511627776 : Int) < buf) = b := ⟨_, rfl⟩
  obtain ⟨b5, hb5⟩ : ∃ b, decide ((1099511627776 : Int) < run) = b := ⟨_, rfl⟩
  have H1 := Lib.hid hb1
  have H2 := Lib.hid hb2
  have H3 := Lib.hid hb3
  have H4 := Lib.hid hb4
  have H5 := Lib.hid hb5
  go_enter Tryz.func10, Tryz.ntmps10
  go_wp2_with (first
    | (go_at_call 24; refine (refItem _ t i hR2).mono ?_; rintro e w3 ⟨rfl, rfl⟩; obtain ⟨hd1, hd2⟩ := hdir _ t i hR2)
    | (go_at_call 23; refine (refFind w1 t i hR).mono ?_; rintro e w2 ⟨rfl, hb9⟩; have hR2 := hR.on hb9)
    | (go_at_call 22; refine (refLoad _).mono ?_; rintro e w1 ⟨t, i, rfl, hR, hb⟩
       have bx : Blk w1 w.heap.size 36 (jobCells (.slice A 1 c) (.slice none 0 0) (.slice none 0 0) buf line run) := Blk.on (Blk.new w _ _) hb
       have x0 : w1.cell? ⟨w.heap.size, 0, none⟩ = some (.slice A 1 c) := bx.cell 0
       have x2 : w1.cell? ⟨w.heap.size, 2, none⟩ = some (.string ⟨#[]⟩) := bx.cell 2
       have x5 : w1.cell? ⟨w.heap.size, 5, none⟩ = some (.int .i64 buf) := bx.cell 5
       have x6 : w1.cell? ⟨w.heap.size, 6, none⟩ = some (.int .i64 line) := bx.cell 6
       have x7 : w1.cell? ⟨w.heap.size, 7, none⟩ = some (.int .i64 run) := bx.cell 7
       have x9 : w1.cell? ⟨w.heap.size, 9, none⟩ = some (.int .i64 0) := bx.cell 9
       have xl : w.heap.size < w1.heap.size := bx.lt))
  all_goals go_returns
  all_goals
    first
    | exact ⟨false, rfl, by simp, below_step (below_one w _) hb (Nat.le_refl _)⟩
    | (refine ⟨true, rfl, fun _ => ?_, below_step (below_step (below_one w _) hb (Nat.le_refl _)) hb9 (Nat.le_refl _)⟩
       have h1 := H1.out
       have h2 := H2.out
       have h3 := H3.out
       have h4 := H4.out
       have h5 := H5.out
       simp_all
       constructor <;> omega)

end Go.Proofs.YtlhiadnolckoeaaGreatDoor
end

section
namespace Go.Proofs.YtlhiadnolckoeaaGreatDoor
open Go.RowKit Go.Maps

def cntF (f : UInt8 → Int) (j : Nat) : Value := .int .i64 (f (UInt8.ofNat j))
theorem cnt_get (f : UInt8 → Int) (c : UInt8) : (arrF 256 (cntF f))[c.toNat]? = some (.int .i64 (f c)) := by
  rw [arrF_get _ c.toNat_lt, cntF, UInt8.ofNat_toNat]
theorem cnt_set (f h : UInt8 → Int) (c : UInt8) (z : Int) (hz : z = h c) (ho : ∀ x, x ≠ c → h x = f x) : (arrF 256 (cntF f)).setIfInBounds c.toNat (.int .i64 z) = arrF 256 (cntF h) := by
  subst hz
  rw [arrF_set]
  refine arrF_congr fun j hj => ?_
  by_cases e : j = c.toNat
  · subst e
    rw [if_pos rfl, cntF, UInt8.ofNat_toNat]
  · rw [if_neg e, cntF, cntF, ho]
    intro h1
    apply e
    rw [← h1, UInt8.toNat_ofNat']
    omega
theorem count_more (l : List UInt8) (k : Nat) (c : UInt8) (hc : l[k]? = some c) (x : UInt8) : ((l.take (k + 1)).count x : Int) = ((l.take k).count x : Int) + if x = c then 1 else 0 := by
  rw [List.take_add_one, hc, Option.toList_some, List.count_append, List.count_singleton]
  by_cases e : x = c
  · subst e; simp
  · rw [if_neg e, if_neg (by simpa using fun h => e h.symm)]
    simp

end Go.Proofs.YtlhiadnolckoeaaGreatDoor
end

section
namespace Go.Proofs.YtlhiadnolckoeaaGreatDoor
open Go.RowKit Go.Maps

theorem reads_two (W : World) (a b : ByteArray) : Reads (W.alloc (.cells #[.string a, .string b] 9)) (W.alloc (.cells #[.string a, .string b] 9)).heap.size 1 (some ⟨W.heap.size, 0, none⟩) 2 (strsC [a, b]) := by
  refine ⟨by simp [strsC], fun _ => ⟨_, rfl, by simp, fun j u hu => ?_⟩⟩
  rw [addr0, (Blk.new W 9 #[.string a, .string b]).cell j, ← hu]
  simp [strsC]
/-- a run of tr at two strings that were laid for it -/
theorem tr_two (W : World) (a b : ByteArray) (inb : List UInt8) (m : Nat) (IA : Option Addr) (ic : Nat) (buf line run : Int) (out : List UInt8) (hi : Bytes W W.heap.size (.slice IA m ic) inb) (h : TrIs [a, b] 2 inb m buf line run out (W.alloc (.cells #[.string a, .string b] 9))) :
    Calls Tryz.prog 11 #[.slice IA m ic, .slice (some ⟨W.heap.size, 0, none⟩) 2 2, .agg #[.int .i64 buf, .int .i64 line, .int .i64 run]] (W.alloc (.cells #[.string a, .string b] 9)) fun e w' => ∃ ov ev sp pk, e = .returned (.tuple #[resV ov ev 0 sp pk, .bool true]) ∧
      w'.ownsRow W.heap.size 5 1 ov out.length (bytesC out) ∧ w'.ownsRow W.heap.size 5 1 ev 0 [] ∧ Below W.heap.size W w' := by
  have hb := below_one W (.cells #[.string a, .string b] 9)
  refine (h.go _ 2 IA ic (reads_two W a b) ((hi.below hb).more hb.size)).mono ?_
  rintro e w' ⟨ov, ev, sp, pk, rfl, h1, h2, h3⟩
  exact ⟨ov, ev, sp, pk, rfl, own_down h1 hb.size, own_down h2 hb.size, hb.trans (h3.mono hb.size)⟩

theorem zeros_cnt : Tryz.zeroCells43 = arrF 256 (cntF fun _ => 0) := by kernel_rfl
theorem own_bytes {w : World} {B n : Nat} {v : Value} {l : List UInt8} (hn : l.length = n) (h : w.ownsRow B 5 1 v n (bytesC l)) : ∃ A c, v = .slice A n c ∧ Bytes w w.heap.size (.slice A n c) l := by
  subst hn
  rcases h.2 with ⟨rfl, h0⟩ | ⟨g, cap, cur, rfl, _, hg, hn, hc, _⟩
  · have hl : l = [] := List.eq_nil_of_length_eq_zero h0
    subst hl
    exact ⟨none, 0, rfl, Bytes.nil w _⟩
  · obtain ⟨A, c, e, h1, h2, h3⟩ := own_slice h
    cases e
    exact ⟨_, _, rfl, _, _, rfl, hn, hc, fun e => by simp at e, h3⟩
/-- a result stored into a new box: what it says are bytes -/
theorem wpList_store_said {ops : Array Oper} {rest : List Oper} {o : Oper} {a : Act} {Q : Exit → Act → World → Prop} (hgd : o.guard = none) (x y : Operand) (ho : o.op = .store resT x y) {w w1 : World} {out : List UInt8} {m : Nat} (hm : out.length = m) {st sp pk : Int} {ov ev : Value}
    (ho' : w1.ownsRow w.heap.size 5 1 ov m (bytesC out)) (he' : w1.ownsRow w.heap.size 5 1 ev 0 []) (hb : Below w.heap.size w w1)
    (hx : a.eval x = .pointer (some ⟨w1.heap.size, 0, none⟩)) (hy : a.eval y = .agg (resC ov ev st sp pk))
    (hK : ∀ w' A c, w'.cell? ⟨w1.heap.size, 0, none⟩ = some (.slice A m c) → w1.heap.size < w'.heap.size → Bytes w' w'.heap.size (.slice A m c) out → Below w.heap.size w w' → wpList Tryz.prog ops Q rest (a.put o.dst undef) w') : wpList Tryz.prog ops Q (o :: rest) a (w1.alloc (.cells resZ0 resT)) := by
  obtain ⟨A, c, rfl, hby⟩ := own_bytes hm ho'
  obtain ⟨E, d, rfl, _, _, hrE⟩ := own_slice he'
  refine wpList_store_blk hgd resT x y ho w1.heap.size resT resZ0 (resC (.slice A m c) (.slice E 0 d) st sp pk) hx hy (Blk.new w1 _ _) rfl (by kernel_rfl) (by kernel_rfl) ?_
  intro w' hb' hg'
  have hbA : Below w1.heap.size w1 (w1.alloc (.cells resZ0 resT)) := below_one w1 _
  have hb2 : Below w1.heap.size w1 w' := hbA.grown hg' (by simp) (fun k hk => by cases hk; exact Nat.le_refl _)
  exact hK w' A c (hb'.cell 0) hb'.lt ((hby.below hb2).more hb2.size) (hb.trans (hb2.mono hb.size))

/-- the limits' box and what was there before it -/
structure LawBox (g : Nat) (buf line run : Int) (w W : World) : Prop where
  lim : Blk W g 28 #[.int .i64 buf, .int .i64 line, .int .i64 run]
  below : Below g w W
theorem LawBox.on {g : Nat} {buf line run : Int} {w W W' : World} (h : LawBox g buf line run w W) (hb : Below W.heap.size W W') : LawBox g buf line run w W' := ⟨Blk.on h.lim hb, h.below.trans (hb.mono (Nat.le_of_lt h.lim.lt))⟩
theorem LawBox.cells {g : Nat} {buf line run : Int} {w W : World} (h : LawBox g buf line run w W) : W.cell? ⟨g, 0, none⟩ = some (.int .i64 buf) ∧ W.cell? ⟨g, 1, none⟩ = some (.int .i64 line) ∧ W.cell? ⟨g, 2, none⟩ = some (.int .i64 run) ∧ g < W.heap.size := ⟨h.lim.cell 0, h.lim.cell 1, h.lim.cell 2, h.lim.lt⟩

end Go.Proofs.YtlhiadnolckoeaaGreatDoor
end
