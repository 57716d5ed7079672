/-
  Parts of the proof.
-/
import Derived.Test.YtffffjngodinnaaGreatDoorV09
import Derived.Deep.RegionHeld3
namespace Go.Proofs.YtffffjngodinnaaGreatDoor
section
open Go.RowKit
theorem Tryz.infoStrC : (Tryz.prog.info? 9).map (fun i => (i.zero, i.size, i.bytes)) = some (some (.string ⟨#[]⟩), 1, 16) := by kernel_rfl
theorem strsC_oneCell (l : List ByteArray) : ∀ u ∈ strsC l, u.oneCell' = true := by
 intro u hu
 obtain ⟨s, _, rfl⟩ := List.mem_map.1 hu
 rfl
set_option maxHeartbeats 400000 in
theorem cloneS_any (A : Option Addr) (n cap : Nat) (l : List ByteArray) (w : World) (B : Nat) (hn : n = l.length) (hr : Reads w B 1 A n (strsC l)) (hB : B <= w.heap.size) (hl : n <= 2097152) :
 Calls Tryz.prog 59 #[.slice A n cap] w fun e w' => ∃ v, e = .returned v /\ w'.ownsRow w.heap.size 9 1 v n (strsC l) /\ Below w.heap.size w w' := by
 have heq := fun (W : World) => Lib.run_eql_slice_nil (P := Tryz.prog) W 22 9 A n cap 0 0 Tryz.underlying22
 have hR := Lib.hid hr
 have hN := Lib.hid hn
 clear hr hn
 cases A with
 | none =>
   go_enter Tryz.func59, Tryz.ntmps59
   go_wp2
   go_returns
   have h0 : n = 0 := by
    rcases Nat.eq_zero_or_pos n with h | h
    · exact h
    · obtain ⟨ad, h, _⟩ := hR.out.2 h
      cases h
   have hnil : l = [] := List.eq_nil_of_length_eq_zero (hN.out.symm.trans h0)
   subst hnil h0
   exact ⟨_, rfl, World.ownsRow_nil _ _ _ _, Below.refl _ _⟩
 | some ad =>
   obtain ⟨iS, hiS, hS0, hS1, hS2⟩ := info_parts Tryz.infoStrC
   have HI := Lib.hid hiS
   have H0 := Lib.hid hS0
   have H1 := Lib.hid hS1
   have H2 := Lib.hid hS2
   clear hiS hS0 hS1 hS2
   go_enter Tryz.func59, Tryz.ntmps59
   go_wp2_with (at_builtin; refine wpList_append_any _ rfl _ _ 22 rfl w.heap.size 9 iS (.string ⟨#[]⟩) 1 16 Tryz.underlying22 HI.out H0.out H1.out H2.out rfl (by decide) (.slice (some ⟨w.heap.size, 0, none⟩) 0 0) 0 [] rfl (World.ownsRow_made w #[] 0 (Nat.le_refl _) (by decide) rfl) w.heap.size (some ad) n cap (strsC l) rfl ((hR.out.more hB).alloc (Nat.le_refl _) _) (strsC_oneCell l) (by simp only [maxLen]; omega) (by omega) (by simp) ?_; intro v1 w1 hown1 hg1 hat1)
   go_returns
   refine ⟨v1, rfl, by simpa using hown1, ((Below.refl _ _).alloc (Nat.le_refl _) _).grown hg1 (by simp) (fun k hk => ?_)⟩
   simp [Value.ownBlock] at hk
   omega
end
section
open Go.RowKit
def strB (l : List UInt8) : ByteArray := ⟨l.toArray⟩
theorem strB_toList (l : List UInt8) : (strB l).toList = l := by rw [ByteArray.toList_eq]; rfl
theorem strB_size (l : List UInt8) : (strB l).size = l.length := by simp [strB, ByteArray.size]
theorem strB_eq (a b : List UInt8) : ((strB a).toList == (strB b).toList) = decide (a = b) := by
 rw [strB_toList, strB_toList, Bool.eq_iff_iff, beq_iff_eq, decide_eq_true_eq]
theorem convert_string {P : Program} {src dst e : TypeId} (hs : P.underlying src = some (.slice e)) (he : P.underlying e = some (.int .u8)) (hd : P.underlying dst = some .string) {W : World} {B cap : Nat} {A : Option Addr} {l : List UInt8} (hr : Reads W B 1 A l.length (bytesC l)) :
 (convert src dst (.slice A l.length cap)).run P W = .ok (.string ⟨l.toArray⟩) W := by
 rcases A with _ | ad
 · have h0 : l = [] := by
    rcases l with _ | ⟨c, l⟩
    · rfl
    · obtain ⟨ad, h, _⟩ := hr.2 (by simp); cases h
   subst h0
   exact run_convert_bytes_nil W src e hs he 0 cap dst hd
 · refine run_convert_bytes_back W src dst e ad cap l hs he hd fun j hj => ?_
   obtain ⟨ad', h, _, hc⟩ := hr.2 (by omega)
   cases h
   exact hc j _ (by simp [bytesC, List.getElem?_eq_getElem hj])
theorem convOut {W : World} {B cap n : Nat} {A : Option Addr} {l : List UInt8} {S : ByteArray} (hS : strB l = S) (hn : l.length = n) (hr : Reads W B 1 A l.length (bytesC l)) : (convert 23 9 (.slice A n cap)).run Tryz.prog W = .ok (.string S) W := by
 subst hS hn
 exact convert_string Tryz.underlying23 Tryz.underlying5 Tryz.underlying9 hr
end
section
set_option maxRecDepth 100000
open Go.RowKit Go.Maps
theorem limS {Z W : World} {g : Nat} {t : TypeId} {b l r : Value} (zb : Blk Z g t #[b, l, r]) (h : Below (g + 1) Z W) : W.cell? ⟨g, 0, none⟩ = some b /\ W.cell? ⟨g, 1, none⟩ = some l /\ W.cell? ⟨g, 2, none⟩ = some r /\ Below (g + 1) Z W :=
 have q := zb.below h (Nat.lt_succ_self g)
 ⟨q.cell 0, q.cell 1, q.cell 2, h⟩
theorem lim_le {Z W : World} {g : Nat} (hz : g + 1 <= Z.heap.size) (h : Below (g + 1) Z W) : g <= W.heap.size := by have := h.size; omega
set_option maxHeartbeats 2000000 in
theorem procNew (w : World) (k : Nat) (A1 A2 : Option Addr) (c1 c2 : Nat) (args env : List ByteArray) (cwd : ByteArray) (buf line run : Int) (h1 : Reads w w.heap.size 1 A1 args.length (strsC args)) (h2 : Reads w w.heap.size 1 A2 env.length (strsC env)) (l1 : args.length <= 2097152) (l2 : env.length <= 2097152) :
 Calls Tryz.prog 27 #[.pointer (some ⟨k, 0, none⟩), .slice A1 args.length c1, .slice A2 env.length c2, .string cwd, .agg #[.int .i64 buf, .int .i64 line, .int .i64 run]] w fun e w' => ∃ p tb av ev all, e = .returned (.pointer (some ⟨p, 0, none⟩)) /\ w.heap.size <= p /\ w.heap.size <= tb /\
  ProcOf w' p { k := k, tb := tb, av := av, args := args, ev := ev, env := env, cwd := cwd, buf := buf, line := line, run := run, held := 0, peak := 0, lv := .slice none 0 0, log := [], at_ := 0, may := false, top := false, steps := 0, all := all } /\
  Blk w' all 89 #[.slice none 0 0, .slice none 0 0, .int .i64 (-1)] /\
  TableOf w' tb k (fun _ => .nilIface) /\ Below w.heap.size w w' /\ (∀ b, av.ownBlock = some b -> w.heap.size <= b) /\ (∀ b, ev.ownBlock = some b -> w.heap.size <= b) /\ w.heap.size <= all := by
 have hR1 := Lib.hid h1
 have hR2 := Lib.hid h2
 have L1 := Lib.hid l1
 have L2 := Lib.hid l2
 clear h1 h2 l1 l2
 go_enter Tryz.func27, Tryz.ntmps27
 go_wp2_with fail
 obtain ⟨Z, hZ⟩ : ∃ Z, w.alloc (.cells #[.int .i64 buf, .int .i64 line, .int .i64 run] 26) = Z := ⟨_, rfl⟩
 have bZ : Below w.heap.size w Z := by rw [<- hZ]; exact (Below.refl _ w).alloc (Nat.le_refl _) _
 have zb : Blk Z w.heap.size 26 #[.int .i64 buf, .int .i64 line, .int .i64 run] := by rw [<- hZ]; exact Blk.new w _ _
 rw [hZ]
 obtain ⟨g, hg⟩ : ∃ g, w.heap.size = g := ⟨_, rfl⟩
 have hzs : g < Z.heap.size := by rw [<- hg]; exact zb.lt
 rw [hg] at zb bZ ⊢
 clear hZ
 have rd1 : ∀ W, Below (g + 1) Z W -> Reads W g 1 A1 args.length (strsC args) := fun W hW => ((hg ▸ hR1.out : Reads w g 1 A1 args.length (strsC args)).below bZ).below (hW.mono (by omega))
 have rd2 : ∀ W, Below (g + 1) Z W -> Reads W g 1 A2 env.length (strsC env) := fun W hW => ((hg ▸ hR2.out : Reads w g 1 A2 env.length (strsC env)).below bZ).below (hW.mono (by omega))
 have rd1 := Lib.hid rd1
 have rd2 := Lib.hid rd2
 have y0 : Z.cell? ⟨g, 0, none⟩ = some (.int .i64 buf) := zb.cell 0
 have y1 : Z.cell? ⟨g, 1, none⟩ = some (.int .i64 line) := zb.cell 1
 have y2 : Z.cell? ⟨g, 2, none⟩ = some (.int .i64 run) := zb.cell 2
 have hB : Below (g + 1) Z Z.drew := ⟨rfl, rfl, rfl, Nat.le_refl _, fun _ _ => rfl⟩
 have hgz : g + 1 <= Z.heap.size := hzs
 have hB0 : ∀ o, Below (g + 1) Z (Z.alloc o).drew := fun o => have h := (Below.refl (g + 1) Z).alloc hgz o; ⟨h.os, h.tape, h.output, h.size, h.block⟩
 have hB0s : ∀ o : Obj, (Z.alloc o).drew.heap.size = Z.heap.size + 1 := fun o => by show (Z.alloc o).heap.size = _; simp
 have hgw : g <= w.heap.size := Nat.le_of_eq hg.symm
 have HS := Lib.hid hB0s
 clear hR1 hR2 hB0s
 go_region_held3 (fun W => W.cell? ⟨g, 0, none⟩ = some (.int .i64 buf) /\ W.cell? ⟨g, 1, none⟩ = some (.int .i64 line) /\ W.cell? ⟨g, 2, none⟩ = some (.int .i64 run) /\ Below (g + 1) Z W)
  (first | (go_split_ands; refine limS zb ?_; first | assumption | exact hB0 _ | (refine below_box ?_ hgz _; assumption)))
  (first
  | (go_at_call 58; refine (kTable _ _).mono ?_; rintro e w1 ⟨rfl, hT1, hb1⟩; have hB1 : Below (g + 1) Z w1 := (by go_split_ands; first | exact below_step (hB0 _) hb1 hgz | (refine below_step ?_ hb1 hgz; assumption)))
  | (go_at_call 59; have hT3 := hT2; refine (cloneS_any A2 env.length c2 env _ g rfl (rd2.out _ (by go_split_ands; assumption)) (by go_split_ands; exact lim_le hgz (by assumption)) L2.out).mono ?_; rintro e w3 ⟨ev, rfl, hown3, hb3⟩; obtain ⟨Ae, ce, rfl, _⟩ := own_slice hown3; have hB3 : Below (g + 1) Z w3 := (by go_split_ands; exact below_step (by assumption) hb3 hgz))
  | (go_at_call 59; refine (cloneS_any A1 args.length c1 args _ g rfl (rd1.out _ (by go_split_ands; assumption)) (by go_split_ands; exact lim_le hgz (by assumption)) L1.out).mono ?_; rintro e w2 ⟨av, rfl, hown2, hb2⟩; obtain ⟨Aa, ca, rfl, _⟩ := own_slice hown2; have hB2 : Below (g + 1) Z w2 := (by go_split_ands; exact below_step (by assumption) hb2 hgz); have hT2 := hT1))
 all_goals
  have h23 : Below w2.heap.size w2 w3 := by first | exact hb3 | exact below_step (below_one w2 _) hb3 (Nat.le_refl _)
  have h13 : Below w1.heap.size w1 w3 := by first | exact below_step hb2 h23 (Nat.le_refl _) | exact below_step (below_step (below_one w1 _) hb2 (Nat.le_refl _)) h23 (Nat.le_refl _)
  have hT9 := Blk.on hT1 h13
  try rw [HS.out _] at hT9
  have h9 : Below g w w3 := bZ.trans (hB3.mono (Nat.le_succ g))
  have o29 := own_on hown2 h23
  have s3 := hB3.size
  have s2 := hB2.size
  have s1 := hB1.size
  have h39 := h23.size
  have h29 := h13.size
  go_wp2_with fail
  go_returns
  rw [hg]
  refine ⟨_, _, _, _, _, rfl, ?_, ?_, ⟨(by first | exact Blk.new _ _ _ | exact Blk.newNext _ _ _ _), ?_, ?_, ⟨rfl, .inl ⟨rfl, rfl⟩⟩⟩, Blk.alloc (by first | exact Blk.new w3 _ _ | exact Blk.on (Blk.new w2 _ _) hb3 | exact Blk.on (Blk.new w1 _ _) (below_step hb2 hb3 (Nat.le_refl _)) | exact Blk.on (Blk.new Z _ _).drew (below_step (below_step hb1 hb2 (Nat.le_refl _)) hb3 (Nat.le_refl _))) _, Blk.alloc (by first | exact hT9 | exact Blk.alloc hT9 _) _, ?_, fun b hb => ?_, fun b hb => ?_, ?_⟩
  · first | omega | (simp; omega)
  · first | (show g <= Z.heap.size; omega) | omega | (simp; omega)
  · exact Joins.ownsRow_le ((by first | exact o29.alloc _ | exact (o29.alloc _).alloc _) : World.ownsRow _ _ _ _ _ _ _) (Nat.zero_le _)
  · exact Joins.ownsRow_le ((by first | exact hown3.alloc _ | exact (hown3.alloc _).alloc _) : World.ownsRow _ _ _ _ _ _ _) (Nat.zero_le _)
  · first | exact below_box h9 hgw _ | exact below_box (below_box h9 hgw _) hgw _
  · have := (hown2.lt b hb).1
    first | omega | (simp at this; omega)
  · have := (hown3.lt b hb).1
    first | omega | (simp at this; omega)
  · first | omega | (simp; omega)
end
end Go.Proofs.YtffffjngodinnaaGreatDoor
