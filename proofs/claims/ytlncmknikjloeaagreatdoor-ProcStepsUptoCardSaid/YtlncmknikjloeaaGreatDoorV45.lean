/-
  Parts of the proof: ProcSteps' first loop, that makes the acts: a theorem of its own, over the frame written out (printed by wip/tools/stepsloop.py); How ProcSteps' machine stands between rounds: it waits, or it is through.
-/
import Derived.Test.YtlncmknikjloeaaGreatDoorV43

section
namespace Go.Proofs.YtlncmknikjloeaaGreatDoor
open Go.RowKit Go.Maps Go.Shelf

/-- the loops of a function's code, in their order -/
def loopsOf : Code → List Code
  | .loop c => [c]
  | .seq a b => loopsOf a ++ loopsOf b
  | .block _ c => loopsOf c
  | .scope c => loopsOf c
  | .cond _ a b => loopsOf a ++ loopsOf b
  | _ => []
noncomputable def stepLoop (k : Nat) : Code := (Tryz.f3.body.bind (fun c => (loopsOf c)[k]?)).getD .skip

/-- a part as it stands in memory -/
structure PartIt where
  A : Option Addr
  c : Nat
  bs : List UInt8
def partV (p : PartIt) : Value := .slice p.A p.bs.length p.c
/-- the act that tells it -/
def actOf (p : PartIt) : ActIt := ⟨2, 0, p.A, p.c, p.bs⟩
def holdIt : ActIt := ⟨4, 7, none, 0, []⟩
theorem actOf_strip (ps : List PartIt) : (holdIt :: ps.map actOf).map ActIt.strip = (4, 7, []) :: (ps.map (·.bs)).map fun p => (2, 0, p) := by
  simp [holdIt, actOf, ActIt.strip, Function.comp_def]
theorem actsC_snoc (l : List ActIt) (a : ActIt) : actsC (l ++ [a]) = actsC l ++ actC a := by simp [actsC]

set_option maxRecDepth 100000 in
set_option maxHeartbeats 8000000 in
theorem steps_l1 (w w0 : World) (B : Nat) (PA : Option Addr) (pc n : Nat) (ps : List PartIt) (hn : ps.length = n) (hn2 : n ≤ 200) (hr : Reads w B 1 PA n (ps.map partV)) (hBw : w.heap.size = B) (hb0 : Below B w w0) (g : Nat) (hown : w0.ownsRow B 41 3 (.slice (some ⟨g, 0, none⟩) 1 1) 1 (actsC [holdIt]))
    {e1 e2 e3 e4 e5 e6 e7 e8 e9 e10 e11 e12 e13 e15 e17 e18 e19 e20 e21 e22 e23 e24 e25 e26 e27 e28 e29 e30 e31 e32 e33 e34 e35 e36 e37 e38 e39 e40 e41 e42 e43 e44 e45 e46 e47 e48 e49 e50 e51 e52 e53 e54 e55 e56 e57 e58 e59 e60 e61 e62 e63 e64 e65 e66 e67 e68 e69 e70 e71 e72 e73 e74 e75 e76 e77 e78 e79 e80 e81 e82 e83 e84 e85 e86 e87 e88 e89 e90 e91 e92 e93 e94 e95 e96 e97 e98 e99 e100 e101 e102 e103 e104 e105 e106 e107 e108 e109 e110 e111 e112 e113 e114 e115 e116 e117 e118 e119 e120 e121 e122 e123 e124 e125 e126 e127 e128 e129 e130 e131 e132 e133 e134 e135 e136 e137 e138 e139 e140 e141 e142 e143 e144 e145 e146 e147 e148 e149 e150 e151 e152 e153 e154 e155 e156 e157 e158 e159 e160 e161 e162 e163 e164 e165 e166 e167 e168 e169 e170 e171 e172 e173 e174 e175 e176 e177 e178 e179 e180 e181 e182 e183 e184 e185 e186 e187 e188 e189 e190 e191 e192 e193 e194 e195 e196 e197 e198 e199 e200 e201 e202 e203 e204 e205 e206 e207 e208 e209 e210 e211 e212 e213 e214 e215 e216 e217 e218 e219 e220 e221 e222 e223 e224 e225 e226 e227 e228 e229 e230 e231 e232 e233 e234 e235 e236 e237 e238 e239 e240 e241 e242 e243 e244 e245 e246 e247 e248 e249 e250 e251 e252 e253 e254 e255 e256 e257 e258 e259 e260 e261 e262 e263 e264 e265 e266 e267 e268 e269 e270 e271 e272 e273 e274 e275 e276 e277 e278 e279 e280 e281 e282 e283 e284 e285 e286 e287 e288 e289 e290 e291 e292 e293 e294 e295 e296 : Value} {Q0 : Exit → Act → World → Prop}
    (hexit : ∀ (u55 u56 u57 u58 u59 u60 u61 u62 u63 u64 u65 u66 u67 u68 v : Value) (w1 : World), Below B w w1 → w1.ownsRow B 41 3 v (n + 1) (actsC (holdIt :: ps.map actOf)) → Q0 (.exit 0) ⟨#[.slice PA n pc, e1, e2, e3, e4, e5, e6, e7, e8, e9, e10, e11, e12, e13, v, e15, .int .i64 (n : Int), e17, e18, e19, e20, e21, e22, e23, e24, e25, e26, e27, e28, e29, e30, e31, e32, e33, e34, e35, e36, e37, e38, e39, e40, e41, e42, e43, e44, e45, e46, e47, e48, e49, e50, e51, e52, e53, e54, u55, u56, u57, u58, u59, u60, u61, u62, u63, u64, u65, u66, u67, u68, e69, e70, e71, e72, e73, e74, e75, e76, e77, e78, e79, e80, e81, e82, e83, e84, e85, e86, e87, e88, e89, e90, e91, e92, e93, e94, e95, e96, e97, e98, e99, e100, e101, e102, e103, e104, e105, e106, e107, e108, e109, e110, e111, e112, e113, e114, e115, e116, e117, e118, e119, e120, e121, e122, e123, e124, e125, e126, e127, e128, e129, e130, e131, e132, e133, e134, e135, e136, e137, e138, e139, e140, e141, e142, e143, e144, e145, e146, e147, e148, e149, e150, e151, e152, e153, e154, e155, e156, e157, e158, e159, e160, e161, e162, e163, e164, e165, e166, e167, e168, e169, e170, e171, e172, e173, e174, e175, e176, e177, e178, e179, e180, e181, e182, e183, e184, e185, e186, e187, e188, e189, e190, e191, e192, e193, e194, e195, e196, e197, e198, e199, e200, e201, e202, e203, e204, e205, e206, e207, e208, e209, e210, e211, e212, e213, e214, e215, e216, e217, e218, e219, e220, e221, e222, e223, e224, e225, e226, e227, e228, e229, e230, e231, e232, e233, e234, e235, e236, e237, e238, e239, e240, e241, e242, e243, e244, e245, e246, e247, e248, e249, e250, e251, e252, e253, e254, e255, e256, e257, e258, e259, e260, e261, e262, e263, e264, e265, e266, e267, e268, e269, e270, e271, e272, e273, e274, e275, e276, e277, e278, e279, e280, e281, e282, e283, e284, e285, e286, e287, e288, e289, e290, e291, e292, e293, e294, e295, e296], []⟩ w1) :
    Code.wp Tryz.prog (Code.loop (stepLoop 0)) Q0 ⟨#[.slice PA n pc, e1, e2, e3, e4, e5, e6, e7, e8, e9, e10, e11, e12, e13, .slice (some ⟨g, 0, none⟩) 1 1, e15, .int .i64 0, e17, e18, e19, e20, e21, e22, e23, e24, e25, e26, e27, e28, e29, e30, e31, e32, e33, e34, e35, e36, e37, e38, e39, e40, e41, e42, e43, e44, e45, e46, e47, e48, e49, e50, e51, e52, e53, e54, e55, e56, e57, e58, e59, e60, e61, e62, e63, e64, e65, e66, e67, e68, e69, e70, e71, e72, e73, e74, e75, e76, e77, e78, e79, e80, e81, e82, e83, e84, e85, e86, e87, e88, e89, e90, e91, e92, e93, e94, e95, e96, e97, e98, e99, e100, e101, e102, e103, e104, e105, e106, e107, e108, e109, e110, e111, e112, e113, e114, e115, e116, e117, e118, e119, e120, e121, e122, e123, e124, e125, e126, e127, e128, e129, e130, e131, e132, e133, e134, e135, e136, e137, e138, e139, e140, e141, e142, e143, e144, e145, e146, e147, e148, e149, e150, e151, e152, e153, e154, e155, e156, e157, e158, e159, e160, e161, e162, e163, e164, e165, e166, e167, e168, e169, e170, e171, e172, e173, e174, e175, e176, e177, e178, e179, e180, e181, e182, e183, e184, e185, e186, e187, e188, e189, e190, e191, e192, e193, e194, e195, e196, e197, e198, e199, e200, e201, e202, e203, e204, e205, e206, e207, e208, e209, e210, e211, e212, e213, e214, e215, e216, e217, e218, e219, e220, e221, e222, e223, e224, e225, e226, e227, e228, e229, e230, e231, e232, e233, e234, e235, e236, e237, e238, e239, e240, e241, e242, e243, e244, e245, e246, e247, e248, e249, e250, e251, e252, e253, e254, e255, e256, e257, e258, e259, e260, e261, e262, e263, e264, e265, e266, e267, e268, e269, e270, e271, e272, e273, e274, e275, e276, e277, e278, e279, e280, e281, e282, e283, e284, e285, e286, e287, e288, e289, e290, e291, e292, e293, e294, e295, e296], []⟩ w0 := by
  dsimp only at hexit ⊢
  obtain ⟨iS, hiS, hS0, hS1, hS2⟩ := info_parts Tryz.infoAct
  have HI := Lib.hid hiS
  have H0 := Lib.hid hS0
  have H1 := Lib.hid hS1
  have H2 := Lib.hid hS2
  have HX := Lib.hid hexit
  have HN := Lib.hid hn
  have HR := Lib.hid hr
  have HB := Lib.hid hb0
  have HW := Lib.hid hBw
  have HO := Lib.hid hown
  clear hiS hS0 hS1 hS2 hexit hn hr hb0 hBw hown
  conv => arg 2; arg 1; whnf
  go_loopw [14, 16] (fun lv iv wr => ∃ i : Nat, i ≤ n ∧ iv = .int .i64 (i : Int) ∧ Hid (Below B w wr) ∧ Hid (wr.ownsRow B 41 3 lv (i + 1) (actsC (holdIt :: (ps.take i).map actOf)))) (fun _ iv _ => n - (intOf iv).toNat)
  case atStart => exact ⟨0, Nat.zero_le _, rfl, HB, HO⟩
  case round =>
    obtain ⟨i, hi, rfl, HBE, HOW⟩ := hrel
    obtain ⟨A1, c1, rfl, hc1, _⟩ := own_slice HOW.out
    by_cases hlt : i < n
    · have hrw := HR.out.below HBE.out
      obtain ⟨ad, u, rfl, hadl, hu, hcell⟩ := hrw.at_ hlt
      simp only [List.getElem?_map, Option.map_eq_some_iff] at hu
      obtain ⟨p, hp, rfl⟩ := hu
      obtain ⟨PB, pb, bs⟩ := p
      obtain ⟨q, hq⟩ : ∃ q, bs.length = q := ⟨_, rfl⟩
      have hpv : partV ⟨PB, pb, bs⟩ = .slice PB q pb := by rw [← hq]; rfl
      rw [hpv] at hcell
      have hpc : actC (actOf ⟨PB, pb, bs⟩) = [.int .i64 2, .int .i64 0, .slice PB q pb] := by rw [← hq]; rfl
      have htk : (ps.take (i + 1)).map actOf = (ps.take i).map actOf ++ [actOf ⟨PB, pb, bs⟩] := by rw [List.take_add_one, hp, List.map_append]; rfl
      have hsn : actsC (holdIt :: (ps.take (i + 1)).map actOf) = actsC (holdIt :: (ps.take i).map actOf) ++ [.int .i64 2, .int .i64 0, .slice PB q pb] := by
        rw [htk, ← hpc, ← actsC_snoc]; rfl
      have hBs : B ≤ wr.heap.size := by rw [← HW.out]; exact HBE.out.size
      have HPC := Lib.hid hpc
      have HSN := Lib.hid hsn
      have hnb := Blk.new wr 41 #[.int .i64 2, .int .i64 0, .slice PB q pb]
      have HNB := Lib.hid hnb
      have hadw : ad.block < wr.heap.size := Nat.lt_of_lt_of_le hadl hBs
      have hi0 : (0 : Int) ≤ (i : Int) := by omega
      have hi1 : (i : Int) < (n : Int) := by omega
      clear hp hq hpv hpc htk hsn hnb hrw
      go_wp2_with (at_builtin; refine wpList_append_any _ rfl _ _ 42 rfl B 41 iS (.agg #[.int .i64 0, .int .i64 0, .slice none 0 0]) 3 40 Tryz.underlying42 HI.out H0.out H1.out H2.out rfl (by decide) (.slice A1 (i + 1) c1) (i + 1) (actsC (holdIt :: (ps.take i).map actOf)) rfl (HOW.out.alloc _) (wr.heap.size + 1) (some ⟨wr.heap.size, 0, none⟩) 1 1 [.int .i64 2, .int .i64 0, .slice PB q pb] rfl (by have h := reads_blk (size := 3) (n := 1) (xs := [.int .i64 2, .int .i64 0, .slice PB q pb]) HNB.out rfl rfl; simpa using h) (by simp [Value.oneCell']) (by simp only [maxLen]; omega) (by omega) (by simp; omega) ?_; intro v1 w1 hown1 hg1 hat1)
      go_roundw
      case rel =>
        refine ⟨i + 1, by omega, by go_num, Lib.hid ((HBE.out.alloc hBs _).grown hg1 (by simp; omega) (fun k hk => (HOW.out.lt k hk).1)), Lib.hid ?_⟩
        rw [HSN.out]
        exact hown1
      case measure => simp [intOf]; omega
    · obtain rfl : i = n := by omega
      have hfin := HOW.out
      rw [List.take_of_length_le (by rw [HN.out]; exact Nat.le_refl _)] at hfin
      have HF := Lib.hid hfin
      clear hfin
      go_wp2_with fail
      exact HX.out _ _ _ _ _ _ _ _ _ _ _ _ _ _ _ wr HBE.out HF.out

end Go.Proofs.YtlncmknikjloeaaGreatDoor
end

section
namespace Go.Proofs.YtlncmknikjloeaaGreatDoor
open Go.RowKit Go.Maps Go.Shelf

/-- a machine that has told c pieces, and waits -/
def Waits (w : World) (m M : Nat) (X : Say) (parts : List (List UInt8)) (S : Told) (c : Nat) : Prop :=
  c < (Pl.pieces parts).length ∧ ∃ wb L bl bk l, wb.heap.size ≤ M ∧ Plays wb L bl bk l parts ∧ Stays wb L X S w ∧ SayOf w X S ∧ MachAt w m X.p (mainV bl bk) false 0 ∧ PlanAt (Pl.pieces parts) c false c 7 S
/-- one that is through -/
def Dones (w : World) (m : Nat) (X : Say) (parts : List (List UInt8)) (S : Told) (c : Nat) : Prop :=
  c = (Pl.pieces parts).length ∧ (∀ g ∈ X.foot S, g < w.heap.size) ∧ ∃ f, Asked w m f 0 X S ∧ PlanAt (Pl.pieces parts) c false c 7 S

section
variable {w w' : World} {m M c : Nat} {X : Say} {parts : List (List UInt8)} {S : Told}
theorem Waits.keep (h : Waits w m M X parts S c) (hs : w.heap.size ≤ w'.heap.size) (hk : ∀ g, g < w.heap.size → g ∈ X.foot S ∨ g = m ∨ g < M → w'.heap[g]? = w.heap[g]?) : Waits w' m M X parts S c := by
  obtain ⟨hc, wb, L, bl, bk, l, h0, h1, h2, h3, h4, h5⟩ := h
  refine ⟨hc, wb, L, bl, bk, l, h0, h1, ⟨⟨Nat.le_trans h2.kept.1 hs, fun g a b => ?_⟩, h2.off⟩, h3.same fun g hg => hk g (h3.foot_lt g hg) (.inl hg), (hk m h4.lt (.inr (.inl rfl))).trans h4, h5⟩
  exact (hk g (Nat.lt_of_lt_of_le b h2.kept.1) (.inr (.inr (by omega)))).trans (h2.kept.2 g a b)
theorem Waits.below (h : Waits w m M X parts S c) (hb : Below w.heap.size w w') : Waits w' m M X parts S c := h.keep hb.size fun g hg _ => hb.block g hg
theorem Dones.keep (h : Dones w m X parts S c) (hs : w.heap.size ≤ w'.heap.size) (hk : ∀ g, g < w.heap.size → g ∈ X.foot S ∨ g = m → w'.heap[g]? = w.heap[g]?) : Dones w' m X parts S c := by
  obtain ⟨hc, h0, f, h1, h2⟩ := h
  exact ⟨hc, fun g hg => Nat.lt_of_lt_of_le (h0 g hg) hs, f, ⟨(hk m h1.mach.lt (.inr rfl)).trans h1.mach, h1.over.same fun g hg => hk g (h0 g hg) (.inl hg)⟩, h2⟩
theorem Dones.below (h : Dones w m X parts S c) (hb : Below w.heap.size w w') : Dones w' m X parts S c := h.keep hb.size fun g hg _ => hb.block g hg
theorem plan_said (h : PlanAt (Pl.pieces parts) c false c 7 S) : S.said = ((Pl.pieces parts).take c).flatten := by
  have := h.said
  rwa [show max c c = c by omega] at this
theorem take_pieces (parts : List (List UInt8)) (i : Nat) : ((Pl.pieces parts).take (Pl.cnt parts i)).flatten = (parts.take i).flatten := by
  have e : Pl.pieces parts = Pl.pieces (parts.take i) ++ Pl.pieces (parts.drop i) := by rw [Pl.pieces, Pl.pieces, Pl.pieces, ← List.filter_append, List.take_append_drop]
  rw [e, Pl.cnt, List.take_left, Pl.pieces_flatten]
end

/-- how the second loop stands ahead of a round -/
structure L2St (W : World) (B m M : Nat) (X : Say) (parts : List (List UInt8)) (i : Nat) (S : Told) (QA : Option Addr) (qc q : Nat) (w : World) : Prop where
  is_ : Waits w m M X parts S (Pl.cnt parts i) ∨ Dones w m X parts S (Pl.cnt parts i)
  foot : ∀ g ∈ X.foot S, B ≤ g
  mB : B ≤ m
  BM : B ≤ M
  wM : M ≤ w.heap.size
  below : Below B W w
  want : w.ownsRow B 5 1 (.slice QA q qc) q (bytesC S.said)
  len : S.said.length = q
  sep : ∀ g, (Value.slice QA q qc).ownBlock = some g → g ∉ X.foot S ∧ g ≠ m ∧ M ≤ g

section
variable {W w w' : World} {B m M i qc q : Nat} {X : Say} {parts : List (List UInt8)} {S S' : Told} {QA : Option Addr}
theorem L2St.plan (h : L2St W B m M X parts i S QA qc q w) : PlanAt (Pl.pieces parts) (Pl.cnt parts i) false (Pl.cnt parts i) 7 S := by
  rcases h.is_ with ⟨_, _, _, _, _, _, _, _, _, _, _, h1⟩ | ⟨_, _, _, _, h1⟩ <;> exact h1
theorem L2St.said (h : L2St W B m M X parts i S QA qc q w) : S.said = (parts.take i).flatten := by rw [plan_said h.plan, take_pieces]
theorem L2St.on (h : L2St W B m M X parts i S QA qc q w) (hb : Below w.heap.size w w') : L2St W B m M X parts i S QA qc q w' :=
  ⟨h.is_.imp (·.below hb) (·.below hb), h.foot, h.mB, h.BM, Nat.le_trans h.wM hb.size, h.below.trans (hb.mono (Nat.le_trans h.BM h.wM)), own_on h.want hb, h.len, h.sep⟩
/-- an empty part -/
theorem L2St.skip (h : L2St W B m M X parts i S QA qc q w) (hn : parts[i]? = some []) : L2St W B m M X parts (i + 1) S QA qc q w := by
  have e := Pl.cnt_nil hn
  exact ⟨by rw [e]; exact h.is_, h.foot, h.mB, h.BM, h.wM, h.below, h.want, h.len, h.sep⟩
theorem L2St.waits (h : L2St W B m M X parts i S QA qc q w) {p : List UInt8} (hp : parts[i]? = some p) (hne : p ≠ []) : Waits w m M X parts S (Pl.cnt parts i) := by
  rcases h.is_ with h1 | h1
  · exact h1
  · have := (List.getElem?_eq_some_iff.1 (Pl.cnt_some hp hne).2).1
    have := h1.1
    omega
/-- behind a step: what is to be told is told -/
theorem L2St.next (h : L2St W B m M X parts i S QA qc q w) {p : List UInt8} (hp : parts[i]? = some p) (hne : p ≠ []) {w1 w2 : World} (ht : Turns ([m] ++ X.foot S) w w1) (hnew : ∀ g ∈ X.foot S', g ∈ X.foot S ∨ w.heap.size ≤ g)
    (his : Waits w1 m M X parts S' (Pl.cnt parts i + 1) ∨ Dones w1 m X parts S' (Pl.cnt parts i + 1)) {QA' : Option Addr} {q' qc' : Nat} (hq' : q' = q + p.length) (hown : w2.ownsRow B 5 1 (.slice QA' q' qc') q' (bytesC S.said ++ bytesC p)) (hg : w1.grownBy w2 (Value.slice QA q qc).ownBlock)
    (hat : (Value.slice QA' q' qc').ownBlock = (Value.slice QA q qc).ownBlock ∨ (Value.slice QA' q' qc').ownBlock = some w1.heap.size) : L2St W B m M X parts (i + 1) S' QA' qc' q' w2 := by
  obtain ⟨e1, e2⟩ := Pl.cnt_some hp hne
  have hw0 := h.waits hp hne
  obtain ⟨_, _, _, _, _, _, _, _, _, hS0, hM0, _⟩ := hw0
  have hml : m < w.heap.size := hM0.lt
  have hs1 : S'.said = ((Pl.pieces parts).take (Pl.cnt parts i + 1)).flatten := by
    rcases his with ⟨_, _, _, _, _, _, _, _, _, _, _, h1⟩ | ⟨_, _, _, _, h1⟩ <;> exact plan_said h1
  have hs : S'.said = S.said ++ p := by
    rw [hs1, h.said, ← e1, take_pieces, Pl.take_snoc hp]
    simp
  have hfl : ∀ g ∈ X.foot S', g < w1.heap.size := by
    intro g hgm
    rcases his with ⟨_, _, _, _, _, _, _, _, _, h3, _, _⟩ | ⟨_, h1, _⟩
    · exact h3.foot_lt g hgm
    · exact h1 g hgm
  have hwl : ∀ g, (Value.slice QA q qc).ownBlock = some g → g < w.heap.size := fun g hg => (h.want.lt g hg).2
  have hoff : ∀ g, (Value.slice QA q qc).ownBlock = some g → g ∉ X.foot S' := fun g hgo hm => by
    rcases hnew g hm with h1 | h1
    · exact (h.sep g hgo).1 h1
    · have := hwl g hgo; omega
  have hkeep : ∀ g, g < w1.heap.size → g ∈ X.foot S' ∨ g = m ∨ g < M → w2.heap[g]? = w1.heap[g]? := fun g hgl hc => hg.block g hgl (fun e => by
    have hs0 := h.sep g e.symm
    rcases hc with h1 | h1 | h1
    · exact hoff g e.symm h1
    · exact hs0.2.1 h1
    · omega)
  refine ⟨?_, ?_, h.mB, h.BM, Nat.le_trans h.wM (Nat.le_trans ht.size hg.size), ?_, ?_, ?_, ?_⟩
  · rw [e1]
    exact his.imp (fun h1 => h1.keep hg.size hkeep) (fun h1 => h1.keep hg.size fun g a b => hkeep g a (b.imp id .inl))
  · intro g hgm
    rcases hnew g hgm with h1 | h1
    · exact h.foot g h1
    · have := h.BM; have := h.wM; omega
  · have hb1 : Below B w w1 := ht.below (Nat.le_trans h.BM h.wM) (fun k hk => by
      rcases List.mem_append.1 hk with h1 | h1
      · rw [List.mem_singleton] at h1; rw [h1]; exact h.mB
      · exact h.foot k h1)
    exact (h.below.trans hb1).grown hg (Nat.le_trans h.BM (Nat.le_trans h.wM ht.size)) (fun k hk => (h.want.lt k hk).1)
  · rw [hs, bytesC_append]; exact hown
  · rw [hs, List.length_append, h.len, hq']
  · intro g hgo
    rcases hat with e | e
    · rw [e] at hgo
      exact ⟨hoff g hgo, (h.sep g hgo).2⟩
    · rw [e] at hgo
      cases hgo
      refine ⟨fun hm => absurd (hfl _ hm) (Nat.lt_irrefl _), ?_, ?_⟩
      · have := ht.size; omega
      · exact Nat.le_trans h.wM ht.size
end

end Go.Proofs.YtlncmknikjloeaaGreatDoor
end
