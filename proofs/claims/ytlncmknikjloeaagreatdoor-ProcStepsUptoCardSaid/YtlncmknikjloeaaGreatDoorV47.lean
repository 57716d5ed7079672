/-
  Parts of the proof: ProcSteps' second loop, that steps the machine: a theorem of its own, over the frame written out (printed by wip/tools/stepsloop2.py).
-/
import Derived.Test.YtlncmknikjloeaaGreatDoorV45

section
namespace Go.Proofs.YtlncmknikjloeaaGreatDoor
open Go.RowKit Go.Maps Go.Shelf

set_option maxRecDepth 100000 in
set_option maxHeartbeats 16000000 in
theorem steps_l2 (w w0 : World) (B m M : Nat) (PA : Option Addr) (pc n : Nat) (kz : Int) (ps : List PartIt) (hn : ps.length = n) (hn2 : n ≤ 200) (hr : Reads w B 1 PA n (ps.map partV)) (hpb : ∀ p ∈ ps, Bytes w B (partV p) p.bs) (hbig : (ps.map (·.bs)).flatten.length ≤ 1048576) (hBw : w.heap.size = B) (X : Say) (S0 : Told) (htf : X.K.tf (numK 1) = some (sinkV X.sink)) (h0 : L2St w B m M X (ps.map (·.bs)) 0 S0 none 0 0 w0)
    {e2 e3 e4 e5 e6 e7 e8 e9 e13 e14 e16 e20 e21 e22 e23 e24 e25 e26 e27 e28 e29 e30 e31 e32 e33 e34 e35 e36 e37 e38 e39 e40 e41 e42 e43 e44 e45 e46 e47 e48 e49 e50 e51 e52 e53 e54 e55 e56 e57 e58 e59 e60 e61 e62 e63 e64 e65 e66 e67 e68 e69 e70 e71 e72 e73 e74 e75 e76 e77 e78 e79 e80 e81 e82 e83 e84 e85 e86 e87 e88 e89 e90 e91 e92 e93 e94 e95 e96 e97 e98 e99 e100 e101 e102 e103 e104 e105 e106 e107 e108 e109 e110 e111 e112 e113 e114 e115 e116 e117 e118 e119 e120 e121 e122 e123 e124 e125 e126 e127 e128 e129 e130 e131 e132 e133 e134 e135 e136 e137 e138 e139 e140 e141 e142 e143 e144 e145 e146 e147 e148 e149 e150 e151 e152 e153 e154 e155 e156 e157 e158 e159 e160 e161 e162 e163 e164 e165 e166 e167 e168 e169 e170 e171 e172 e173 e174 e175 e176 e177 e178 e179 e180 e181 e182 e183 e184 e185 e186 e187 e188 e189 e190 e191 e192 e193 e194 e195 e196 e197 e198 e199 e200 e201 e202 e203 e204 e205 e206 e207 e208 e209 e210 e211 e212 e213 e214 e215 e216 e217 e218 e219 e220 e221 e222 e223 e224 e225 e226 e227 e228 e229 e230 e231 e232 e233 e234 e235 e236 e237 e238 e239 e240 e241 e242 e243 e244 e245 e246 e247 e248 e249 e250 e251 e252 e253 e254 e255 e256 e257 e258 e259 e260 e261 e262 e263 e264 e265 e266 e267 e268 e269 e270 e271 e272 e273 e274 e275 e276 e277 e278 e279 e280 e281 e282 e283 e284 e285 e286 e287 e288 e289 e290 e291 e292 e293 e294 e295 e296 : Value} {Q0 : Exit → Act → World → Prop}
    (hexit : ∀ (u8 u20 u78 u79 u80 u81 u82 u83 u84 u85 u86 u87 u88 u89 u90 u91 u92 u93 u94 u95 u96 u97 u98 u99 u100 u101 u102 u103 u104 u105 u106 u107 u108 u109 u110 u111 u112 u113 u114 u115 u116 u117 u118 u119 u120 u121 u122 u123 u124 u125 u126 u127 u128 u129 u130 u131 u132 u133 u134 u135 u136 u137 u138 u139 u140 u141 u142 u143 u144 u145 u146 u147 u148 u149 u150 u151 u152 u153 u154 u155 u156 u157 u158 u159 u160 : Value) (QA : Option Addr) (qc q : Nat) (S : Told) (c : Nat) (w1 : World), c = Pl.cnt (ps.map (·.bs)) n → L2St w B m M X (ps.map (·.bs)) n S QA qc q w1 → Q0 (.exit 2) ⟨#[.slice PA n pc, .int .i64 kz, e2, e3, e4, e5, e6, e7, u8, e9, .pointer (some ⟨X.B.k, 0, none⟩), .pointer (some ⟨X.p, 0, none⟩), .int .i64 1, e13, e14, .slice QA q qc, e16, .pointer (some ⟨m, 0, none⟩), .int .i64 (c : Int), .int .i64 (n : Int), u20, e21, e22, e23, e24, e25, e26, e27, e28, e29, e30, e31, e32, e33, e34, e35, e36, e37, e38, e39, e40, e41, e42, e43, e44, e45, e46, e47, e48, e49, e50, e51, e52, e53, e54, e55, e56, e57, e58, e59, e60, e61, e62, e63, e64, e65, e66, e67, e68, e69, e70, e71, e72, e73, e74, e75, e76, e77, u78, u79, u80, u81, u82, u83, u84, u85, u86, u87, u88, u89, u90, u91, u92, u93, u94, u95, u96, u97, u98, u99, u100, u101, u102, u103, u104, u105, u106, u107, u108, u109, u110, u111, u112, u113, u114, u115, u116, u117, u118, u119, u120, u121, u122, u123, u124, u125, u126, u127, u128, u129, u130, u131, u132, u133, u134, u135, u136, u137, u138, u139, u140, u141, u142, u143, u144, u145, u146, u147, u148, u149, u150, u151, u152, u153, u154, u155, u156, u157, u158, u159, u160, e161, e162, e163, e164, e165, e166, e167, e168, e169, e170, e171, e172, e173, e174, e175, e176, e177, e178, e179, e180, e181, e182, e183, e184, e185, e186, e187, e188, e189, e190, e191, e192, e193, e194, e195, e196, e197, e198, e199, e200, e201, e202, e203, e204, e205, e206, e207, e208, e209, e210, e211, e212, e213, e214, e215, e216, e217, e218, e219, e220, e221, e222, e223, e224, e225, e226, e227, e228, e229, e230, e231, e232, e233, e234, e235, e236, e237, e238, e239, e240, e241, e242, e243, e244, e245, e246, e247, e248, e249, e250, e251, e252, e253, e254, e255, e256, e257, e258, e259, e260, e261, e262, e263, e264, e265, e266, e267, e268, e269, e270, e271, e272, e273, e274, e275, e276, e277, e278, e279, e280, e281, e282, e283, e284, e285, e286, e287, e288, e289, e290, e291, e292, e293, e294, e295, e296], []⟩ w1)
    (hret : ∀ (u15 u18 u19 u20 u78 u79 u80 u81 u82 u83 u84 u85 u86 u87 u88 u89 u90 u91 u92 u93 u94 u95 u96 u97 u98 u99 u100 u101 u102 u103 u104 u105 u106 u107 u108 u109 u110 u111 u112 u113 u114 u115 u116 u117 u118 u119 u120 u121 u122 u123 u124 u125 u126 u127 u128 u129 u130 u131 u132 u133 u134 u135 u136 u137 u138 u139 u140 u141 u142 u143 u144 u145 u146 u147 u148 u149 u150 u151 u152 u153 u154 u155 u156 u157 u158 u159 u160 : Value) (w1 : World), Below B w w1 → Q0 .ret ⟨#[.slice PA n pc, .int .i64 kz, e2, e3, e4, e5, e6, e7, .bool true, e9, .pointer (some ⟨X.B.k, 0, none⟩), .pointer (some ⟨X.p, 0, none⟩), .int .i64 1, e13, e14, u15, e16, .pointer (some ⟨m, 0, none⟩), u18, u19, u20, e21, e22, e23, e24, e25, e26, e27, e28, e29, e30, e31, e32, e33, e34, e35, e36, e37, e38, e39, e40, e41, e42, e43, e44, e45, e46, e47, e48, e49, e50, e51, e52, e53, e54, e55, e56, e57, e58, e59, e60, e61, e62, e63, e64, e65, e66, e67, e68, e69, e70, e71, e72, e73, e74, e75, e76, e77, u78, u79, u80, u81, u82, u83, u84, u85, u86, u87, u88, u89, u90, u91, u92, u93, u94, u95, u96, u97, u98, u99, u100, u101, u102, u103, u104, u105, u106, u107, u108, u109, u110, u111, u112, u113, u114, u115, u116, u117, u118, u119, u120, u121, u122, u123, u124, u125, u126, u127, u128, u129, u130, u131, u132, u133, u134, u135, u136, u137, u138, u139, u140, u141, u142, u143, u144, u145, u146, u147, u148, u149, u150, u151, u152, u153, u154, u155, u156, u157, u158, u159, u160, e161, e162, e163, e164, e165, e166, e167, e168, e169, e170, e171, e172, e173, e174, e175, e176, e177, e178, e179, e180, e181, e182, e183, e184, e185, e186, e187, e188, e189, e190, e191, e192, e193, e194, e195, e196, e197, e198, e199, e200, e201, e202, e203, e204, e205, e206, e207, e208, e209, e210, e211, e212, e213, e214, e215, e216, e217, e218, e219, e220, e221, e222, e223, e224, e225, e226, e227, e228, e229, e230, e231, e232, e233, e234, e235, e236, e237, e238, e239, e240, e241, e242, e243, e244, e245, e246, e247, e248, e249, e250, e251, e252, e253, e254, e255, e256, e257, e258, e259, e260, e261, e262, e263, e264, e265, e266, e267, e268, e269, e270, e271, e272, e273, e274, e275, e276, e277, e278, e279, e280, e281, e282, e283, e284, e285, e286, e287, e288, e289, e290, e291, e292, e293, e294, e295, e296], []⟩ w1) :
    Code.wp Tryz.prog (Code.loop (stepLoop 1)) Q0 ⟨#[.slice PA n pc, .int .i64 kz, e2, e3, e4, e5, e6, e7, e8, e9, .pointer (some ⟨X.B.k, 0, none⟩), .pointer (some ⟨X.p, 0, none⟩), .int .i64 1, e13, e14, .slice none 0 0, e16, .pointer (some ⟨m, 0, none⟩), .int .i64 0, .int .i64 0, e20, e21, e22, e23, e24, e25, e26, e27, e28, e29, e30, e31, e32, e33, e34, e35, e36, e37, e38, e39, e40, e41, e42, e43, e44, e45, e46, e47, e48, e49, e50, e51, e52, e53, e54, e55, e56, e57, e58, e59, e60, e61, e62, e63, e64, e65, e66, e67, e68, e69, e70, e71, e72, e73, e74, e75, e76, e77, e78, e79, e80, e81, e82, e83, e84, e85, e86, e87, e88, e89, e90, e91, e92, e93, e94, e95, e96, e97, e98, e99, e100, e101, e102, e103, e104, e105, e106, e107, e108, e109, e110, e111, e112, e113, e114, e115, e116, e117, e118, e119, e120, e121, e122, e123, e124, e125, e126, e127, e128, e129, e130, e131, e132, e133, e134, e135, e136, e137, e138, e139, e140, e141, e142, e143, e144, e145, e146, e147, e148, e149, e150, e151, e152, e153, e154, e155, e156, e157, e158, e159, e160, e161, e162, e163, e164, e165, e166, e167, e168, e169, e170, e171, e172, e173, e174, e175, e176, e177, e178, e179, e180, e181, e182, e183, e184, e185, e186, e187, e188, e189, e190, e191, e192, e193, e194, e195, e196, e197, e198, e199, e200, e201, e202, e203, e204, e205, e206, e207, e208, e209, e210, e211, e212, e213, e214, e215, e216, e217, e218, e219, e220, e221, e222, e223, e224, e225, e226, e227, e228, e229, e230, e231, e232, e233, e234, e235, e236, e237, e238, e239, e240, e241, e242, e243, e244, e245, e246, e247, e248, e249, e250, e251, e252, e253, e254, e255, e256, e257, e258, e259, e260, e261, e262, e263, e264, e265, e266, e267, e268, e269, e270, e271, e272, e273, e274, e275, e276, e277, e278, e279, e280, e281, e282, e283, e284, e285, e286, e287, e288, e289, e290, e291, e292, e293, e294, e295, e296], []⟩ w0 := by
  dsimp only at hexit hret ⊢
  obtain ⟨iB, hiB, hB0, hB1, hB2⟩ := info_parts Tryz.infoByte
  have HI := Lib.hid hiB
  have H0 := Lib.hid hB0
  have H1 := Lib.hid hB1
  have H2 := Lib.hid hB2
  have HX := Lib.hid hexit
  have HT := Lib.hid hret
  have HN := Lib.hid hn
  have HR := Lib.hid hr
  have HP := Lib.hid hpb
  have HW := Lib.hid hBw
  have HL := Lib.hid h0
  have HBIG := Lib.hid hbig
  have HTF := Lib.hid htf
  clear hiB hB0 hB1 hB2 hexit hret hn hr hpb hBw h0 hbig htf
  conv => arg 2; arg 1; whnf
  go_loopw [15, 18, 19] (fun qv sv iv wr => ∃ (i c : Nat) (S : Told) (QA : Option Addr) (qc q : Nat), i ≤ n ∧ iv = .int .i64 (i : Int) ∧ sv = .int .i64 (c : Int) ∧ qv = .slice QA q qc ∧ Hid (c = Pl.cnt (ps.map (·.bs)) i) ∧ Hid (L2St w B m M X (ps.map (·.bs)) i S QA qc q wr)) (fun _ _ iv _ => n - (intOf iv).toNat)
  case atStart => exact ⟨0, 0, S0, none, 0, 0, Nat.zero_le _, rfl, rfl, rfl, Lib.hid (Pl.cnt_zero _).symm, HL⟩
  case round =>
    obtain ⟨i, c, S, QA, qc, q, hi, rfl, rfl, rfl, HC, HS⟩ := hrel
    by_cases hlt : i < n
    · have hrw := HR.out.below HS.out.below
      obtain ⟨ad, u, rfl, hadl, hu, hcell⟩ := hrw.at_ hlt
      simp only [List.getElem?_map, Option.map_eq_some_iff] at hu
      obtain ⟨p, hp, rfl⟩ := hu
      have hby := HP.out p (List.mem_of_getElem? hp)
      obtain ⟨PB, pb, bs⟩ := p
      have hpart : (ps.map (·.bs))[i]? = some bs := by rw [List.getElem?_map, hp]; rfl
      obtain ⟨z, hz⟩ : ∃ z, bs.length = z := ⟨_, rfl⟩
      have hpv : partV ⟨PB, pb, bs⟩ = .slice PB z pb := by rw [← hz]; rfl
      rw [hpv] at hcell hby
      have hBs : B ≤ wr.heap.size := by rw [← HW.out]; exact HS.out.below.size
      have hadw : ad.block < wr.heap.size := Nat.lt_of_lt_of_le hadl hBs
      have hi0 : (0 : Int) ≤ (i : Int) := by omega
      have hi1 : (i : Int) < (n : Int) := by omega
      have hrb : Reads w B 1 PB z (bytesC bs) := by
        obtain ⟨_, _, e, _, _, _, h⟩ := hby
        rw [← hz]
        rw [Value.slice.injEq] at e
        rw [e.1]
        exact h
      have HRB := Lib.hid hrb
      have HZ := Lib.hid hz
      have HPT := Lib.hid hpart
      clear hp hpv hrw hby hrb hpart
      by_cases hz0 : z = 0
      · subst hz0
        have hnil : bs = [] := List.eq_nil_of_length_eq_zero HZ.out
        subst hnil
        have hnx := HS.out.skip HPT.out
        have HNX := Lib.hid hnx
        have HCX := Lib.hid (show c = Pl.cnt (ps.map (·.bs)) (i + 1) by rw [Pl.cnt_nil HPT.out]; exact HC.out)
        clear hnx hz
        go_wp2_with fail
        exact ⟨⟨i + 1, c, S, QA, qc, q, by omega, by go_num, rfl, rfl, HCX, HNX⟩, by simp [intOf]; omega⟩
      · have hne : bs ≠ [] := by intro e; apply hz0; rw [← hz, e]; rfl
        have hz1 : ((z : Int) == 0) = false := by rw [beq_eq_false_iff_ne]; omega
        obtain ⟨hcl, wb, L, bl, bk, l, hwb, hpl, hst, hS, hM, hP⟩ := HS.out.waits HPT.out hne
        have hq := HS.out.len
        have hqs : q ≤ 140737488355000 := by
          rw [← hq, HS.out.said]
          have e : (ps.map (·.bs)).flatten = ((ps.map (·.bs)).take i).flatten ++ ((ps.map (·.bs)).drop i).flatten := by rw [← List.flatten_append, List.take_append_drop]
          have := HBIG.out
          rw [e, List.length_append] at this
          omega
        have hwn : Reads wr wr.heap.size 1 QA q (bytesC S.said) := by
          obtain ⟨_, _, e, _, _, h⟩ := own_slice HS.out.want
          cases e
          exact h
        have hh7 := hP.held
        have HNE := Lib.hid hne
        have HPL := Lib.hid hpl
        have HST := Lib.hid hst
        have HSA := Lib.hid hS
        have HM := Lib.hid hM
        have HPP := Lib.hid hP
        have HCL := Lib.hid hcl
        have HWB := Lib.hid hwb
        clear hz hne hpl hst hP hcl hwb
        go_wp2_with fail
        refine steps_r24 wr m X S (mainV bl bk) hM hS hh7 HTF.out QA qc q hq hqs hwn ?_
        intro x90 x91 x92 x93 x94 x95 x96 x97 x98 x99 x100 x101 x102 x103 x104 x105 x106 x107 x108 x109 x110 x111 w1 hb1
        dsimp only
        have HB1 := Lib.hid hb1
        clear hM hS hh7 hq hqs hwn hb1
        have HS1 := Lib.hid (HS.out.on HB1.out)
        by_cases hk : (c : Int) = kz
        · have hkb : ((c : Int) == kz) = true := by rw [beq_iff_eq]; exact hk
          have hkill := killWait (HSA.out.below HB1.out) (HM.out.on HB1.out)
          clear hk
          go_wp2_with (first
            | (go_at_call 17; refine hkill.mono ?_; rintro e w2 ⟨rfl, hm2, ho2, ht2⟩)
            | (go_at_call 18; refine (stepDone w2 m X.p (mainV bl bk) 137 hm2).mono ?_; rintro e w3 ⟨rfl, hw3⟩; obtain rfl : w2 = w3 := hw3.symm))
          have hwB : Below B w w2 := HS1.out.below.trans (ht2.below (Nat.le_trans hBs HB1.out.size) (fun k hk => by
            rcases List.mem_append.1 hk with h1 | h1
            · rw [List.mem_singleton] at h1; rw [h1]; exact HS1.out.mB
            · exact HS1.out.foot k h1))
          have hwn2 : Reads w2 w2.heap.size 1 QA q (bytesC S.said) := by
            have h1 : w2.ownsRow B 5 1 (.slice QA q qc) q (bytesC S.said) := ownsRow_same HS1.out.want fun g hg => ht2.block g (HS1.out.want.lt g hg).2 (by
              have := HS1.out.sep g hg
              simp only [List.mem_append, List.mem_singleton, not_or]
              exact ⟨this.2.1, this.1⟩)
            obtain ⟨_, _, e, _, _, h⟩ := own_slice h1
            cases e
            exact h
          have hqs2 : q ≤ 140737488355000 := by
            rw [← HS1.out.len, HS1.out.said]
            have e : (ps.map (·.bs)).flatten = ((ps.map (·.bs)).take i).flatten ++ ((ps.map (·.bs)).drop i).flatten := by rw [← List.flatten_append, List.take_append_drop]
            have := HBIG.out
            rw [e, List.length_append] at this
            omega
          have HWB2 := Lib.hid hwB
          clear hwB
          refine steps_r29 w2 m X S (mainV bl bk) ⟨hm2, ho2⟩ HTF.out QA qc q HS1.out.len hqs2 hwn2 ?_
          intro y120 y121 y122 y123 y124 y125 y126 y127 y128 y129 y130 y131 y132 y133 y134 y135 y136 y137 y138 y139 y140 y141 y142 y143 y144 y145 y146 y147 y148 y149 y150 w4 hb4
          dsimp only
          have HB4 := Lib.hid hb4
          clear hb4 hm2 ho2 ht2 hwn2 hqs2 hkill
          go_wp2_with fail
          exact HT.out _ _ _ _ _ _ _ _ _ _ _ _ _ _ _ _ _ _ _ _ _ _ _ _ _ _ _ _ _ _ _ _ _ _ _ _ _ _ _ _ _ _ _ _ _ _ _ _ _ _ _ _ _ _ _ _ _ _ _ _ _ _ _ _ _ _ _ _ _ _ _ _ _ _ _ _ _ _ _ _ _ _ _ _ _ _ _ w4 (HWB2.out.trans (HB4.out.mono (by rw [← HW.out]; exact HWB2.out.size)))
        · have hkb : ((c : Int) == kz) = false := by rw [beq_eq_false_iff_ne]; exact hk
          have hcc : c = Pl.cnt (ps.map (·.bs)) i := HC.out
          have hw1 : wrap64 ((c : Int) + 1) = ((c + 1 : Nat) : Int) := by
            have : c ≤ 200 := by
              rw [hcc]
              refine Nat.le_trans (List.length_filter_le _ _) ?_
              rw [List.length_take, List.length_map, HN.out]
              omega
            rw [w64 _ (by omega)]; omega
          have hstep : Calls Tryz.prog 18 #[.pointer (some ⟨m, 0, none⟩)] w1 fun e w' => ∃ b S', e = .returned (.bool b) ∧ (Waits w' m M X (ps.map (·.bs)) S' (Pl.cnt (ps.map (·.bs)) i + 1) ∨ Dones w' m X (ps.map (·.bs)) S' (Pl.cnt (ps.map (·.bs)) i + 1)) ∧ Turns ([m] ++ X.foot S) w1 w' ∧ (∀ g ∈ X.foot S', g ∈ X.foot S ∨ w1.heap.size ≤ g) := by
            have hst1 : Stays wb L X S w1 := HST.out.turns (Turns.of_below HB1.out) (fun g hg => by simp at hg) (fun g hg => .inl hg)
            rcases Nat.lt_or_eq_of_le (Nat.succ_le_of_lt HCL.out) with hu | hu
            · refine (stepWait HPL.out hst1 (HSA.out.below HB1.out) (HM.out.on HB1.out) HPP.out hu).mono ?_
              rintro e w' ⟨rfl, h1, S', h2, h3, h4, h5⟩
              exact ⟨false, S', rfl, .inl ⟨hu, wb, L, bl, bk, l, HWB.out, HPL.out, h4, h2, h1, h3⟩, h5.turns.more (by intro g hg; simp [hg]), h5.news⟩
            · refine (stepOver HPL.out hst1 (HSA.out.below HB1.out) (HM.out.on HB1.out) HPP.out hu).mono ?_
              rintro e w' ⟨rfl, h1, S', h2, h3, h4, h5, h6⟩
              exact ⟨true, S', rfl, .inr ⟨hu, h6, mainV bl bk, ⟨h1, h2⟩, h3⟩, h4, h5⟩
          have HCC := Lib.hid hcc
          clear hk hcc
          have hbs2 : bs.length = z := HZ.out
          have HQL := Lib.hid (show q + z ≤ maxLen by
            have e : (ps.map (·.bs)).flatten = ((ps.map (·.bs)).take i).flatten ++ ((ps.map (·.bs)).drop i).flatten := by rw [← List.flatten_append, List.take_append_drop]
            have h1 := HBIG.out
            have e2 : (ps.map (·.bs)).flatten = ((ps.map (·.bs)).take (i + 1)).flatten ++ ((ps.map (·.bs)).drop (i + 1)).flatten := by rw [← List.flatten_append, List.take_append_drop]
            rw [e2, Pl.take_snoc HPT.out, List.flatten_append, List.length_append, List.length_append, ← HS1.out.said, HS1.out.len] at h1
            simp at h1
            simp only [maxLen]
            omega)
          have HQB := Lib.hid (show (q + z) * 1 ≤ 140737488355328 by
            have h1 := HBIG.out
            have e2 : (ps.map (·.bs)).flatten = ((ps.map (·.bs)).take (i + 1)).flatten ++ ((ps.map (·.bs)).drop (i + 1)).flatten := by rw [← List.flatten_append, List.take_append_drop]
            rw [e2, Pl.take_snoc HPT.out, List.flatten_append, List.length_append, List.length_append, ← HS1.out.said, HS1.out.len] at h1
            simp at h1
            omega)
          clear hbs2
          go_wp2_with (first
            | (go_at_call 18; refine hstep.mono ?_; rintro e w2 ⟨b, S', rfl, his, ht2, hn2'⟩
               have HIS := Lib.hid his
               have HT2 := Lib.hid ht2
               have HN2 := Lib.hid hn2'
               have hB2 : B ≤ w2.heap.size := Nat.le_trans hBs (Nat.le_trans HB1.out.size ht2.size)
               have hwB : Below B w w2 := HS1.out.below.trans (ht2.below (Nat.le_trans hBs HB1.out.size) (fun k hk => by
                 rcases List.mem_append.1 hk with h1 | h1
                 · rw [List.mem_singleton] at h1; rw [h1]; exact HS1.out.mB
                 · exact HS1.out.foot k h1))
               have hown2 : w2.ownsRow B 5 1 (.slice QA q qc) q (bytesC S.said) := ownsRow_same HS1.out.want fun g hg => ht2.block g (HS1.out.want.lt g hg).2 (by
                 have := HS1.out.sep g hg
                 simp only [List.mem_append, List.mem_singleton, not_or]
                 exact ⟨this.2.1, this.1⟩)
               have hcell2 : w2.cell? (ad.add i) = some (.slice PB z pb) := ((hwB.cell (by rw [block_of_add]; exact hadl)).trans ((HS.out.below.cell (by rw [block_of_add]; exact hadl)).symm)).trans hcell
               have hadw2 : ad.block < w2.heap.size := Nat.lt_of_lt_of_le hadl hB2
               have hrb2 := HRB.out.below hwB
               have HO2 := Lib.hid hown2
               have HRB2 := Lib.hid hrb2
               clear his ht2 hn2' hown2 hrb2 hwB)
            | (at_builtin; refine wpList_append_any _ rfl _ _ 39 rfl B 5 iB (.int .u8 0) 1 1 Tryz.underlying39 HI.out H0.out H1.out H2.out rfl (by decide) (.slice QA q qc) q (bytesC S.said) rfl HO2.out B PB z pb (bytesC bs) rfl HRB2.out (bytesC_oneCell bs) HQL.out HQB.out hB2 ?_; intro v1 w3 hown3 hg3 hat3; obtain ⟨QA3, qc3, rfl, _, _, _⟩ := own_slice hown3))
          have hnx := HS1.out.next HPT.out HNE.out HT2.out HN2.out HIS.out (q' := q + z) (by rw [HZ.out]) hown3 hg3 hat3
          have HNX := Lib.hid hnx
          have HCX := Lib.hid (show c + 1 = Pl.cnt (ps.map (·.bs)) (i + 1) by rw [(Pl.cnt_some HPT.out HNE.out).1, HCC.out])
          clear hnx hown3 hg3 hat3
          exact ⟨⟨i + 1, c + 1, S', QA3, qc3, q + z, by omega, by go_num, by go_num, rfl, HCX, HNX⟩, by simp [intOf]; omega⟩
    · obtain rfl : i = n := by omega
      have hcc : c = Pl.cnt (ps.map (·.bs)) i := HC.out
      have HCC := Lib.hid hcc
      clear hcc
      go_wp2_with fail
      exact HX.out _ _ _ _ _ _ _ _ _ _ _ _ _ _ _ _ _ _ _ _ _ _ _ _ _ _ _ _ _ _ _ _ _ _ _ _ _ _ _ _ _ _ _ _ _ _ _ _ _ _ _ _ _ _ _ _ _ _ _ _ _ _ _ _ _ _ _ _ _ _ _ _ _ _ _ _ _ _ _ _ _ _ _ _ _ QA qc q S c wr HCC.out HS.out

end Go.Proofs.YtlncmknikjloeaaGreatDoor
end
