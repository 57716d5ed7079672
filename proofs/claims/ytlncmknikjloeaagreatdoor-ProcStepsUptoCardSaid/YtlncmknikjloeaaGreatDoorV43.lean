/-
  Parts of the proof: The drawn regions of ProcSteps' loop: each a theorem of its own, over the frame written out (printed by wip/tools/stepsgen.py).
-/
import Derived.Test.YtlncmknikjloeaaGreatDoorV42
import Derived.Test.YtlncmknikjloeaaGreatDoorV39
import Derived.Test.YtlncmknikjloeaaGreatDoorV11
import Derived.Test.YtlncmknikjloeaaGreatDoorV38
import Derived.Deep.RegionHeld3
import Derived.BigRegion

section
namespace Go.Proofs.YtlncmknikjloeaaGreatDoor
open Go.RowKit Go.Maps Go.Shelf

noncomputable def stepReg (k : Nat) : Code := (Tryz.f3.body.bind (fun c => (regsOf c).find? (isReg k))).getD .skip

theorem say_fds (X : Say) : (fdsOf X.D 16).length = 1 := by
  have h : fdsOf X.D 16 = [1] := by
    unfold fdsOf
    simp only [List.range, List.range.loop, List.filter_cons, Say.D, isNilV, sinkV]
    rfl
  rw [h]
  rfl
theorem nil_fds : (fdsOf (fun _ => .nilIface) 16).length = 0 := by rfl

set_option maxRecDepth 100000 in
set_option maxHeartbeats 8000000 in
theorem steps_r24 (w : World) (m : Nat) (X : Say) (S : Told) (f : Value) (hm : MachAt w m X.p f false 0) (hS : SayOf w X S) (hh7 : S.held = 7) (htf : X.K.tf (numK 1) = some (sinkV X.sink)) (QA : Option Addr) (qc q : Nat) (hq : S.said.length = q) (hqs : q ≤ 140737488355000) (hw : Reads w w.heap.size 1 QA q (bytesC S.said))
    {e0 e1 e2 e3 e4 e5 e6 e7 e8 e9 e13 e14 e16 e18 e19 e20 e21 e22 e23 e24 e25 e26 e27 e28 e29 e30 e31 e32 e33 e34 e35 e36 e37 e38 e39 e40 e41 e42 e43 e44 e45 e46 e47 e48 e49 e50 e51 e52 e53 e54 e55 e56 e57 e58 e59 e60 e61 e62 e63 e64 e65 e66 e67 e68 e69 e70 e71 e72 e73 e74 e75 e76 e77 e78 e79 e80 e81 e82 e83 e84 e85 e86 e87 e88 e89 e90 e91 e92 e93 e94 e95 e96 e97 e98 e99 e100 e101 e102 e103 e104 e105 e106 e107 e108 e109 e110 e111 e112 e113 e114 e115 e116 e117 e118 e119 e120 e121 e122 e123 e124 e125 e126 e127 e128 e129 e130 e131 e132 e133 e134 e135 e136 e137 e138 e139 e140 e141 e142 e143 e144 e145 e146 e147 e148 e149 e150 e151 e152 e153 e154 e155 e156 e157 e158 e159 e160 e161 e162 e163 e164 e165 e166 e167 e168 e169 e170 e171 e172 e173 e174 e175 e176 e177 e178 e179 e180 e181 e182 e183 e184 e185 e186 e187 e188 e189 e190 e191 e192 e193 e194 e195 e196 e197 e198 e199 e200 e201 e202 e203 e204 e205 e206 e207 e208 e209 e210 e211 e212 e213 e214 e215 e216 e217 e218 e219 e220 e221 e222 e223 e224 e225 e226 e227 e228 e229 e230 e231 e232 e233 e234 e235 e236 e237 e238 e239 e240 e241 e242 e243 e244 e245 e246 e247 e248 e249 e250 e251 e252 e253 e254 e255 e256 e257 e258 e259 e260 e261 e262 e263 e264 e265 e266 e267 e268 e269 e270 e271 e272 e273 e274 e275 e276 e277 e278 e279 e280 e281 e282 e283 e284 e285 e286 e287 e288 e289 e290 e291 e292 e293 e294 e295 e296 : Value} {Q0 : Exit → Act → World → Prop}
    (hexit : ∀ (u90 u91 u92 u93 u94 u95 u96 u97 u98 u99 u100 u101 u102 u103 u104 u105 u106 u107 u108 u109 u110 u111 : Value) (w1 : World), Below w.heap.size w w1 → Q0 .normal ⟨#[e0, e1, e2, e3, e4, e5, e6, e7, e8, e9, .pointer (some ⟨X.B.k, 0, none⟩), .pointer (some ⟨X.p, 0, none⟩), .int .i64 1, e13, e14, .slice QA q qc, e16, .pointer (some ⟨m, 0, none⟩), e18, e19, e20, e21, e22, e23, e24, e25, e26, e27, e28, e29, e30, e31, e32, e33, e34, e35, e36, e37, e38, e39, e40, e41, e42, e43, e44, e45, e46, e47, e48, e49, e50, e51, e52, e53, e54, e55, e56, e57, e58, e59, e60, e61, e62, e63, e64, e65, e66, e67, e68, e69, e70, e71, e72, e73, e74, e75, e76, e77, e78, e79, e80, e81, e82, e83, e84, e85, e86, e87, e88, e89, u90, u91, u92, u93, u94, u95, u96, u97, u98, u99, u100, u101, u102, u103, u104, u105, u106, u107, u108, u109, u110, u111, .bool false, e113, e114, e115, e116, e117, e118, e119, e120, e121, e122, e123, e124, e125, e126, e127, e128, e129, e130, e131, e132, e133, e134, e135, e136, e137, e138, e139, e140, e141, e142, e143, e144, e145, e146, e147, e148, e149, e150, e151, e152, e153, e154, e155, e156, e157, e158, e159, e160, e161, e162, e163, e164, e165, e166, e167, e168, e169, e170, e171, e172, e173, e174, e175, e176, e177, e178, e179, e180, e181, e182, e183, e184, e185, e186, e187, e188, e189, e190, e191, e192, e193, e194, e195, e196, e197, e198, e199, e200, e201, e202, e203, e204, e205, e206, e207, e208, e209, e210, e211, e212, e213, e214, e215, e216, e217, e218, e219, e220, e221, e222, e223, e224, e225, e226, e227, e228, e229, e230, e231, e232, e233, e234, e235, e236, e237, e238, e239, e240, e241, e242, e243, e244, e245, e246, e247, e248, e249, e250, e251, e252, e253, e254, e255, e256, e257, e258, e259, e260, e261, e262, e263, e264, e265, e266, e267, e268, e269, e270, e271, e272, e273, e274, e275, e276, e277, e278, e279, e280, e281, e282, e283, e284, e285, e286, e287, e288, e289, e290, e291, e292, e293, e294, e295, e296], []⟩ w1) :
    Code.wp Tryz.prog (stepReg 24) Q0 ⟨#[e0, e1, e2, e3, e4, e5, e6, e7, e8, e9, .pointer (some ⟨X.B.k, 0, none⟩), .pointer (some ⟨X.p, 0, none⟩), .int .i64 1, e13, e14, .slice QA q qc, e16, .pointer (some ⟨m, 0, none⟩), e18, e19, e20, e21, e22, e23, e24, e25, e26, e27, e28, e29, e30, e31, e32, e33, e34, e35, e36, e37, e38, e39, e40, e41, e42, e43, e44, e45, e46, e47, e48, e49, e50, e51, e52, e53, e54, e55, e56, e57, e58, e59, e60, e61, e62, e63, e64, e65, e66, e67, e68, e69, e70, e71, e72, e73, e74, e75, e76, e77, e78, e79, e80, e81, e82, e83, e84, e85, e86, e87, e88, e89, e90, e91, e92, e93, e94, e95, e96, e97, e98, e99, e100, e101, e102, e103, e104, e105, e106, e107, e108, e109, e110, e111, e112, e113, e114, e115, e116, e117, e118, e119, e120, e121, e122, e123, e124, e125, e126, e127, e128, e129, e130, e131, e132, e133, e134, e135, e136, e137, e138, e139, e140, e141, e142, e143, e144, e145, e146, e147, e148, e149, e150, e151, e152, e153, e154, e155, e156, e157, e158, e159, e160, e161, e162, e163, e164, e165, e166, e167, e168, e169, e170, e171, e172, e173, e174, e175, e176, e177, e178, e179, e180, e181, e182, e183, e184, e185, e186, e187, e188, e189, e190, e191, e192, e193, e194, e195, e196, e197, e198, e199, e200, e201, e202, e203, e204, e205, e206, e207, e208, e209, e210, e211, e212, e213, e214, e215, e216, e217, e218, e219, e220, e221, e222, e223, e224, e225, e226, e227, e228, e229, e230, e231, e232, e233, e234, e235, e236, e237, e238, e239, e240, e241, e242, e243, e244, e245, e246, e247, e248, e249, e250, e251, e252, e253, e254, e255, e256, e257, e258, e259, e260, e261, e262, e263, e264, e265, e266, e267, e268, e269, e270, e271, e272, e273, e274, e275, e276, e277, e278, e279, e280, e281, e282, e283, e284, e285, e286, e287, e288, e289, e290, e291, e292, e293, e294, e295, e296], []⟩ w := by
  dsimp only at hexit ⊢
  have HX := Lib.hid hexit
  have hDn := machDone w.drew m X.p f false 0 hm
  have hS' := hS.below (below_drew w 1)
  have hsd := kSaid w.drew X.B.k X.K hS'.kern 1 (by decide) X.sink htf 0 S.val S.said hS'.sink hS'.row (by omega)
  rw [show (((1 : Nat) : Int)) = (1 : Int) from rfl, hq] at hsd
  obtain ⟨T, hT⟩ : ∃ T, strB S.said = T := ⟨_, rfl⟩
  have Y1 := Lib.hid (show ∀ W, Below w.heap.size w W → (convert 39 9 (.slice QA q qc)).run Tryz.prog W = .ok (.string T) W from fun W h => convOut hT hq (by rw [hq]; exact hw.below h))
  have hb0 : Below w.heap.size w w.drew := below_drew w 1
  have HT := Lib.hid hT
  have HQ := Lib.hid hq
  have HS := Lib.hid hS
  have HM := Lib.hid hm
  have hbb : (T.toList != T.toList) = false := by simp
  clear hexit hS hS' hm hw htf hT hq hqs
  conv => arg 2; whnf
  refine wp_region_noPanic ?_
  go_region_held (fun W => (convert 39 9 (.slice QA q qc)).run Tryz.prog W = .ok (.string T) W) (exact Y1.out _ (by assumption))
    (first
    | (go_at_call 13; refine hDn.mono ?_; rintro e w1 ⟨rfl, rfl⟩)
    | (go_at_call 14; refine hsd.mono ?_; rintro e w2 ⟨u, rfl, hown, hb2⟩
       obtain ⟨OA, oc, rfl, _, _, hor⟩ := own_slice hown
       have hbA : Below w.heap.size w w2 := (below_drew w 1).trans hb2
       have y3 : (convert 39 9 (.slice OA q oc)).run Tryz.prog w2 = .ok (.string T) w2 := convOut HT.out HQ.out (by rw [HQ.out]; exact hor)
       have htb := procTable w2 X.p (X.J S) (HS.out.below hbA).proc
       have hfd := kFds w2 X.B.tb X.B.k X.D (HS.out.below hbA).table X.plain.iface
       rw [say_fds] at hfd)
    | (go_at_call 10; refine htb.mono ?_; rintro e w3 ⟨rfl, rfl⟩)
    | (go_at_call 15; refine hfd.mono ?_; rintro e w4 ⟨u4, rfl, hown4, hb4⟩
       obtain ⟨FA, fc, rfl, _, _, _⟩ := own_slice hown4
       have hb5 : Below w.heap.size w w4 := hbA.trans (hb4.mono hb2.size)
       have hhd := machHeld w4 m X.p f false 0 (Blk.on HM.out hb5) (X.J S) (HS.out.below hb5).proc
       rw [show (X.J S).held = 7 from hh7] at hhd)
    | (go_at_call 16; refine hhd.mono ?_; rintro e w6 ⟨rfl, rfl⟩))
  all_goals exact HX.out _ _ _ _ _ _ _ _ _ _ _ _ _ _ _ _ _ _ _ _ _ _ _ hb5

theorem below_join {w W w' : World} (h : Below w.heap.size w W) (h' : Below W.heap.size W w') : Below w.heap.size w w' := h.trans (h'.mono h.size)
theorem SayOver.below {w w' : World} {X : Say} {S : Told} (h : SayOver w X S) (hb : Below w.heap.size w w') : SayOver w' X S := by
  refine ⟨h.proc.below hb, h.kern.below hb, Blk.on h.table hb, Blk.on h.sink hb, h.row.same fun g hg => hb.block g (h.row.lt hg).2⟩
/-- what is asked of a machine that has ended -/
structure Asked (w : World) (m : Nat) (f : Value) (st : Int) (X : Say) (S : Told) : Prop where
  mach : MachAt w m X.p f true st
  over : SayOver w X S
theorem Asked.below {w w' : World} {m : Nat} {f : Value} {st : Int} {X : Say} {S : Told} (h : Asked w m f st X S) (hb : Below w.heap.size w w') : Asked w' m f st X S := ⟨h.mach.on hb, h.over.below hb⟩

set_option maxRecDepth 100000 in
set_option maxHeartbeats 8000000 in
theorem steps_r29 (w : World) (m : Nat) (X : Say) (S : Told) (f : Value) (ha : Asked w m f 137 X S) (htf : X.K.tf (numK 1) = some (sinkV X.sink)) (QA : Option Addr) (qc q : Nat) (hq : S.said.length = q) (hqs : q ≤ 140737488355000) (hw : Reads w w.heap.size 1 QA q (bytesC S.said))
    {e0 e1 e2 e3 e4 e5 e6 e7 e8 e9 e13 e14 e16 e18 e19 e21 e22 e23 e24 e25 e26 e27 e28 e29 e30 e31 e32 e33 e34 e35 e36 e37 e38 e39 e40 e41 e42 e43 e44 e45 e46 e47 e48 e49 e50 e51 e52 e53 e54 e55 e56 e57 e58 e59 e60 e61 e62 e63 e64 e65 e66 e67 e68 e69 e70 e71 e72 e73 e74 e75 e76 e77 e78 e79 e80 e81 e82 e83 e84 e85 e86 e87 e88 e89 e90 e91 e92 e93 e94 e95 e96 e97 e98 e99 e100 e101 e102 e103 e104 e105 e106 e107 e108 e109 e110 e111 e112 e113 e114 e115 e116 e117 e118 e119 e120 e121 e122 e123 e124 e125 e126 e127 e128 e129 e130 e131 e132 e133 e134 e135 e136 e137 e138 e139 e140 e141 e142 e143 e144 e145 e146 e147 e148 e149 e150 e151 e152 e153 e154 e155 e156 e157 e158 e159 e160 e161 e162 e163 e164 e165 e166 e167 e168 e169 e170 e171 e172 e173 e174 e175 e176 e177 e178 e179 e180 e181 e182 e183 e184 e185 e186 e187 e188 e189 e190 e191 e192 e193 e194 e195 e196 e197 e198 e199 e200 e201 e202 e203 e204 e205 e206 e207 e208 e209 e210 e211 e212 e213 e214 e215 e216 e217 e218 e219 e220 e221 e222 e223 e224 e225 e226 e227 e228 e229 e230 e231 e232 e233 e234 e235 e236 e237 e238 e239 e240 e241 e242 e243 e244 e245 e246 e247 e248 e249 e250 e251 e252 e253 e254 e255 e256 e257 e258 e259 e260 e261 e262 e263 e264 e265 e266 e267 e268 e269 e270 e271 e272 e273 e274 e275 e276 e277 e278 e279 e280 e281 e282 e283 e284 e285 e286 e287 e288 e289 e290 e291 e292 e293 e294 e295 e296 : Value} {Q0 : Exit → Act → World → Prop}
    (hexit : ∀ (u120 u121 u122 u123 u124 u125 u126 u127 u128 u129 u130 u131 u132 u133 u134 u135 u136 u137 u138 u139 u140 u141 u142 u143 u144 u145 u146 u147 u148 u149 u150 : Value) (w1 : World), Below w.heap.size w w1 → Q0 .normal ⟨#[e0, e1, e2, e3, e4, e5, e6, e7, .bool true, e9, .pointer (some ⟨X.B.k, 0, none⟩), .pointer (some ⟨X.p, 0, none⟩), .int .i64 1, e13, e14, .slice QA q qc, e16, .pointer (some ⟨m, 0, none⟩), e18, e19, .bool true, e21, e22, e23, e24, e25, e26, e27, e28, e29, e30, e31, e32, e33, e34, e35, e36, e37, e38, e39, e40, e41, e42, e43, e44, e45, e46, e47, e48, e49, e50, e51, e52, e53, e54, e55, e56, e57, e58, e59, e60, e61, e62, e63, e64, e65, e66, e67, e68, e69, e70, e71, e72, e73, e74, e75, e76, e77, e78, e79, e80, e81, e82, e83, e84, e85, e86, e87, e88, e89, e90, e91, e92, e93, e94, e95, e96, e97, e98, e99, e100, e101, e102, e103, e104, e105, e106, e107, e108, e109, e110, e111, e112, e113, e114, e115, e116, e117, e118, e119, u120, u121, u122, u123, u124, u125, u126, u127, u128, u129, u130, u131, u132, u133, u134, u135, u136, u137, u138, u139, u140, u141, u142, u143, u144, u145, u146, u147, u148, u149, u150, e151, e152, e153, e154, e155, e156, e157, e158, e159, e160, e161, e162, e163, e164, e165, e166, e167, e168, e169, e170, e171, e172, e173, e174, e175, e176, e177, e178, e179, e180, e181, e182, e183, e184, e185, e186, e187, e188, e189, e190, e191, e192, e193, e194, e195, e196, e197, e198, e199, e200, e201, e202, e203, e204, e205, e206, e207, e208, e209, e210, e211, e212, e213, e214, e215, e216, e217, e218, e219, e220, e221, e222, e223, e224, e225, e226, e227, e228, e229, e230, e231, e232, e233, e234, e235, e236, e237, e238, e239, e240, e241, e242, e243, e244, e245, e246, e247, e248, e249, e250, e251, e252, e253, e254, e255, e256, e257, e258, e259, e260, e261, e262, e263, e264, e265, e266, e267, e268, e269, e270, e271, e272, e273, e274, e275, e276, e277, e278, e279, e280, e281, e282, e283, e284, e285, e286, e287, e288, e289, e290, e291, e292, e293, e294, e295, e296], []⟩ w1) :
    Code.wp Tryz.prog (stepReg 29) Q0 ⟨#[e0, e1, e2, e3, e4, e5, e6, e7, e8, e9, .pointer (some ⟨X.B.k, 0, none⟩), .pointer (some ⟨X.p, 0, none⟩), .int .i64 1, e13, e14, .slice QA q qc, e16, .pointer (some ⟨m, 0, none⟩), e18, e19, .bool true, e21, e22, e23, e24, e25, e26, e27, e28, e29, e30, e31, e32, e33, e34, e35, e36, e37, e38, e39, e40, e41, e42, e43, e44, e45, e46, e47, e48, e49, e50, e51, e52, e53, e54, e55, e56, e57, e58, e59, e60, e61, e62, e63, e64, e65, e66, e67, e68, e69, e70, e71, e72, e73, e74, e75, e76, e77, e78, e79, e80, e81, e82, e83, e84, e85, e86, e87, e88, e89, e90, e91, e92, e93, e94, e95, e96, e97, e98, e99, e100, e101, e102, e103, e104, e105, e106, e107, e108, e109, e110, e111, e112, e113, e114, e115, e116, e117, e118, e119, e120, e121, e122, e123, e124, e125, e126, e127, e128, e129, e130, e131, e132, e133, e134, e135, e136, e137, e138, e139, e140, e141, e142, e143, e144, e145, e146, e147, e148, e149, e150, e151, e152, e153, e154, e155, e156, e157, e158, e159, e160, e161, e162, e163, e164, e165, e166, e167, e168, e169, e170, e171, e172, e173, e174, e175, e176, e177, e178, e179, e180, e181, e182, e183, e184, e185, e186, e187, e188, e189, e190, e191, e192, e193, e194, e195, e196, e197, e198, e199, e200, e201, e202, e203, e204, e205, e206, e207, e208, e209, e210, e211, e212, e213, e214, e215, e216, e217, e218, e219, e220, e221, e222, e223, e224, e225, e226, e227, e228, e229, e230, e231, e232, e233, e234, e235, e236, e237, e238, e239, e240, e241, e242, e243, e244, e245, e246, e247, e248, e249, e250, e251, e252, e253, e254, e255, e256, e257, e258, e259, e260, e261, e262, e263, e264, e265, e266, e267, e268, e269, e270, e271, e272, e273, e274, e275, e276, e277, e278, e279, e280, e281, e282, e283, e284, e285, e286, e287, e288, e289, e290, e291, e292, e293, e294, e295, e296], []⟩ w := by
  dsimp only at hexit ⊢
  have HX := Lib.hid hexit
  have HA := Lib.hid ha
  obtain ⟨T, hT⟩ : ∃ T, strB S.said = T := ⟨_, rfl⟩
  have Y1 := Lib.hid (show ∀ W, Below w.heap.size w W → (convert 39 9 (.slice QA q qc)).run Tryz.prog W = .ok (.string T) W from fun W h => convOut hT hq (by rw [hq]; exact hw.below h))
  have HSD := Lib.hid (show ∀ W, Below w.heap.size w W → Calls Tryz.prog 14 #[.pointer (some ⟨X.B.k, 0, none⟩), .int .i64 1] W fun e w' => ∃ u, e = .returned u ∧ w'.ownsRow W.heap.size 5 1 u q (bytesC S.said) ∧ Below W.heap.size W w' from fun W h => by
    have hO := (ha.below h).over
    have hsd := kSaid W X.B.k X.K hO.kern 1 (by decide) X.sink htf 0 S.val S.said hO.sink hO.row (by omega)
    rw [show (((1 : Nat) : Int)) = (1 : Int) from rfl, hq] at hsd
    exact hsd)
  have hb0 : Below w.heap.size w w.drew := below_drew w 1
  have HT := Lib.hid hT
  have HQ := Lib.hid hq
  have hbb : (T.toList == T.toList) = true := by simp
  clear hexit ha hw htf hT hq hqs
  conv => arg 2; whnf
  refine wp_region_noPanic ?_
  go_region_held (fun W => (convert 39 9 (.slice QA q qc)).run Tryz.prog W = .ok (.string T) W) (exact Y1.out _ (by assumption))
    (first
    | (go_at_call 13; refine (machDone _ m X.p f true 137 (HA.out.below (by assumption)).mach).mono ?_; rintro e wd ⟨rfl, rfl⟩)
    | (go_at_call 19; refine (machStatus _ m X.p f true 137 (HA.out.below (by assumption)).mach).mono ?_; rintro e ws ⟨rfl, rfl⟩)
    | (go_at_call 10; refine (procTable _ X.p (X.J S).over (HA.out.below (by assumption)).over.proc).mono ?_; rintro e wt ⟨rfl, rfl⟩)
    | (go_at_call 15; refine (kFds _ X.B.tb X.B.k (fun _ => .nilIface) (HA.out.below (by assumption)).over.table (fun _ _ => .inl rfl)).mono ?_; rw [nil_fds]; rintro e w2 ⟨u2, rfl, hown2, hb2⟩
       obtain ⟨FA, fc, rfl, _, _, _⟩ := own_slice hown2
       have hb2' : Below w.heap.size w w2 := below_join (by assumption) hb2)
    | (go_at_call 14; refine (HSD.out _ (by assumption)).mono ?_; rintro e w3 ⟨u3, rfl, hown3, hb3⟩
       obtain ⟨OA, oc, rfl, _, _, hor⟩ := own_slice hown3
       have hb3' : Below w.heap.size w w3 := below_join (by assumption) hb3
       have y3 : (convert 39 9 (.slice OA q oc)).run Tryz.prog w3 = .ok (.string T) w3 := convOut HT.out HQ.out (by rw [HQ.out]; exact hor))
    | (go_at_call 16; refine (machHeld _ m X.p f true 137 (HA.out.below (by assumption)).mach (X.J S).over (HA.out.below (by assumption)).over.proc).mono ?_; rw [show (X.J S).over.held = 0 from rfl]; rintro e wh ⟨rfl, rfl⟩))
  all_goals exact HX.out _ _ _ _ _ _ _ _ _ _ _ _ _ _ _ _ _ _ _ _ _ _ _ _ _ _ _ _ _ _ _ _ (by assumption)

end Go.Proofs.YtlncmknikjloeaaGreatDoor
end
