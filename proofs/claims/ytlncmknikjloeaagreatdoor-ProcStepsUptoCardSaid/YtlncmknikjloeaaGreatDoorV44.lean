/-
  Parts of the proof: The last drawn region of ProcSteps, over the frame written out (printed by wip/tools/stepsgen.py r43).
-/
import Derived.Test.YtlncmknikjloeaaGreatDoorV43

section
namespace Go.Proofs.YtlncmknikjloeaaGreatDoor
open Go.RowKit Go.Maps Go.Shelf

theorem Tryz.infoKern : ∃ i, Tryz.prog.info? 72 = some i := by
  have h : (Tryz.prog.info? 72).map (·.size) = some 6 := by kernel_rfl
  cases hj : Tryz.prog.info? 72 with
  | none => rw [hj] at h; cases h
  | some j => exact ⟨j, rfl⟩
theorem eq_kern (w : World) (a : Addr) : (binOp .eql 25 (.pointer (some a)) (.pointer (some a))).run Tryz.prog w = .ok (.bool true) w := by
  obtain ⟨j, hj⟩ := Tryz.infoKern
  have h : ∀ d : Nat, (Op.equalIn (d + 1) 25 (.pointer (some a)) (.pointer (some a))).run Tryz.prog w = .ok true w := fun d => by
    simp [Op.equalIn, run_underlying Tryz.underlying25, sizeOf, typeInfo, hj, run_sameAddr_same]
  have h2 : (Op.equal 25 (.pointer (some a)) (.pointer (some a))).run Tryz.prog w = .ok true w := by simp only [Op.equal, Op.maxDepth, h 9999]
  simp [binOp, h2]

set_option maxRecDepth 100000 in
set_option maxHeartbeats 8000000 in
theorem steps_r43 (w : World) (m : Nat) (X : Say) (S : Told) (f : Value) (ha : Asked w m f 0 X S) (htf : X.K.tf (numK 1) = some (sinkV X.sink)) (QA : Option Addr) (qc q : Nat) (hq : S.said.length = q) (hqs : q ≤ 140737488355000) (hw : Reads w w.heap.size 1 QA q (bytesC S.said)) (EA : Option Addr) (ec n c : Nat) (hen : X.B.env.length = n) (hn : n ≤ 2097152) (har : X.B.args.length = 2) (hcw : X.B.cwd = ⟨#[]⟩) (hlm : X.B.buf = 8 ∧ X.B.line = 9 ∧ X.B.run = 10) (hst : S.steps = c) (hpk : S.peak = 7)
    {e0 e1 e3 e4 e5 e6 e7 e8 e9 e13 e14 e16 e19 e20 e22 e24 e25 e26 e27 e28 e29 e30 e31 e32 e33 e34 e35 e36 e37 e38 e39 e40 e41 e42 e43 e44 e45 e46 e47 e48 e49 e50 e51 e52 e53 e54 e55 e56 e57 e58 e59 e60 e61 e62 e63 e64 e65 e66 e67 e68 e69 e70 e71 e72 e73 e74 e75 e76 e77 e78 e79 e80 e81 e82 e83 e84 e85 e86 e87 e88 e89 e90 e91 e92 e93 e94 e95 e96 e97 e98 e99 e100 e101 e102 e103 e104 e105 e106 e107 e108 e109 e110 e111 e112 e113 e114 e115 e116 e117 e118 e119 e120 e121 e122 e123 e124 e125 e126 e127 e128 e129 e130 e131 e132 e133 e134 e135 e136 e137 e138 e139 e140 e141 e142 e143 e144 e145 e146 e147 e148 e149 e150 e151 e152 e153 e154 e155 e156 e157 e158 e159 e160 e161 e162 e163 e164 e165 e166 e167 e168 e169 e170 e171 e172 e173 e174 e175 e176 e177 e178 e179 e180 e181 e182 e183 e184 e185 e186 e187 e188 e189 e190 e191 e192 e193 e194 e195 e196 e197 e198 e199 e200 e201 e202 e203 e204 e205 e206 e207 e208 e209 e210 e211 e212 e213 e214 e215 e216 e217 e218 e219 e220 e221 e222 e223 e224 e225 e226 e227 e228 e229 e230 e231 e232 e233 e234 e235 e236 e237 e238 e239 e240 e241 e242 e243 e244 e245 e246 e247 e248 e249 e250 e251 e252 e253 e254 e255 e256 e257 e258 e259 e260 e261 e262 e263 e264 e265 e266 e267 e268 e269 e270 e271 e272 e273 e274 e275 e276 e277 e278 e279 e280 e281 e282 e283 e284 e285 e286 e287 e288 e289 e290 e291 e292 e293 e294 e295 e296 : Value} {Q0 : Exit → Act → World → Prop}
    (hexit : ∀ (u220 u221 u222 u223 u224 u225 u226 u227 u228 u229 u230 u231 u232 u233 u234 u235 u236 u237 u238 u239 u240 u241 u242 u243 u244 u245 u246 u247 u248 u249 u250 u251 u252 u253 u254 u255 u256 u257 u258 u259 u260 u261 u262 u263 u264 u265 u266 u267 u268 u269 u270 u271 u272 u273 u274 u275 u276 u277 u278 u279 u280 u281 u282 u283 u284 u285 u286 u287 u288 u289 u290 u291 u292 u293 u294 u295 u296 : Value) (w1 : World), Below w.heap.size w w1 → Q0 .normal ⟨#[e0, e1, .slice EA n ec, e3, e4, e5, e6, e7, .bool true, e9, .pointer (some ⟨X.B.k, 0, none⟩), .pointer (some ⟨X.p, 0, none⟩), .int .i64 1, e13, e14, .slice QA q qc, e16, .pointer (some ⟨m, 0, none⟩), .int .i64 (c : Int), e19, e20, .bool true, e22, .bool false, e24, e25, e26, e27, e28, e29, e30, e31, e32, e33, e34, e35, e36, e37, e38, e39, e40, e41, e42, e43, e44, e45, e46, e47, e48, e49, e50, e51, e52, e53, e54, e55, e56, e57, e58, e59, e60, e61, e62, e63, e64, e65, e66, e67, e68, e69, e70, e71, e72, e73, e74, e75, e76, e77, e78, e79, e80, e81, e82, e83, e84, e85, e86, e87, e88, e89, e90, e91, e92, e93, e94, e95, e96, e97, e98, e99, e100, e101, e102, e103, e104, e105, e106, e107, e108, e109, e110, e111, e112, e113, e114, e115, e116, e117, e118, e119, e120, e121, e122, e123, e124, e125, e126, e127, e128, e129, e130, e131, e132, e133, e134, e135, e136, e137, e138, e139, e140, e141, e142, e143, e144, e145, e146, e147, e148, e149, e150, e151, e152, e153, e154, e155, e156, e157, e158, e159, e160, e161, e162, e163, e164, e165, e166, e167, e168, e169, e170, e171, e172, e173, e174, e175, e176, e177, e178, e179, e180, e181, e182, e183, e184, e185, e186, e187, e188, e189, e190, e191, e192, e193, e194, e195, e196, e197, e198, e199, e200, e201, e202, e203, e204, e205, e206, e207, e208, e209, e210, e211, e212, e213, e214, e215, e216, e217, e218, e219, u220, u221, u222, u223, u224, u225, u226, u227, u228, u229, u230, u231, u232, u233, u234, u235, u236, u237, u238, u239, u240, u241, u242, u243, u244, u245, u246, u247, u248, u249, u250, u251, u252, u253, u254, u255, u256, u257, u258, u259, u260, u261, u262, u263, u264, u265, u266, u267, u268, u269, u270, u271, u272, u273, u274, u275, u276, u277, u278, u279, u280, u281, u282, u283, u284, u285, u286, u287, u288, u289, u290, u291, u292, u293, u294, u295, u296], []⟩ w1) :
    Code.wp Tryz.prog (stepReg 43) Q0 ⟨#[e0, e1, .slice EA n ec, e3, e4, e5, e6, e7, e8, e9, .pointer (some ⟨X.B.k, 0, none⟩), .pointer (some ⟨X.p, 0, none⟩), .int .i64 1, e13, e14, .slice QA q qc, e16, .pointer (some ⟨m, 0, none⟩), .int .i64 (c : Int), e19, e20, .bool true, e22, .bool false, e24, e25, e26, e27, e28, e29, e30, e31, e32, e33, e34, e35, e36, e37, e38, e39, e40, e41, e42, e43, e44, e45, e46, e47, e48, e49, e50, e51, e52, e53, e54, e55, e56, e57, e58, e59, e60, e61, e62, e63, e64, e65, e66, e67, e68, e69, e70, e71, e72, e73, e74, e75, e76, e77, e78, e79, e80, e81, e82, e83, e84, e85, e86, e87, e88, e89, e90, e91, e92, e93, e94, e95, e96, e97, e98, e99, e100, e101, e102, e103, e104, e105, e106, e107, e108, e109, e110, e111, e112, e113, e114, e115, e116, e117, e118, e119, e120, e121, e122, e123, e124, e125, e126, e127, e128, e129, e130, e131, e132, e133, e134, e135, e136, e137, e138, e139, e140, e141, e142, e143, e144, e145, e146, e147, e148, e149, e150, e151, e152, e153, e154, e155, e156, e157, e158, e159, e160, e161, e162, e163, e164, e165, e166, e167, e168, e169, e170, e171, e172, e173, e174, e175, e176, e177, e178, e179, e180, e181, e182, e183, e184, e185, e186, e187, e188, e189, e190, e191, e192, e193, e194, e195, e196, e197, e198, e199, e200, e201, e202, e203, e204, e205, e206, e207, e208, e209, e210, e211, e212, e213, e214, e215, e216, e217, e218, e219, e220, e221, e222, e223, e224, e225, e226, e227, e228, e229, e230, e231, e232, e233, e234, e235, e236, e237, e238, e239, e240, e241, e242, e243, e244, e245, e246, e247, e248, e249, e250, e251, e252, e253, e254, e255, e256, e257, e258, e259, e260, e261, e262, e263, e264, e265, e266, e267, e268, e269, e270, e271, e272, e273, e274, e275, e276, e277, e278, e279, e280, e281, e282, e283, e284, e285, e286, e287, e288, e289, e290, e291, e292, e293, e294, e295, e296], []⟩ w := by
  dsimp only at hexit ⊢
  have HX := Lib.hid hexit
  have HA := Lib.hid ha
  obtain ⟨T, hT⟩ : ∃ T, strB S.said = T := ⟨_, rfl⟩
  have Y1 := Lib.hid (show ∀ W, Below w.heap.size w W → (convert 39 9 (.slice QA q qc)).run Tryz.prog W = .ok (.string T) W from fun W h => convOut hT hq (by rw [hq]; exact hw.below h))
  have HSD := Lib.hid (show ∀ W, Below w.heap.size w W → Calls Tryz.prog 14 #[.pointer (some ⟨X.B.k, 0, none⟩), .int .i64 1] W fun e w' => ∃ u, e = .returned u ∧ w'.ownsRow W.heap.size 5 1 u q (bytesC S.said) ∧ Below W.heap.size W w' from fun W h => by
    have hO := (ha.below h).over
    have hsd := kSaid W X.B.k X.K hO.kern 1 (by decide) X.sink htf 0 S.val S.said hO.sink hO.row (by omega)
    rw [show (((1 : Nat) : Int)) = (1 : Int) from rfl, hq] at hsd
    exact hsd)
  have hb0 : Below w.heap.size w w.drew := below_drew w 1
  have HT := Lib.hid hT
  have HQ := Lib.hid hq
  have hbb : (T.toList == T.toList) = true := by simp
  clear hexit ha hw htf hT hq hqs
  conv => arg 2; whnf
  conv => arg 2; arg 2; arg 1; simp only [List.append]
  refine wp_region_noPanic ?_
  go_region_held (fun W => (convert 39 9 (.slice QA q qc)).run Tryz.prog W = .ok (.string T) W ∧ (binOp .eql 25 (.pointer (some ⟨X.B.k, 0, none⟩)) (.pointer (some ⟨X.B.k, 0, none⟩))).run Tryz.prog W = .ok (.bool true) W) (exact ⟨Y1.out _ (by assumption), eq_kern _ _⟩)
    (first
    | (go_at_call 13; refine (machDone _ m X.p f true 0 (HA.out.below (by assumption)).mach).mono ?_; rintro e wd ⟨rfl, rfl⟩)
    | (go_at_call 19; refine (machStatus _ m X.p f true 0 (HA.out.below (by assumption)).mach).mono ?_; rintro e ws ⟨rfl, rfl⟩)
    | (go_at_call 10; refine (procTable _ X.p (X.J S).over (HA.out.below (by assumption)).over.proc).mono ?_; rintro e wt ⟨rfl, rfl⟩)
    | (go_at_call 15; refine (kFds _ X.B.tb X.B.k (fun _ => .nilIface) (HA.out.below (by assumption)).over.table (fun _ _ => .inl rfl)).mono ?_; rw [nil_fds]; rintro e w2 ⟨u2, rfl, hown2, hb2⟩
       obtain ⟨FA, fc, rfl, _, _, _⟩ := own_slice hown2
       have hb2' : Below w.heap.size w w2 := below_join (by assumption) hb2)
    | (go_at_call 14; refine (HSD.out _ (by assumption)).mono ?_; rintro e w3 ⟨u3, rfl, hown3, hb3⟩
       obtain ⟨OA, oc, rfl, _, _, hor⟩ := own_slice hown3
       have hb3' : Below w.heap.size w w3 := below_join (by assumption) hb3
       have y3 : (convert 39 9 (.slice OA q oc)).run Tryz.prog w3 = .ok (.string T) w3 := convOut HT.out HQ.out (by rw [HQ.out]; exact hor))
    | (go_at_call 16; refine (machHeld _ m X.p f true 0 (HA.out.below (by assumption)).mach (X.J S).over (HA.out.below (by assumption)).over.proc).mono ?_; rw [show (X.J S).over.held = 0 from rfl]; rintro e wh ⟨rfl, rfl⟩)
    | (go_at_call 21; refine (machSteps _ m X.p f true 0 (HA.out.below (by assumption)).mach (X.J S).over (HA.out.below (by assumption)).over.proc).mono ?_; rw [show (X.J S).over.steps = c from hst]; rintro e wh ⟨rfl, rfl⟩)
    | (go_at_call 22; refine (machPeak _ m X.p f true 0 (HA.out.below (by assumption)).mach (X.J S).over (HA.out.below (by assumption)).over.proc).mono ?_; rw [show (X.J S).over.peak = 7 from hpk]; rintro e wh ⟨rfl, rfl⟩)
    | (go_at_call 23; refine (procArgs _ X.p (X.J S).over (HA.out.below (by assumption)).over.proc (by rw [show (X.J S).over.args.length = 2 from har]; decide)).mono ?_; rw [show (X.J S).over.args.length = 2 from har]; rintro e w4 ⟨u4, rfl, hown4, hb4⟩
       obtain ⟨GA, gc, rfl, _, _, _⟩ := own_slice hown4
       have hb4' : Below w.heap.size w w4 := below_join (by assumption) hb4)
    | (go_at_call 24; refine (procEnv _ X.p (X.J S).over (HA.out.below (by assumption)).over.proc (by rw [show (X.J S).over.env.length = n from hen]; exact hn)).mono ?_; rw [show (X.J S).over.env.length = n from hen]; rintro e w5 ⟨u5, rfl, hown5, hb5⟩
       obtain ⟨HA5, hc5, rfl, _, _, _⟩ := own_slice hown5
       have hb5' : Below w.heap.size w w5 := below_join (by assumption) hb5)
    | (go_at_call 25; refine (procCwd _ X.p (X.J S).over (HA.out.below (by assumption)).over.proc).mono ?_; rw [show (X.J S).over.cwd = ⟨#[]⟩ from hcw]; rintro e wh ⟨rfl, rfl⟩)
    | (go_at_call 26; refine (procLim _ X.p (X.J S).over (HA.out.below (by assumption)).over.proc).mono ?_; rw [show (X.J S).over.buf = 8 from hlm.1, show (X.J S).over.line = 9 from hlm.2.1, show (X.J S).over.run = 10 from hlm.2.2]; rintro e w6 ⟨rfl, hb6⟩
       have hb6' : Below w.heap.size w w6 := below_join (by assumption) hb6)
    | (go_at_call 8; refine (lim_any _).mono ?_; rintro e w7 ⟨rfl, hb7⟩
       have hb7' : Below w.heap.size w w7 := below_join (by assumption) hb7)
    | (go_at_call 27; refine (procKern _ X.p (X.J S).over (HA.out.below (by assumption)).over.proc).mono ?_; rw [show (X.J S).over.k = X.B.k from rfl]; rintro e wh ⟨rfl, rfl⟩))
  all_goals exact HX.out _ _ _ _ _ _ _ _ _ _ _ _ _ _ _ _ _ _ _ _ _ _ _ _ _ _ _ _ _ _ _ _ _ _ _ _ _ _ _ _ _ _ _ _ _ _ _ _ _ _ _ _ _ _ _ _ _ _ _ _ _ _ _ _ _ _ _ _ _ _ _ _ _ _ _ _ _ _ (by assumption)

end Go.Proofs.YtlncmknikjloeaaGreatDoor
end
