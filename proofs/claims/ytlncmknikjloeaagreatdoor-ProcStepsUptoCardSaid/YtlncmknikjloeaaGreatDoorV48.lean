/-
  Parts of the proof: ProcSteps' third loop, that searches the environment: a theorem of its own, over the frame written out (printed by wip/tools/stepsloop3.py).
-/
import Derived.Test.YtlncmknikjloeaaGreatDoorV45
import Derived.Test.YtlncmknikjloeaaGreatDoorV39

section
namespace Go.Proofs.YtlncmknikjloeaaGreatDoor
open Go.RowKit Go.Maps Go.Shelf

theorem cut_toList (S : ByteArray) (f t : Nat) : (S.extract f t).toList = (S.data.toList.take t).drop f := by
  rw [ByteArray.toList_eq, ByteArray.data_extract, Array.toList_extract, List.extract_eq_take_drop]
  rw [List.take_drop]
  by_cases h : f ≤ t
  · rw [show f + (t - f) = t by omega]
  · rw [List.drop_eq_nil_of_le (by rw [List.length_take]; omega), List.drop_eq_nil_of_le (by rw [List.length_take]; omega)]

theorem pre_list (a b : List UInt8) (h : b.length < a.length) : b ++ [61] <+: a ↔ a.take b.length = b ∧ ((a[b.length].toNat : Int) == 61) = true := by
  constructor
  · rintro ⟨c, rfl⟩
    simp
  · rintro ⟨h1, h2⟩
    refine ⟨a.drop (b.length + 1), ?_⟩
    have h3 : a[b.length] = 61 := UInt8.toNat_inj.1 (by rw [beq_iff_eq] at h2; show _ = 61; omega)
    rw [List.append_assoc]
    conv => rhs; rw [← List.take_append_drop b.length a, h1]
    congr 1
    rw [List.drop_eq_getElem_cons h, h3]
    rfl
/-- the law's own test of an entry is the test of the prefix that Get makes -/
theorem pre_iff (x name : ByteArray) (h : name.size < x.size) : Lib.hasPrefix x.data.toList (name.data.toList ++ [61]) = true ↔ (x.extract 0 name.size).toList = name.toList ∧ ((x[name.size].toNat : Int) == 61) = true := by
  have h0 : name.data.toList.length < x.data.toList.length := by simpa using h
  have hg : x[name.size] = x.data.toList[name.data.toList.length]'h0 := by
    show x.data[name.size] = _
    simp
  have hl : name.size = name.data.toList.length := by simp
  rw [cut_toList, List.drop_zero, ByteArray.toList_eq, hg, hl]
  unfold Lib.hasPrefix
  rw [List.isPrefixOf_iff_prefix]
  exact pre_list _ _ h0
theorem pre_short (x name : ByteArray) (h : ¬ name.size < x.size) : Lib.hasPrefix x.data.toList (name.data.toList ++ [61]) = false := by
  rw [Bool.eq_false_iff]
  unfold Lib.hasPrefix
  rw [ne_eq, List.isPrefixOf_iff_prefix]
  intro hp
  have := hp.length_le
  simp at this
  omega
theorem pre_trim (x name : ByteArray) (h : Lib.hasPrefix x.data.toList (name.data.toList ++ [61]) = true) : (ByteArray.mk (Lib.trimPrefix x.data.toList (name.data.toList ++ [61])).toArray).toList = (x.extract (name.size + 1) x.size).toList := by
  rw [cut_toList, Lib.trimPrefix, if_pos h, ByteArray.toList_eq]
  rw [List.take_of_length_le (by simp)]
  simp

set_option maxRecDepth 100000 in
set_option maxHeartbeats 8000000 in
theorem steps_l3 (w : World) (B : Nat) (EA : Option Addr) (ec n : Nat) (env : List ByteArray) (hn : env.length = n) (hn2 : n ≤ 2097152) (hr : Reads w B 1 EA n (strsC env)) (name v : ByteArray) (is : Bool) (hv : getOf (name.data.toList ++ [61]) env = (v, is)) (hns : name.size ≤ 2097152)
    {e0 e1 e4 e5 e6 e7 e8 e9 e10 e11 e12 e13 e14 e15 e16 e17 e18 e19 e20 e21 e25 e26 e27 e28 e29 e30 e31 e32 e33 e34 e35 e36 e37 e38 e39 e40 e41 e42 e43 e44 e45 e46 e47 e48 e49 e50 e51 e52 e53 e54 e55 e56 e57 e58 e59 e60 e61 e62 e63 e64 e65 e66 e67 e68 e69 e70 e71 e72 e73 e74 e75 e76 e77 e78 e79 e80 e81 e82 e83 e84 e85 e86 e87 e88 e89 e90 e91 e92 e93 e94 e95 e96 e97 e98 e99 e100 e101 e102 e103 e104 e105 e106 e107 e108 e109 e110 e111 e112 e113 e114 e115 e116 e117 e118 e119 e120 e121 e122 e123 e124 e125 e126 e127 e128 e129 e130 e131 e132 e133 e134 e135 e136 e137 e138 e139 e140 e141 e142 e143 e144 e145 e146 e147 e148 e149 e150 e151 e152 e153 e154 e155 e156 e157 e158 e159 e160 e161 e162 e163 e164 e165 e166 e167 e168 e169 e170 e171 e172 e173 e174 e175 e176 e177 e178 e179 e180 e181 e182 e183 e184 e185 e186 e187 e188 e189 e190 e191 e192 e193 e194 e195 e196 e197 e198 e199 e200 e201 e202 e203 e204 e205 e206 e207 e208 e209 e210 e211 e212 e213 e214 e215 e216 e217 e218 e219 e220 e221 e222 e223 e224 e225 e226 e227 e228 e229 e230 e231 e232 e233 e234 e235 e236 e237 e238 e239 e240 e241 e242 e243 e244 e245 e246 e247 e248 e249 e250 e251 e252 e253 e254 e255 e256 e257 e258 e259 e260 e261 e262 e263 e264 e265 e266 e267 e268 e269 e270 e271 e272 e273 e274 e275 e276 e277 e278 e279 e280 e281 e282 e283 e284 e285 e286 e287 e288 e289 e290 e291 e292 e293 e294 e295 e296 : Value} {Q0 : Exit → Act → World → Prop}
    (hexit : ∀ (u8 u24 u171 u172 u173 u174 u175 u176 u177 u178 u179 u180 u181 u182 u183 u184 u185 u186 u187 u188 u189 u190 u191 u192 u193 u194 u195 u196 u197 u198 u199 u200 u201 u202 u203 u204 u205 u206 u207 u208 u209 u210 u211 u212 u213 u214 u215 u216 u217 u218 u219 : Value), Q0 (.exit 4) ⟨#[e0, e1, .slice EA n ec, .string name, e4, e5, e6, e7, u8, e9, e10, e11, e12, e13, e14, e15, e16, e17, e18, e19, e20, e21, .string v, .bool false, u24, e25, e26, e27, e28, e29, e30, e31, e32, e33, e34, e35, e36, e37, e38, e39, e40, e41, e42, e43, e44, e45, e46, e47, e48, e49, e50, e51, e52, e53, e54, e55, e56, e57, e58, e59, e60, e61, e62, e63, e64, e65, e66, e67, e68, e69, e70, e71, e72, e73, e74, e75, e76, e77, e78, e79, e80, e81, e82, e83, e84, e85, e86, e87, e88, e89, e90, e91, e92, e93, e94, e95, e96, e97, e98, e99, e100, e101, e102, e103, e104, e105, e106, e107, e108, e109, e110, e111, e112, e113, e114, e115, e116, e117, e118, e119, e120, e121, e122, e123, e124, e125, e126, e127, e128, e129, e130, e131, e132, e133, e134, e135, e136, e137, e138, e139, e140, e141, e142, e143, e144, e145, e146, e147, e148, e149, e150, e151, e152, e153, e154, e155, e156, e157, e158, e159, e160, e161, e162, e163, e164, e165, e166, e167, e168, e169, e170, u171, u172, u173, u174, u175, u176, u177, u178, u179, u180, u181, u182, u183, u184, u185, u186, u187, u188, u189, u190, u191, u192, u193, u194, u195, u196, u197, u198, u199, u200, u201, u202, u203, u204, u205, u206, u207, u208, u209, u210, u211, u212, u213, u214, u215, u216, u217, u218, u219, e220, e221, e222, e223, e224, e225, e226, e227, e228, e229, e230, e231, e232, e233, e234, e235, e236, e237, e238, e239, e240, e241, e242, e243, e244, e245, e246, e247, e248, e249, e250, e251, e252, e253, e254, e255, e256, e257, e258, e259, e260, e261, e262, e263, e264, e265, e266, e267, e268, e269, e270, e271, e272, e273, e274, e275, e276, e277, e278, e279, e280, e281, e282, e283, e284, e285, e286, e287, e288, e289, e290, e291, e292, e293, e294, e295, e296], []⟩ w) :
    Code.wp Tryz.prog (Code.loop (stepLoop 2)) Q0 ⟨#[e0, e1, .slice EA n ec, .string name, e4, e5, e6, e7, e8, e9, e10, e11, e12, e13, e14, e15, e16, e17, e18, e19, e20, e21, .string v, .bool is, .int .i64 0, e25, e26, e27, e28, e29, e30, e31, e32, e33, e34, e35, e36, e37, e38, e39, e40, e41, e42, e43, e44, e45, e46, e47, e48, e49, e50, e51, e52, e53, e54, e55, e56, e57, e58, e59, e60, e61, e62, e63, e64, e65, e66, e67, e68, e69, e70, e71, e72, e73, e74, e75, e76, e77, e78, e79, e80, e81, e82, e83, e84, e85, e86, e87, e88, e89, e90, e91, e92, e93, e94, e95, e96, e97, e98, e99, e100, e101, e102, e103, e104, e105, e106, e107, e108, e109, e110, e111, e112, e113, e114, e115, e116, e117, e118, e119, e120, e121, e122, e123, e124, e125, e126, e127, e128, e129, e130, e131, e132, e133, e134, e135, e136, e137, e138, e139, e140, e141, e142, e143, e144, e145, e146, e147, e148, e149, e150, e151, e152, e153, e154, e155, e156, e157, e158, e159, e160, e161, e162, e163, e164, e165, e166, e167, e168, e169, e170, e171, e172, e173, e174, e175, e176, e177, e178, e179, e180, e181, e182, e183, e184, e185, e186, e187, e188, e189, e190, e191, e192, e193, e194, e195, e196, e197, e198, e199, e200, e201, e202, e203, e204, e205, e206, e207, e208, e209, e210, e211, e212, e213, e214, e215, e216, e217, e218, e219, e220, e221, e222, e223, e224, e225, e226, e227, e228, e229, e230, e231, e232, e233, e234, e235, e236, e237, e238, e239, e240, e241, e242, e243, e244, e245, e246, e247, e248, e249, e250, e251, e252, e253, e254, e255, e256, e257, e258, e259, e260, e261, e262, e263, e264, e265, e266, e267, e268, e269, e270, e271, e272, e273, e274, e275, e276, e277, e278, e279, e280, e281, e282, e283, e284, e285, e286, e287, e288, e289, e290, e291, e292, e293, e294, e295, e296], []⟩ w := by
  dsimp only at hexit ⊢
  have HX := Lib.hid hexit
  have HN := Lib.hid hn
  have HR := Lib.hid hr
  have HV := Lib.hid hv
  clear hexit hn hr hv
  conv => arg 2; arg 1; whnf
  go_loopw [23, 24] (fun sv iv wr => ∃ i : Nat, i ≤ n ∧ iv = .int .i64 (i : Int) ∧ sv = .bool is ∧ wr = w ∧ Hid (getOf (name.data.toList ++ [61]) (env.drop i) = (v, is))) (fun _ iv _ => n - (intOf iv).toNat)
  case atStart => exact ⟨0, Nat.zero_le _, rfl, rfl, rfl, HV⟩
  case round =>
    obtain ⟨i, hi, rfl, rfl, rfl, HREST⟩ := hrel
    by_cases hlt : i < n
    · obtain ⟨ad, u, rfl, _, hu, hcell⟩ := HR.out.at_ hlt
      simp only [strsC, List.getElem?_map, Option.map_eq_some_iff] at hu
      obtain ⟨x, hx, rfl⟩ := hu
      have hdrop : env.drop i = x :: env.drop (i + 1) := by
        rw [List.drop_eq_getElem_cons (by rw [HN.out]; exact hlt)]
        rw [List.getElem?_eq_getElem (by rw [HN.out]; exact hlt)] at hx
        rw [Option.some.inj hx]
      have he := HREST.out
      rw [hdrop, getOf] at he
      have HE := Lib.hid he
      clear hdrop he hx
      by_cases hsz : name.size < x.size
      · have hi0 : (0 : Int) ≤ (i : Int) := by omega
        have hi1 : (i : Int) < (n : Int) := by omega
        by_cases hpx : Lib.hasPrefix x.data.toList (name.data.toList ++ [61]) = true
        · obtain ⟨hp1, hp2⟩ := (pre_iff x name hsz).1 hpx
          have he := HE.out
          rw [if_pos hpx, Prod.mk.injEq] at he
          obtain ⟨hvx, rfl⟩ := he
          have hp4 := pre_trim x name hpx
          rw [hvx] at hp4
          have HP4 := Lib.hid hp4
          clear hp4 hvx
          go_wp2_with fail
          all_goals first
            | (rename_i hz; rw [HP4.out] at hz; exfalso; simp at hz; done)
            | (exact HX.out _ _ _ _ _ _ _ _ _ _ _ _ _ _ _ _ _ _ _ _ _ _ _ _ _ _ _ _ _ _ _ _ _ _ _ _ _ _ _ _ _ _ _ _ _ _ _ _ _ _ _)
            | skip
        · have hno := fun h1 h2 => hpx ((pre_iff x name hsz).2 ⟨h1, h2⟩)
          have he := HE.out
          rw [if_neg hpx] at he
          have HE2 := Lib.hid he
          clear he
          go_wp2_with fail
          all_goals first
            | (exfalso; exact hno (by assumption) (by assumption))
            | (exact ⟨⟨i + 1, by omega, by go_num, rfl, trivial, HE2⟩, by simp [intOf]; omega⟩)
            | skip
      · have he := HE.out
        rw [if_neg (by rw [pre_short x name hsz]; decide)] at he
        have HE2 := Lib.hid he
        clear he
        go_wp2_with fail
        all_goals first
          | (exact ⟨⟨i + 1, by omega, by go_num, rfl, trivial, HE2⟩, by simp [intOf]; omega⟩)
          | skip
    · obtain rfl : i = n := by omega
      have he := HREST.out
      rw [List.drop_eq_nil_of_le (by rw [HN.out]; exact Nat.le_refl _), getOf, Prod.mk.injEq] at he
      obtain ⟨rfl, rfl⟩ := he
      go_wp2_with fail
      all_goals first
        | (exact HX.out _ _ _ _ _ _ _ _ _ _ _ _ _ _ _ _ _ _ _ _ _ _ _ _ _ _ _ _ _ _ _ _ _ _ _ _ _ _ _ _ _ _ _ _ _ _ _ _ _ _ _)
        | skip
      
end Go.Proofs.YtlncmknikjloeaaGreatDoor
end
