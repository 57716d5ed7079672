/-
  A machine that is stepped by hand tells piece after piece, and holds what it holds till its end: the law ProcSteps returns true; the card ties the listed variables.
  Conditions: what is read holds together at most 1048576 values and letters.
-/
import Derived.Test.YtlncmknikjloeaaGreatDoorV46
import Derived.Test.YtlncmknikjloeaaGreatDoorV47
import Derived.Test.YtlncmknikjloeaaGreatDoorV48
import Derived.Test.YtlncmknikjloeaaGreatDoorV44
import Derived.Test.YtlncmknikjloeaaGreatDoorV38
import Derived.Test.YtlncmknikjloeaaGreatDoorCards
import Derived.Test.YtlncmknikjloeaaGreatDoorTie
import Derived.Test.YtlncmknikjloeaaGreatDoorLaw
import Derived.Test.YtlncmknikjloeaaGreatDoorV49
import Derived.Stop.LaidErr
import Derived.LaidMore
import Derived.Lay
import Derived.Deep.DeepHandedRow
import Derived.JoinedCond

section
namespace Go.Proofs.YtlncmknikjloeaaGreatDoor
open Go.RowKit Go.Maps Go.Shelf

set_option maxRecDepth 100000 in
set_option maxHeartbeats 16000000 in
theorem steps_any (w : World) (PA EA : Option Addr) (pc n ec ne : Nat) (kz : Int) (ps : List PartIt) (env : List ByteArray) (name : ByteArray) (hn : ps.length = n) (hr : Reads w w.heap.size 1 PA n (ps.map partV)) (hpb : ∀ p ∈ ps, Bytes w w.heap.size (partV p) p.bs)
    (hbig : (ps.map (·.bs)).flatten.length ≤ 1048576) (hen : env.length = ne) (hne : ne ≤ 2097152) (hre : Reads w w.heap.size 1 EA ne (strsC env)) (hns : name.size ≤ 2097152) (hnl : n ≤ 4611686018427387904) :
    Calls Tryz.prog 3 #[.slice PA n pc, .int .i64 kz, .slice EA ne ec, .string name] w fun e w' => e = .returned (.bool true) ∧ Below w.heap.size w w' := by
  by_cases hn2 : n ≤ 200
  · have hnn : ((n : Int) ≤ 200) := by omega
    have hr1 := hr
    have HN := Lib.hid hn
    have HR := Lib.hid hr
    have HP := Lib.hid hpb
    have HBIG := Lib.hid hbig
    have HEN := Lib.hid hen
    have HRE := Lib.hid hre
    have HNE := Lib.hid hne
    have HNS := Lib.hid hns
    clear hn hr hr1 hpb hbig hen hne hre hns
    go_enter Tryz.func3, Tryz.ntmps3
    go_upto_region 5 with (first
      | (go_at_call 4; refine (awake_any w).mono ?_; rintro e w1 ⟨rfl, hb1⟩
         have hbA := hb1)
      | (go_at_call 6; refine (treeNew w1).mono ?_; rintro e w2 ⟨rfl, hT2, hb2⟩
         have hbB := below_join hbA hb2
         have hb2s : w.heap.size ≤ w2.heap.size := (Nat.le_trans hbA.size hb2.size)
         have HT2 := Lib.hid hT2
         clear hT2
         have hkn := kNew w2 (w1.heap.size + 1 + 1 + 1) (.slice none 0 0) [] ⟨none, 0, rfl, Nat.le_refl _, by decide, fun _ => rfl, Reads.none_⟩ (by decide) 4
         have HKN := Lib.hid hkn
         clear hkn)
      | (go_at_call 5; refine HKN.out.mono ?_; rintro e w3 ⟨k, fv, tm, rfl, hk, htm, hfv, hK, hb3⟩
         have hbC := below_join hbB hb3))
    obtain ⟨K0, hK0⟩ : ∃ K : KS, K = { t := w1.heap.size + 1 + 1 + 1, now := 4, fv := fv, fl := [], used := 0, last := 0, tb := tm, tn := 0, tf := fun _ => none } := ⟨_, rfl⟩
    rw [← hK0] at hK
    have HK0 := Lib.hid hK0
    have HK := Lib.hid hK
    have HBC := Lib.hid hbC
    clear hK0 hK hbC hbB hbA hb1 hb2 HKN HT2
    have hnew : ∀ W, Below w3.heap.size w3 W → Reads W W.heap.size 1 (some ⟨w3.heap.size, 0, none⟩) 2 (strsC [⟨#[115, 97, 121]⟩, ⟨#[98]⟩]) → Calls Tryz.prog 7 #[.pointer (some ⟨k, 0, none⟩), .slice (some ⟨w3.heap.size, 0, none⟩) 2 2, .slice EA ne ec, .string ⟨#[]⟩, .agg #[.int .i64 8, .int .i64 9, .int .i64 10]] W fun e w' => ∃ p tb all J, e = .returned (.pointer (some ⟨p, 0, none⟩)) ∧ W.heap.size ≤ p ∧ W.heap.size ≤ tb ∧
        ProcOf w' p J ∧ TableOf w' tb k (fun _ => .nilIface) ∧ Below W.heap.size W w' ∧ (∀ b, J.av.ownBlock = some b → W.heap.size ≤ b) ∧ (∀ b, J.ev.ownBlock = some b → W.heap.size ≤ b) ∧ J.all = all ∧
        (J.k = k ∧ J.tb = tb ∧ J.lv = .slice none 0 0 ∧ J.log = [] ∧ J.at_ = 0 ∧ J.may = false ∧ J.top = false ∧ J.steps = 0 ∧ J.held = 0 ∧ J.peak = 0) ∧ J.args.length = 2 ∧ J.env = env ∧ J.cwd = ⟨#[]⟩ ∧ (J.buf = 8 ∧ J.line = 9 ∧ J.run = 10) := fun W hW hR => by
      have hwW : Below w.heap.size w W := below_join HBC.out hW
      rw [← HEN.out]
      refine (procNew W k (some ⟨w3.heap.size, 0, none⟩) EA 2 ec [⟨#[115, 97, 121]⟩, ⟨#[98]⟩] env ⟨#[]⟩ 8 9 10 hR (by rw [HEN.out]; exact (HRE.out.below hwW).more hwW.size) (by decide) (by rw [HEN.out]; exact HNE.out)).mono ?_
      rintro e w' ⟨p, tb, av, ev, all, rfl, h1, h2, h3, h4, h5, h6, h7, h8, h9⟩
      exact ⟨p, tb, all, _, rfl, h1, h2, h3, h5, h6, h7, h8, rfl, ⟨rfl, rfl, rfl, rfl, rfl, rfl, rfl, rfl, rfl, rfl⟩, rfl, rfl, rfl, rfl, rfl, rfl⟩
    have HNEW := Lib.hid hnew
    clear hnew
    go_upto_region 11 with (first
      | (go_at_call 8; refine (lim_any _).mono ?_; rintro e w4 ⟨rfl, hl4⟩
         have b34 : Below w3.heap.size w3 w4 := below_join (below_one w3 _) hl4
         have rA : Reads w4 w4.heap.size 1 (some ⟨w3.heap.size, 0, none⟩) 2 (strsC [⟨#[115, 97, 121]⟩, ⟨#[98]⟩]) := (by
           refine (Reads.below (reads_blk (Blk.new w3 _ _) rfl rfl) hl4).more hl4.size))
      | (go_at_call 7; refine (HNEW.out w4 b34 rA).mono ?_; rintro e w5 ⟨p, tb, all, J, rfl, hp0, htb0, hP, hTb, hb5, hav, hev, hall, hJ, hj1, hj2, hj3, hj4⟩
         have hK4 := HK.out.below b34
         have HS1 := Lib.hid (kSink1 w5 k K0 0 (hK4.below hb5) (by rw [HK0.out]) (by rw [HK0.out]) (by decide)))
      | (go_at_call 9; refine HS1.out.mono ?_; rintro e w6 ⟨K1, rfl, hS6, hK6, hT6, hA6⟩
         obtain ⟨hP6, hTb6⟩ := say_mid hK4 hP hTb hp0 htb0 hav hev hJ.2.2.1 hT6
         have hpt := procTable w6 p J hP6
         rw [hJ.2.1] at hpt
         have HPUT := Lib.hid (kPut w6 tb k K1 (fun _ => .nilIface) hK6 hTb6 1 (by decide) rfl 1 (by omega) _ _ hA6.tf (fun W => as_sink_file _ W) (fun w' => w' = w6) (takenSink w6 k w5.heap.size) (fun _ e => by rw [e])))
      | (go_at_call 11; refine HPUT.out.mono ?_; rintro e w7 ⟨rfl, w6', h6, hw7⟩; obtain rfl : w6 = w6' := h6.symm)
      | (go_at_call 10; refine hpt.mono ?_; rintro e w6' ⟨rfl, h6⟩; obtain rfl : w6 = w6' := h6.symm))
    obtain ⟨V, hV⟩ : ∃ V, w6.setCell ⟨tb, 2, none⟩ (.iface 91 (.pointer (some ⟨w5.heap.size, 0, none⟩))) = V := ⟨_, rfl⟩
    have hw7' : V = w6.setCell ⟨tb, 1 + 1, none⟩ (sinkV w5.heap.size) := hV.symm
    rw [hV]
    obtain ⟨g, hg⟩ : ∃ g, V.heap.size = g := ⟨_, rfl⟩
    have hg6 : w6.heap.size = g := by rw [← hg, ← hV, World.size_setCell]
    rw [hg6]
    have hB4 : Below w.heap.size w w4 := below_join HBC.out b34
    have hb23 : w.heap.size ≤ w2.heap.size := by
      have h1 := hb2s
      omega
    obtain ⟨hSAY, hFOOT, hB57⟩ := say_start (B := w.heap.size) hK4 hP hTb hp0 htb0 hav hev hJ hS6 hK6 hA6 hT6 hw7' (by rw [HK0.out]; rfl) hb5.size hB4.size (by
      intro b hb
      simp only [KS.foot, HK0.out, List.mem_append, List.mem_cons, List.not_mem_nil, or_false, Option.mem_toList] at hb
      rcases hb with (rfl | rfl) | hb
      · omega
      · omega
      · have := hfv b hb; omega)
    have htf : K1.tf (numK 1) = some (sinkV w5.heap.size) := hA6.tf
    obtain ⟨X, hX⟩ : ∃ X : Say, ⟨p, J, K1, w5.heap.size⟩ = X := ⟨_, rfl⟩
    have hXp : X.p = p := by rw [← hX]
    have hXk : X.B.k = k := by rw [← hX]; exact hJ.1
    have hXf : X.K.tf (numK 1) = some (sinkV X.sink) := by rw [← hX]; exact htf
    have hXB : X.B.args.length = 2 ∧ X.B.env = env ∧ X.B.cwd = ⟨#[]⟩ ∧ (X.B.buf = 8 ∧ X.B.line = 9 ∧ X.B.run = 10) := by rw [← hX]; exact ⟨hj1, hj2, hj3, hj4⟩
    rw [hX] at hSAY hFOOT
    have hBV : Below w.heap.size w V := (hB4.trans (hb5.mono hB4.size)).trans hB57
    have hRV := (HR.out.below hBV).more hBV.size
    rw [hg] at hRV
    have SAY := Lib.hid hSAY
    have FOOT := Lib.hid hFOOT
    have XF := Lib.hid hXf
    have XB := Lib.hid hXB
    have BV := Lib.hid hBV
    rw [← hXk, ← hXp]
    clear hXk hXp hSAY hFOOT htf hX hXf hXB hBV hB57 hb23 hB4 hw7' hV hg6 hw7 HPUT hpt hTb6 hP6 hA6 hT6 hK6 hS6 HS1 hK4 hJ hj1 hj2 hj3 hj4 hall hev hav hb5 hTb hP hp0 htb0 rA b34 hl4 HNEW HBC HK HK0 hb3 hfv htm hk
    go_wp2_with fail
    refine steps_l1 V (V.alloc (.cells #[.int .i64 4, .int .i64 7, .slice none 0 0] 41)) g PA pc n ps HN.out hn2 hRV hg (by rw [← hg]; exact below_one V _) g ⟨rfl, .inr ⟨g, 1, _, rfl, Nat.le_refl _, by rw [← hg]; exact Blk.new V _ _, Nat.le_refl _, by decide, rfl, rfl⟩⟩ ?_
    intro x55 x56 x57 x58 x59 x60 x61 x62 x63 x64 x65 x66 x67 x68 v w8 hb8 hown8
    have hb8' : Below V.heap.size V w8 := by rw [hg]; exact hb8
    obtain ⟨A8, c8, rfl, _, _, _⟩ := own_slice hown8
    obtain ⟨n8, hn8⟩ : ∃ n8, n + 1 = n8 := ⟨_, rfl⟩
    dsimp only
    have hg8 : g ≤ w8.heap.size := by rw [← hg]; exact hb8'.size
    have hBW8 : Below w.heap.size w w8 := below_join BV.out hb8'
    have HACT := Lib.hid (acts_l2 w w8 w.heap.size g n X ps (SAY.out.below hb8') FOOT.out hBW8 hBW8.size HN.out hn2 HBIG.out _ hown8 (fun p hp => ((HP.out p hp).below hBW8).more hBW8.size))
    rw [hn8] at HACT ⊢
    clear hown8 hb8 hb8' hBW8 hg8 SAY FOOT hRV
    simp only [Exit.inBlock, Exit.then, ↓reduceIte]
    go_upto_region 20 with (first
      | (go_at_call 12; refine HACT.out.mono ?_; rintro e w9 ⟨m, S0, rfl, hL2⟩
         have HL2 := Lib.hid hL2
         clear hL2))
    go_wp2_with fail
    refine steps_l2 w w9 w.heap.size m w9.heap.size PA pc n kz ps HN.out hn2 HR.out HP.out HBIG.out rfl X S0 XF.out HL2.out ?_ ?_
    case refine_2 =>
      intro z15 z18 z19 z20 z78 z79 z80 z81 z82 z83 z84 z85 z86 z87 z88 z89 z90 z91 z92 z93 z94 z95 z96 z97 z98 z99 z100 z101 z102 z103 z104 z105 z106 z107 z108 z109 z110 z111 z112 z113 z114 z115 z116 z117 z118 z119 z120 z121 z122 z123 z124 z125 z126 z127 z128 z129 z130 z131 z132 z133 z134 z135 z136 z137 z138 z139 z140 z141 z142 z143 z144 z145 z146 z147 z148 z149 z150 z151 z152 z153 z154 z155 z156 z157 z158 z159 z160 w1 hb1
      dsimp only
      go_wp2_with fail
      go_returns
      exact ⟨rfl, hb1⟩
    case refine_1 =>
      intro y8 y20 y78 y79 y80 y81 y82 y83 y84 y85 y86 y87 y88 y89 y90 y91 y92 y93 y94 y95 y96 y97 y98 y99 y100 y101 y102 y103 y104 y105 y106 y107 y108 y109 y110 y111 y112 y113 y114 y115 y116 y117 y118 y119 y120 y121 y122 y123 y124 y125 y126 y127 y128 y129 y130 y131 y132 y133 y134 y135 y136 y137 y138 y139 y140 y141 y142 y143 y144 y145 y146 y147 y148 y149 y150 y151 y152 y153 y154 y155 y156 y157 y158 y159 y160 QA qc q S c wA hc hL
      dsimp only
      have hcn : c = (Pl.pieces (ps.map (·.bs))).length := by rw [hc, Pl.cnt_all _ _ (by simp [HN.out])]
      obtain ⟨f, hA⟩ : ∃ f, Asked wA m f 0 X S := by
        rcases hL.is_ with h1 | h1
        · exfalso
          have := h1.1
          rw [← hc] at this
          omega
        · obtain ⟨_, _, f, h2, _⟩ := h1
          exact ⟨f, h2⟩
      have hst : S.steps = c := by
        have := hL.plan.steps
        rw [← hc] at this
        omega
      have hpk : S.peak = 7 := hL.plan.peak.2.2 rfl
      have hwn : Reads wA wA.heap.size 1 QA q (bytesC S.said) := by
        obtain ⟨_, _, e, _, _, h⟩ := own_slice hL.want
        cases e
        exact h
      have hqs : q ≤ 140737488355000 := by
        rw [← hL.len, hL.said, List.take_of_length_le (by simp [HN.out])]
        have := HBIG.out
        omega
      have hbA := hL.below
      have hsd := stepDone wA m X.p f 0 hA.mach
      have hkd := killDone wA m X.p f 0 hA.mach
      have hget := procGet wA X.p _ hA.over.proc (by rw [show ((X.J S).over).env = env from XB.out.2.1, HEN.out]; exact HNE.out) name HNS.out
      rw [show ((X.J S).over).env = env from XB.out.2.1] at hget
      obtain ⟨v, is, hv⟩ : ∃ v is, getOf (name.data.toList ++ [61]) env = (v, is) := ⟨_, _, rfl⟩
      rw [hv] at hget
      have HA := Lib.hid hA
      have HV := Lib.hid hv
      have HL := Lib.hid hL
      have HST := Lib.hid hst
      have HPK := Lib.hid hpk
      have HWN := Lib.hid hwn
      have HQS := Lib.hid hqs
      have HBA := Lib.hid hbA
      clear hcn hA hv hL hst hpk hwn hqs hbA hc
      go_upto_region 36 with (first
        | (go_at_call 18; refine hsd.mono ?_; rintro e w' ⟨rfl, hw'⟩; obtain rfl : wA = w' := hw'.symm)
        | (go_at_call 17; refine hkd.mono ?_; rintro e w' ⟨rfl, hw'⟩; obtain rfl : wA = w' := hw'.symm)
        | (go_at_call 20; refine hget.mono ?_; rintro e w' ⟨rfl, hw'⟩; obtain rfl : wA = w' := hw'.symm))
      go_wp2_with fail
      refine steps_l3 wA w.heap.size EA ec ne env HEN.out HNE.out (HRE.out.below HBA.out) name v is HV.out HNS.out ?_
      intro a8 a24 a171 a172 a173 a174 a175 a176 a177 a178 a179 a180 a181 a182 a183 a184 a185 a186 a187 a188 a189 a190 a191 a192 a193 a194 a195 a196 a197 a198 a199 a200 a201 a202 a203 a204 a205 a206 a207 a208 a209 a210 a211 a212 a213 a214 a215 a216 a217 a218 a219
      dsimp only
      go_wp2_with fail
      refine steps_r43 wA m X S f HA.out XF.out QA qc q HL.out.len HQS.out HWN.out EA ec ne c (by rw [XB.out.2.1]; exact HEN.out) HNE.out XB.out.1 XB.out.2.2.1 XB.out.2.2.2 HST.out HPK.out ?_
      intro b220 b221 b222 b223 b224 b225 b226 b227 b228 b229 b230 b231 b232 b233 b234 b235 b236 b237 b238 b239 b240 b241 b242 b243 b244 b245 b246 b247 b248 b249 b250 b251 b252 b253 b254 b255 b256 b257 b258 b259 b260 b261 b262 b263 b264 b265 b266 b267 b268 b269 b270 b271 b272 b273 b274 b275 b276 b277 b278 b279 b280 b281 b282 b283 b284 b285 b286 b287 b288 b289 b290 b291 b292 b293 b294 b295 b296 wB hbB
      dsimp only
      go_wp2_with fail
      go_returns
      exact ⟨rfl, below_join HBA.out hbB⟩
  · have hnn : ¬ ((n : Int) ≤ 200) := by omega
    clear hr hpb hbig hre
    go_enter Tryz.func3, Tryz.ntmps3
    go_wp2_with (first
      | (go_at_call 4; refine (awake_any w).mono ?_; rintro e w1 ⟨rfl, hb1⟩
         have hbA := hb1)
      | (go_at_call 6; refine (treeNew w1).mono ?_; rintro e w2 ⟨rfl, hT2, hb2⟩
         have hbB := below_join hbA hb2
         have HKN := Lib.hid (kNew w2 (w1.heap.size + 1 + 1 + 1) (.slice none 0 0) [] ⟨none, 0, rfl, Nat.le_refl _, by decide, fun _ => rfl, Reads.none_⟩ (by decide) 4))
      | (go_at_call 5; refine HKN.out.mono ?_; rintro e w3 ⟨k, fv, tm, rfl, hk, htm, hfv, hK, hb3⟩
         have hbC := below_join hbB hb3))
    go_returns
    exact ⟨rfl, hbC⟩

end Go.Proofs.YtlncmknikjloeaaGreatDoor
end

section
namespace Go.Proofs.YtlncmknikjloeaaGreatDoor.procSteps
open Go.ChangeShapes Go.WideShapes Go.ChangeAt Go.RowKit
open Go.ChangeMaps (open_string shut_string)

/-- the witness -/
theorem witness_row_shaped {H : Type} {enc : TypeId × Value → H} {C : Checked} {os : Os} {f : FuncId} {fn : Func} {s : OpenSpec} {conds : List PathCond} {apart : Bool} {laid : List (String × DataW Unit)} (w0 : World) (args : Array Value) (hos : w0.os = os)
    (hsh : (w0.forCall (fun _ _ => 0) ⟨#[], args, []⟩).Shaped C.prog)
    (hok : Input.okWideB C.prog (w0.forCall (fun _ _ => 0) ⟨#[], args, []⟩) f ⟨#[], args, []⟩ = true)
    (hrow : s.preRow enc C.prog fn conds apart laid (w0.forCall (fun _ _ => 0) ⟨#[], args, []⟩).memory args) :
    ∃ (w : World) (tape : Tape) (i : Input), w.os = os ∧ (w.forCall tape i).Shaped C.prog ∧ i.vars = [] ∧ Input.okWide C.prog (w.forCall tape i) .any w.heap.size f i ∧
      s.preRow enc C.prog fn conds apart laid (w.forCall tape i).memory i.args ∧ ({} : Assume).holds C.prog (lone (Frame.enter C.prog f i.args .normal) [] (w.forCall tape i)) :=
  ⟨w0, fun _ _ => 0, ⟨#[], args, []⟩, hos, hsh, (Input.okWide_of_okWideB (base := 0) hok).1, (Input.okWide_of_okWideB hok).2, hrow, by
    simp only [Assume.holds]
    exact ⟨by simp, by simp, fun _ => Modest.zero, by simp, by simp⟩⟩

theorem bulk_len {H : Type} (l : List ByteArray) : l.length ≤ Rows.uptoBulkAll (strs (H := H) l) := by
  induction l with
  | nil => simp
  | cons s l ih =>
    have h : Rows.uptoBulkAll (strs (H := H) (s :: l)) = Rows.uptoBulk (DataW.lit (H := H) (.string s.data.toList)) + Rows.uptoBulkAll (strs (H := H) l) := by simp [strs, Rows.uptoBulkAll]
    rw [h, bulk_string, List.length_cons]
    omega

theorem cellsStr : Tryz.prog.cellsOf 9 = 1 := by kernel_rfl
theorem paramsOk : ∀ t ∈ Tryz.f3.params.toList, Tryz.prog.readableRec t = true ∧ t < Tryz.prog.types.size := by
  intro t ht
  rw [Tryz.params3] at ht
  simp at ht
  rcases ht with rfl | rfl | rfl | rfl <;> exact ⟨by kernel_rfl, of_decide_eq_true (by kernel_rfl)⟩

set_option maxRecDepth 100000 in
theorem contract (H : Type) (enc : TypeId × Value → H) (W : World) (base : Nat) (args : Array Value) (ds gs : List (DataW H)) (before : List MemPlace)
    (hval : ∀ (j : Nat) t v, Tryz.f3.params[j]? = some t → args[j]? = some v → Value.okWide Tryz.prog W .any base t v)
    (hW : DataW.Whole enc Tryz.prog Tryz.f3.params.toList Rows.procStepsSpec.vars false W args.toList ds gs before)
    (hk : Rows.uptoSmall H (ds ++ gs) = true) :
    Calls Tryz.prog 3 args W fun e W' => ∃ v, e = .returned v ∧ Rows.procStepsSpec.post enc Tryz.prog Tryz.f3 false true false false W args v W' := by
  have hW' := hW
  obtain ⟨p, q, hA0, hV, rfl, hfz, hnd⟩ := hW
  have hA : DataW.TrodAll enc Tryz.prog W 0 (fun _ => true) true Tryz.f3.params.toList args.toList ds p := hA0
  rw [Tryz.params3] at hA hval
  obtain ⟨v0, vs0, d0, ds0, p0, q0, hargs, rfl, rfl, h0, r0⟩ := trodAll_cons hA
  obtain ⟨v1, vs1, d1, ds1, p1, q1, rfl, rfl, rfl, h1, r1⟩ := trodAll_cons r0
  obtain ⟨v2, vs2, d2, ds2, p2, q2, rfl, rfl, rfl, h2, r2⟩ := trodAll_cons r1
  obtain ⟨v3, vs3, d3, ds3, p3, q3, rfl, rfl, rfl, h3, r3⟩ := trodAll_cons r2
  obtain ⟨rfl, rfl, rfl⟩ := trodAll_nil r3
  obtain rfl : args = #[v0, v1, v2, v3] := by cases args; simp_all
  obtain ⟨rfl, rfl⟩ := trodVars_none hV
  obtain ⟨kz, rfl, rfl, rfl, _⟩ := open_int Tryz.underlying3 (hval 1 3 v1 rfl rfl) h1
  obtain ⟨name, rfl, rfl, rfl, _⟩ := open_string Tryz.underlying9 (hval 3 9 v3 rfl rfl) h3
  obtain ⟨a0, len, cap, rfl⟩ := okWide_slice Tryz.underlying22 (hval 0 22 v0 rfl rfl)
  obtain ⟨a2, len2, cap2, rfl⟩ := okWide_slice Tryz.underlying23 (hval 2 23 v2 rfl rfl)
  have fin : ∀ (e : Ending) (W1 : World), e = .returned (.bool true) ∧ Below W.heap.size W W1 → ∃ v, e = .returned v ∧ Rows.procStepsSpec.post enc Tryz.prog Tryz.f3 false true false false W #[.slice a0 len cap, .int .i64 kz, .slice a2 len2 cap2, .string name] v W1 :=
    fun e W1 ⟨he, hb⟩ => ⟨_, he, post_true Tryz.laidOut hW' rfl rfl rfl rfl rfl rfl Tryz.underlying4 paramsOk hb⟩
  have hbulk := bulk_bound hk
  simp only [List.append_nil, Rows.uptoBulkAll, bulk_string] at hbulk
  obtain ⟨fuel, hf⟩ := h0
  obtain ⟨ps, hn, hr, hpb, hsum, hbig⟩ := read_parts (a0 := a0) (len := len) (cap := cap) hf (by simp [Value.cells])
  obtain ⟨fuel2, hf2⟩ := h2
  clear hA0 hW' hk hA
  rcases open_strings Tryz.underlying23 Tryz.underlying9 cellsStr hf2 with ⟨hcs, hx⟩ | ⟨a, len', cap', ss, hcs, _, hl, hm, hz, hx, hcell, hws⟩
  · simp [Value.cells] at hcs
    obtain ⟨rfl, rfl, rfl⟩ := hcs
    exact (steps_any W a0 none cap len 0 0 kz ps [] name hn hr hpb (by omega) rfl (by decide) Reads.none_ (by omega) (by omega)).mono fin
  · simp [Value.cells] at hcs
    obtain ⟨rfl, rfl, rfl⟩ := hcs
    simp only [Prod.mk.injEq] at hx
    obtain ⟨rfl, rfl⟩ := hx
    simp only [if_true] at hz
    have hle := bulk_len (H := H) (ss.take len2)
    simp only [Rows.uptoBulk, List.length_take] at hbulk hle
    have hlen : (ss.take len2).length = len2 := by rw [List.length_take]; omega
    have hre : Reads W W.heap.size 1 (some a) len2 (strsC (ss.take len2)) := by
      refine ⟨by simp only [strsC, List.length_map, hlen, Nat.mul_one], fun hn => ⟨a, rfl, ?_, fun j u hu => ?_⟩⟩
      · have h := World.block_lt_of_cell? W _ (hcell 0 (by omega))
        rwa [block_of_add] at h
      · simp only [strsC, List.getElem?_map] at hu
        obtain ⟨t, ht, rfl⟩ := Option.map_eq_some_iff.1 hu
        have hj : j < len2 := by
          have := (List.getElem?_eq_some_iff.1 ht).1
          omega
        rw [hcell j (by omega), List.getD_eq_getElem?_getD]
        rw [List.getElem?_take, if_pos hj] at ht
        rw [ht]; rfl
    exact (steps_any W a0 (some a) cap len cap2 len2 kz ps (ss.take len2) name hn hr hpb (by omega) hlen (by omega) hre (by omega) (by omega)).mono fin

def witArgs : Array Value := #[.slice none 0 0, .int .i64 0, .slice none 0 0, .string ⟨#[]⟩]
theorem reads (os : Os) {H : Type} (enc : TypeId × Value → H) : ∃ places, DataW.whole enc Tryz.prog ((World.laidAll Tryz.prog os Rows.procStepsUptoRow.laid).forCall (fun _ _ => 0) ⟨#[], witArgs, []⟩).memory Tryz.f3.params.toList Rows.procStepsSpec.vars false witArgs.toList 8 = some ([.nil, .lit (.int .i64 0), .nil, .lit (.string [])], [], places) :=
  ⟨[], by kernel_rfl⟩

set_option maxRecDepth 100000 in
theorem lifted (os : Os) (started : os.Started) (H : Type) (enc : TypeId × Value → H) (F : Stop.Interp) :
    ReturnsInHanded {} Tryz.checked os 3 .any ((Rows.OpenSpec.upto Rows.procStepsSpec).preRow enc Tryz.prog Tryz.f3 Rows.procStepsUptoRow.domain false Rows.procStepsUptoRow.laid) (((Rows.OpenSpec.upto Rows.procStepsSpec).at F).post enc Tryz.prog Tryz.f3 false true false false) := by
  obtain ⟨places, hx⟩ := reads os enc
  refine returnsInHanded_of_row (C := Tryz.checked) (s := Rows.OpenSpec.upto Rows.procStepsSpec) Tryz.own started (by kernel_rfl) Tryz.func3
    (witness_row_shaped (enc := enc) (C := Tryz.checked) (World.laidAll Tryz.prog os Rows.procStepsUptoRow.laid) witArgs (World.laidAll_os _ _ _) (World.shaped_of_ZipB (by kernel_rfl) (by kernel_rfl)) (by kernel_rfl)
      (OpenSpec.preRow_of_cond 8 hx (by kernel_rfl) (fun k hk => by cases hk; kernel_rfl) (by kernel_rfl) (by rw [MakeChecks.laidMetH_plain _ _ _ (by kernel_rfl)]; exact laidMet_laidAll _ (by kernel_rfl) (by kernel_rfl)))) ?_
  intro W base args ds gs before hval hW _ hk _ _ _ _
  exact contract H enc W base args ds gs before hval hW (hk _ rfl)

theorem said : Rows.ProcStepsUptoSaid :=
  OpenClaim.holds_of_cond 3 Tryz.f3 rfl rfl rfl rfl rfl rfl rfl ⟨rfl, rfl, rfl, rfl, rfl⟩ rfl rfl rfl rfl rfl (by kernel_rfl) Tryz.func3 (by kernel_rfl)
    (of_decide_eq_true (by kernel_rfl)) (by unfold Func.isWrapper; first | (rw [if_pos (by decide +kernel)]; kernel_rfl) | (rw [if_neg (by decide +kernel)]; exact ⟨rfl, rfl⟩))
    (fun os started H enc _ F => by rw [OpenClaim.pre_eq_preRow]; exact lifted os started H enc F)

/-- no parameter wants a stand-in; the program's own looks are on -/
theorem plain (f : FuncId) (fn : Func) (hf : Tryz.pinned.checked.prog.funcNamed "toolchest/toolchestlaw04.ProcSteps" = some f) (hfn : Tryz.pinned.checked.prog.funcs[f]? = some fn) :
    true = Tryz.pinned.checked.prog.looks [] ∧ ∀ (j : Nat) t, fn.params[j]? = some t → Tryz.pinned.checked.prog.wantsStandIn t = false := by
  obtain rfl : f = 3 := Option.some.inj ((show Tryz.prog.funcNamed "toolchest/toolchestlaw04.ProcSteps" = some 3 by kernel_rfl).symm.trans hf) |>.symm
  obtain rfl : fn = Tryz.f3 := (Option.some.inj (Tryz.func3.symm.trans hfn)).symm
  refine ⟨by kernel_rfl, fun j t ht => ?_⟩
  have hm : t ∈ Tryz.f3.params.toList := by simpa using Array.mem_of_getElem? ht
  have hall : (Tryz.f3.params.toList.all fun u => !Tryz.prog.wantsStandIn u) = true := by kernel_rfl
  exact (show Tryz.prog.wantsStandIn t = false by simpa using List.all_eq_true.1 hall t hm)

theorem proved : Rows.ProcStepsUptoCardSaid :=
  Claim7.holds_tied_plain_at .later [] _ _ _ _ said (fun _ h => by cases h) (by kernel_rfl) (fun _ h => by cases h) procStepsUpto_row_tie rfl ⟨rfl, rfl⟩ (by kernel_rfl) rfl plain (by kernel_rfl)
#print axioms proved
end Go.Proofs.YtlncmknikjloeaaGreatDoor.procSteps
end
