/-
  What Range, Changes and Unit return for one variable, in the walk of VariableSteps: a block of its own.
-/
import Derived.Test.YtfcpnggdpaeldaaGa
import Derived.Test.YtfcpnggdpaeldaaProg
import Derived.BigQuiet
import Derived.Deep.QuietTactic
import Derived.Deep.LoopGhost
import Derived.Shelf.Abstract
import Derived.Test.YtfcpnggdpaeldaaStpM
import Derived.Test.YtfcpnggdpaeldaaBlk
import Derived.Test.YtfcpnggdpaeldaaGk
import Derived.Deep.DeepCutAuto
namespace Go.Proofs.Ytfcpnggdpaeldaa
open Go.RowKit
set_option linter.unusedVariables false

theorem enters_11 : ∀ args w, (callFunc 11 args).run Try.prog w = .ok (.enter 11 args) w := enters_of Try.func11 (by kernel_rfl) rfl
theorem enters_12 : ∀ args w, (callFunc 12 args).run Try.prog w = .ok (.enter 12 args) w := enters_of Try.func12 (by kernel_rfl) rfl
theorem enters_13 : ∀ args w, (callFunc 13 args).run Try.prog w = .ok (.enter 13 args) w := enters_of Try.func13 (by kernel_rfl) rfl

set_option maxHeartbeats 16000000 in
set_option maxRecDepth 100000 in
theorem stp_last (c : Code) (hc : Try.f4.body.bind (blkOf 9) = some c) (w w4 : World) (t : Tr) (q i nv ne G H D tn tc : Nat) (ta va a5 a8 a9 : Option Addr) (vc c5 c8 c9 : Nat) (Q : Act → World → Prop) (wr : World)
    (y0 y3 y4 y5 y6 y12 y13 y14 y15 y16 y17 y18 y19 y20 y21 y22 y23 y24 y25 y26 y27 y28 y29 y30 y31 y32 y33 y34 y35 y36 y37 y38 y39 y40 y41 y42 y43 y44 y45 y46 y47 y48 y49 y50 y51 y52 y53 y54 y55 y56 y57 y58 y59 y60 y61 y62 y63 y64 y65 y66 y67 y68 y69 y70 y71 y72 y73 y74 y75 y76 y77 y78 y79 y80 y81 y82 y83 y84 y85 y86 y87 y88 y89 y90 y91 y92 y93 y94 y95 y96 y97 y98 y99 y100 y101 y102 y103 y104 y105 y106 y107 y108 y109 y110 y111 y112 y113 y114 y115 y116 y117 y118 y119 y120 y121 y122 y123 y124 y125 y126 y127 y128 y129 y130 y131 y132 y133 y134 y135 y136 y137 y138 y139 y140 y141 y142 y143 y144 y145 y146 y147 y148 y149 y150 y151 y152 y153 y154 y155 y156 y157 y158 y159 y160 y161 y162 y163 y164 y165 y166 y167 y168 y169 y170 y171 y172 y173 y174 y175 y176 y177 y178 y179 y180 y181 y182 y183 y184 y185 y186 y187 y188 y189 y190 y191 y192 y193 y194 y195 y196 y197 y198 y199 y200 y201 y202 y203 y204 y205 y206 y207 y208 y209 y210 y211 y212 y213 y214 y215 y216 y217 y218 y219 y220 y221 y222 y223 y224 y225 y226 y227 y229 y230 y231 y232 y233 y234 y235 y236 y237 y238 y239 y240 y241 y242 y243 y244 y245 y246 y247 y248 y249 y250 y251 y252 y253 y254 y255 y256 y257 y258 y259 y260 y261 y262 y263 y264 y265 y266 y267 y268 y269 y270 y271 y272 y273 y274 y275 y276 y277 y278 y279 y280 y281 y282 y283 y284 y285 y286 y287 y288 y289 y290 y291 y292 y293 y294 y295 y296 y297 y298 y299 y300 y301 y302 y303 y304 y305 y306 y307 y308 : Value)
    (hv : validT t = true) (hq : q < t.length) (hn : t[q]!.vars.length = nv) (hne : t[q]!.events.length = ne) (hi : i < nv) (hnv : nv ≤ 1000000) (hne8 : ne ≤ 1000000) (hE : Ext w4 wr)
    (hT : ∀ W, Ext w4 W → TrAt W (.slice ta tn tc) t) (hbox : w4.cell? ⟨D, 0, none⟩ = some (.slice ta tn tc)) (hV : Sl RVr 2 w4 (.slice va nv vc) t[q]!.vars)
    (hS : StV w4 t q ne 0 0 0 0 [] (.slice a5 nv c5) (.slice a8 nv c8) (.slice a9 nv c9) (.slice none 0 0) (.slice (some ⟨G, 0, none⟩) nv nv) (.slice (some ⟨H, 0, none⟩) nv nv) wr)
    (hQ : ∀ (x21 x22 x23 x24 x25 x26 x27 x28 x230 x231 x232 x233 x234 x235 x236 x237 x238 x239 x240 x241 x242 x243 x244 x245 x246 x247 x248 x249 x250 x251 x252 x253 x254 x255 x256 x257 x258 x259 x260 x261 x262 x263 x264 x265 x266 x267 x268 x269 x270 x271 x272 x273 x274 x275 x276 x277 x278 x279 x280 x281 x282 x283 x284 x285 x286 x287 x288 x289 x290 x291 x292 x293 x294 x295 x296 x297 x298 x299 x300 x301 x302 x303 x304 x305 x306 x307 : Value) W, Ext wr W →
      Q { tmps := #[y0, .int .i64 (q : Int), .pointer (some ⟨D, 0, none⟩), y3, y4, y5, y6, .slice va nv vc, .slice a8 nv c8, .slice a9 nv c9, .slice (some ⟨G, 0, none⟩) nv nv, .slice (some ⟨H, 0, none⟩) nv nv, y12, y13, y14, y15, y16, y17, y18, y19, y20, x21, x22, x23, x24, x25, x26, x27, x28, y29, y30, y31, y32, y33, y34, y35, y36, y37, y38, y39, y40, y41, y42, y43, y44, y45, y46, y47, y48, y49, y50, y51, y52, y53, y54, y55, y56, y57, y58, y59, y60, y61, y62, y63, y64, y65, y66, y67, y68, y69, y70, y71, y72, y73, y74, y75, y76, y77, y78, y79, y80, y81, y82, y83, y84, y85, y86, y87, y88, y89, y90, y91, y92, y93, y94, y95, y96, y97, y98, y99, y100, y101, y102, y103, y104, y105, y106, y107, y108, y109, y110, y111, y112, y113, y114, y115, y116, y117, y118, y119, y120, y121, y122, y123, y124, y125, y126, y127, y128, y129, y130, y131, y132, y133, y134, y135, y136, y137, y138, y139, y140, y141, y142, y143, y144, y145, y146, y147, y148, y149, y150, y151, y152, y153, y154, y155, y156, y157, y158, y159, y160, y161, y162, y163, y164, y165, y166, y167, y168, y169, y170, y171, y172, y173, y174, y175, y176, y177, y178, y179, y180, y181, y182, y183, y184, y185, y186, y187, y188, y189, y190, y191, y192, y193, y194, y195, y196, y197, y198, y199, y200, y201, y202, y203, y204, y205, y206, y207, y208, y209, y210, y211, y212, y213, y214, y215, y216, y217, y218, y219, y220, y221, y222, y223, y224, y225, y226, y227, .int .i64 (i : Int), y229, x230, x231, x232, x233, x234, x235, x236, x237, x238, x239, x240, x241, x242, x243, x244, x245, x246, x247, x248, x249, x250, x251, x252, x253, x254, x255, x256, x257, x258, x259, x260, x261, x262, x263, x264, x265, x266, x267, x268, x269, x270, x271, x272, x273, x274, x275, x276, x277, x278, x279, x280, x281, x282, x283, x284, x285, x286, x287, x288, x289, x290, x291, x292, x293, x294, x295, x296, x297, x298, x299, x300, x301, x302, x303, x304, x305, x306, x307, y308], defers := [] } W) :
    c.wp Try.prog (OnlyN Q) { tmps := #[y0, .int .i64 (q : Int), .pointer (some ⟨D, 0, none⟩), y3, y4, y5, y6, .slice va nv vc, .slice a8 nv c8, .slice a9 nv c9, .slice (some ⟨G, 0, none⟩) nv nv, .slice (some ⟨H, 0, none⟩) nv nv, y12, y13, y14, y15, y16, y17, y18, y19, y20, y21, y22, y23, y24, y25, y26, y27, y28, y29, y30, y31, y32, y33, y34, y35, y36, y37, y38, y39, y40, y41, y42, y43, y44, y45, y46, y47, y48, y49, y50, y51, y52, y53, y54, y55, y56, y57, y58, y59, y60, y61, y62, y63, y64, y65, y66, y67, y68, y69, y70, y71, y72, y73, y74, y75, y76, y77, y78, y79, y80, y81, y82, y83, y84, y85, y86, y87, y88, y89, y90, y91, y92, y93, y94, y95, y96, y97, y98, y99, y100, y101, y102, y103, y104, y105, y106, y107, y108, y109, y110, y111, y112, y113, y114, y115, y116, y117, y118, y119, y120, y121, y122, y123, y124, y125, y126, y127, y128, y129, y130, y131, y132, y133, y134, y135, y136, y137, y138, y139, y140, y141, y142, y143, y144, y145, y146, y147, y148, y149, y150, y151, y152, y153, y154, y155, y156, y157, y158, y159, y160, y161, y162, y163, y164, y165, y166, y167, y168, y169, y170, y171, y172, y173, y174, y175, y176, y177, y178, y179, y180, y181, y182, y183, y184, y185, y186, y187, y188, y189, y190, y191, y192, y193, y194, y195, y196, y197, y198, y199, y200, y201, y202, y203, y204, y205, y206, y207, y208, y209, y210, y211, y212, y213, y214, y215, y216, y217, y218, y219, y220, y221, y222, y223, y224, y225, y226, y227, .int .i64 (i : Int), y229, y230, y231, y232, y233, y234, y235, y236, y237, y238, y239, y240, y241, y242, y243, y244, y245, y246, y247, y248, y249, y250, y251, y252, y253, y254, y255, y256, y257, y258, y259, y260, y261, y262, y263, y264, y265, y266, y267, y268, y269, y270, y271, y272, y273, y274, y275, y276, y277, y278, y279, y280, y281, y282, y283, y284, y285, y286, y287, y288, y289, y290, y291, y292, y293, y294, y295, y296, y297, y298, y299, y300, y301, y302, y303, y304, y305, y306, y307, y308], defers := [] } wr := by
  have HQ := Lib.hid hQ
  clear hQ
  have hlo := (valid_small hv).loose
  obtain ⟨hfe, hfi⟩ := fnd_name hv hq (i := i) (by rw [hn]; exact hi)
  obtain ⟨VB, VO, VC, hve, hlV, hVB, k0, k1⟩ := var_at hV i (by rw [hn]; exact hi)
  have HRG := Lib.hid (fun W (hW : Ext w4 W) => rangeP_calls _ t (q : Int) t[q]!.vars[i]!.name W (hT W hW) hlo)
  have HCG := Lib.hid (fun W (hW : Ext w4 W) => changesP_calls _ t (q : Int) t[q]!.vars[i]!.name W (hT W hW) hlo)
  have HUG := Lib.hid (fun W (hW : Ext w4 W) => unitP_calls _ t (q : Int) t[q]!.vars[i]!.name W (hT W hW) hlo)
  rw [hfe, hfi, if_pos rfl, if_pos rfl, Int.toNat_natCast, Int.toNat_natCast, hne] at HRG
  rw [hfe, hfi, if_pos rfl, Int.toNat_natCast, Int.toNat_natCast, hne] at HCG
  rw [hfe, hfi, if_pos rfl, Int.toNat_natCast, Int.toNat_natCast, hne] at HUG
  rw [hn] at hve
  simp only [Value.slice.injEq] at hve
  obtain ⟨rfl, hzz, rfl⟩ := hve
  have HK0 := Lib.hid k0
  have HBX := Lib.hid hbox
  have HE := Lib.hid hE
  have HS := Lib.hid hS
  have HN := Lib.hid hn
  generalize t[q]!.vars[i]!.name = nm at *
  have t0 := hE.cl hbox
  have n0 := hE.cl k0
  have hiz : (0 : Int) ≤ (i : Int) := by omega
  have hin : (i : Int) < (nv : Int) := by omega
  clear hfe hfi k0 k1 hzz hlo hv hq hn hT hV hS hbox hE hne
  conv at hc => lhs; whnf
  cases hc
  go_wp2
  have HWT := Lib.hid (HE.out.trans' (show Ext wr wr.drew from (Ext.rf wr).dr))
  refine wp_region_tail (fun w' => w'.cell? ⟨D, 0, none⟩ = some (.slice ta tn tc) ∧ w'.cell? ⟨VB, VO + i * 2, none⟩ = some (.string nm)) 14 (by kernel_rfl) ⟨(Ext.rf wr).dr.cl t0, (Ext.rf wr).dr.cl n0⟩ (fun hHeld => ?_)
  have HRT := Lib.hid (show Ext wr wr.drew from (Ext.rf wr).dr)
  generalize wr.drew = wT at *
  refine wpAnyT_take (i := 0) (d := some 232) (v := ?_) rfl rfl (by kernel_rfl) (by kernel_rfl) (by kernel_rfl) (by kernel_rfl) (fun _ _ _ h => h) (Or.inl ⟨by rfl, ?_⟩) (by assumption) ?_
  rotate_left
  · (intro w hSw; (try dsimp only at hSw); go_simp; try (with_reducible rfl))
  try simp only [Act.put]
  try simp only [List.setIfInBounds_toArray]
  try simp only [List.set_cons_zero, List.set_cons_succ]
  refine wpAnyT_take (i := 1) (d := some 233) (v := ?_) rfl rfl (by kernel_rfl) (by kernel_rfl) (by kernel_rfl) (by kernel_rfl) (fun _ _ _ h => h) (Or.inl ⟨by rfl, ?_⟩) (by assumption) ?_
  rotate_left
  · (intro w hSw; (try dsimp only at hSw); go_simp; try (with_reducible rfl))
  try simp only [Act.put]
  try simp only [List.setIfInBounds_toArray]
  try simp only [List.set_cons_zero, List.set_cons_succ]
  refine wpAnyT_take (i := 2) (d := some 234) (v := ?_) rfl rfl (by kernel_rfl) (by kernel_rfl) (by kernel_rfl) (by kernel_rfl) (fun _ _ _ h => h) (Or.inl ⟨by rfl, ?_⟩) (by assumption) ?_
  rotate_left
  · (intro w hSw; (try dsimp only at hSw); go_simp; try (with_reducible rfl))
  try simp only [Act.put]
  try simp only [List.setIfInBounds_toArray]
  try simp only [List.set_cons_zero, List.set_cons_succ]
  refine wpAnyT_take (i := 3) (d := some 235) (v := ?_) rfl rfl (by kernel_rfl) (by kernel_rfl) (by kernel_rfl) (by kernel_rfl) (fun _ _ _ h => h) (Or.inl ⟨by rfl, ?_⟩) (by assumption) ?_
  rotate_left
  · (intro w hSw; (try dsimp only at hSw); go_simp; try (with_reducible rfl))
  try simp only [Act.put]
  try simp only [List.setIfInBounds_toArray]
  try simp only [List.set_cons_zero, List.set_cons_succ]
  refine wpAnyT_take (i := 4) (d := some 236) (v := ?_) rfl rfl (by kernel_rfl) (by kernel_rfl) (by kernel_rfl) (by kernel_rfl) (fun _ _ _ h => h) (Or.inl ⟨by rfl, ?_⟩) (by assumption) ?_
  rotate_left
  · (intro w hSw; (try dsimp only at hSw); go_simp; try (with_reducible rfl))
  try simp only [Act.put]
  try simp only [List.setIfInBounds_toArray]
  try simp only [List.set_cons_zero, List.set_cons_succ]
  refine wpAnyT_take (i := 5) (d := some 237) (v := ?_) rfl rfl (by kernel_rfl) (by kernel_rfl) (by kernel_rfl) (by kernel_rfl) (fun _ _ _ h => h) (Or.inl ⟨by rfl, ?_⟩) (by assumption) ?_
  rotate_left
  · (intro w hSw; (try dsimp only at hSw); go_simp; try (with_reducible rfl))
  try simp only [Act.put]
  try simp only [List.setIfInBounds_toArray]
  try simp only [List.set_cons_zero, List.set_cons_succ]
  refine wpAnyT_take (i := 6) (d := some 238) (v := ?_) rfl rfl (by kernel_rfl) (by kernel_rfl) (by kernel_rfl) (by kernel_rfl) (fun _ _ _ h => h) (Or.inl ⟨by rfl, ?_⟩) (by assumption) ?_
  rotate_left
  · (intro w hSw; (try dsimp only at hSw); go_simp; try (with_reducible rfl))
  try simp only [Act.put]
  try simp only [List.setIfInBounds_toArray]
  try simp only [List.set_cons_zero, List.set_cons_succ]
  refine wpAnyT_step (i := 7) (by kernel_rfl) rfl (fun K hK => ?_)
  refine step_call rfl 11 _ _ rfl enters_11 [.agg #[.slice ta tn tc], .int .i64 q, .string nm] (by first | rfl | kernel_rfl | go_simp) (HRG.out _ HWT.out) ?_
  rintro e w5 ⟨rfl, hX5⟩
  refine ⟨_, rfl, ?_⟩
  have HX5 := Lib.hid (HRT.out.trans' hX5)
  have z0 := hX5.cl hHeld.1
  have z1 := hX5.cl hHeld.2
  clear hX5
  refine hK.out _ _ ?_ (fun hHeld => ?_)
  · (try dsimp only)
    exact ⟨z0, z1⟩
  clear hK K
  try simp only [Act.put]
  try simp only [List.setIfInBounds_toArray]
  try simp only [List.set_cons_zero, List.set_cons_succ]
  refine wpAnyT_take (i := 8) (d := some 231) (v := ?_) rfl rfl (by kernel_rfl) (by kernel_rfl) (by kernel_rfl) (by kernel_rfl) (fun _ _ _ h => h) (Or.inl ⟨by rfl, ?_⟩) (by assumption) ?_
  rotate_left
  · (intro w hSw; (try dsimp only at hSw); go_simp; try (with_reducible rfl))
  try simp only [Act.put]
  try simp only [List.setIfInBounds_toArray]
  try simp only [List.set_cons_zero, List.set_cons_succ]
  refine wpAnyT_take (i := 9) (d := some 240) (v := ?_) rfl rfl (by kernel_rfl) (by kernel_rfl) (by kernel_rfl) (by kernel_rfl) (fun _ _ _ h => h) (Or.inl ⟨by rfl, ?_⟩) (by assumption) ?_
  rotate_left
  · (intro w hSw; (try dsimp only at hSw); go_simp; try (with_reducible rfl))
  try simp only [Act.put]
  try simp only [List.setIfInBounds_toArray]
  try simp only [List.set_cons_zero, List.set_cons_succ]
  refine wpAnyT_take (i := 10) (d := some 241) (v := ?_) rfl rfl (by kernel_rfl) (by kernel_rfl) (by kernel_rfl) (by kernel_rfl) (fun _ _ _ h => h) (Or.inl ⟨by rfl, ?_⟩) (by assumption) ?_
  rotate_left
  · (intro w hSw; (try dsimp only at hSw); go_simp; try (with_reducible rfl))
  try simp only [Act.put]
  try simp only [List.setIfInBounds_toArray]
  try simp only [List.set_cons_zero, List.set_cons_succ]
  refine wpAnyT_take (i := 11) (d := some 242) (v := ?_) rfl rfl (by kernel_rfl) (by kernel_rfl) (by kernel_rfl) (by kernel_rfl) (fun _ _ _ h => h) (Or.inl ⟨by rfl, ?_⟩) (by assumption) ?_
  rotate_left
  · (intro w hSw; (try dsimp only at hSw); go_simp; try (with_reducible rfl))
  try simp only [Act.put]
  try simp only [List.setIfInBounds_toArray]
  try simp only [List.set_cons_zero, List.set_cons_succ]
  refine wpAnyT_take (i := 12) (d := some 22) (v := ?_) rfl rfl (by kernel_rfl) (by kernel_rfl) (by kernel_rfl) (by kernel_rfl) (fun _ _ _ h => h) (Or.inl ⟨by rfl, ?_⟩) (by assumption) ?_
  rotate_left
  · (intro w hSw; (try dsimp only at hSw); go_simp; try (with_reducible rfl))
  try simp only [Act.put]
  try simp only [List.setIfInBounds_toArray]
  try simp only [List.set_cons_zero, List.set_cons_succ]
  refine wpAnyT_take (i := 13) (d := some 23) (v := ?_) rfl rfl (by kernel_rfl) (by kernel_rfl) (by kernel_rfl) (by kernel_rfl) (fun _ _ _ h => h) (Or.inl ⟨by rfl, ?_⟩) (by assumption) ?_
  rotate_left
  · (intro w hSw; (try dsimp only at hSw); go_simp; try (with_reducible rfl))
  try simp only [Act.put]
  try simp only [List.setIfInBounds_toArray]
  try simp only [List.set_cons_zero, List.set_cons_succ]
  refine wpAnyT_last (by kernel_rfl) rfl (by kernel_rfl) (fun K hK => ?_)
  go_simp
  refine hK.out _ _ ?_
  go_wp2
  have HWT6 := Lib.hid (HE.out.trans' (HX5.out.trans' (show Ext w5 w5.drew from (Ext.rf w5).dr)))
  refine wp_region_tail (fun w' => w'.cell? ⟨D, 0, none⟩ = some (.slice ta tn tc) ∧ w'.cell? ⟨VB, VO + i * 2, none⟩ = some (.string nm)) 12 (by kernel_rfl) ⟨(Ext.rf w5).dr.cl z0, (Ext.rf w5).dr.cl z1⟩ (fun hHeld => ?_)
  have HRT6 := Lib.hid (HX5.out.trans' (show Ext w5 w5.drew from (Ext.rf w5).dr))
  generalize w5.drew = wT6 at *
  refine wpAnyT_take (i := 0) (d := some 244) (v := ?_) rfl rfl (by kernel_rfl) (by kernel_rfl) (by kernel_rfl) (by kernel_rfl) (fun _ _ _ h => h) (Or.inl ⟨by rfl, ?_⟩) (by assumption) ?_
  rotate_left
  · (intro w hSw; (try dsimp only at hSw); go_simp; try (with_reducible rfl))
  try simp only [Act.put]
  try simp only [List.setIfInBounds_toArray]
  try simp only [List.set_cons_zero, List.set_cons_succ]
  refine wpAnyT_take (i := 1) (d := some 245) (v := ?_) rfl rfl (by kernel_rfl) (by kernel_rfl) (by kernel_rfl) (by kernel_rfl) (fun _ _ _ h => h) (Or.inl ⟨by rfl, ?_⟩) (by assumption) ?_
  rotate_left
  · (intro w hSw; (try dsimp only at hSw); go_simp; try (with_reducible rfl))
  try simp only [Act.put]
  try simp only [List.setIfInBounds_toArray]
  try simp only [List.set_cons_zero, List.set_cons_succ]
  refine wpAnyT_take (i := 2) (d := some 246) (v := ?_) rfl rfl (by kernel_rfl) (by kernel_rfl) (by kernel_rfl) (by kernel_rfl) (fun _ _ _ h => h) (Or.inl ⟨by rfl, ?_⟩) (by assumption) ?_
  rotate_left
  · (intro w hSw; (try dsimp only at hSw); go_simp; try (with_reducible rfl))
  try simp only [Act.put]
  try simp only [List.setIfInBounds_toArray]
  try simp only [List.set_cons_zero, List.set_cons_succ]
  refine wpAnyT_take (i := 3) (d := some 247) (v := ?_) rfl rfl (by kernel_rfl) (by kernel_rfl) (by kernel_rfl) (by kernel_rfl) (fun _ _ _ h => h) (Or.inl ⟨by rfl, ?_⟩) (by assumption) ?_
  rotate_left
  · (intro w hSw; (try dsimp only at hSw); go_simp; try (with_reducible rfl))
  try simp only [Act.put]
  try simp only [List.setIfInBounds_toArray]
  try simp only [List.set_cons_zero, List.set_cons_succ]
  refine wpAnyT_take (i := 4) (d := some 248) (v := ?_) rfl rfl (by kernel_rfl) (by kernel_rfl) (by kernel_rfl) (by kernel_rfl) (fun _ _ _ h => h) (Or.inl ⟨by rfl, ?_⟩) (by assumption) ?_
  rotate_left
  · (intro w hSw; (try dsimp only at hSw); go_simp; try (with_reducible rfl))
  try simp only [Act.put]
  try simp only [List.setIfInBounds_toArray]
  try simp only [List.set_cons_zero, List.set_cons_succ]
  refine wpAnyT_take (i := 5) (d := some 249) (v := ?_) rfl rfl (by kernel_rfl) (by kernel_rfl) (by kernel_rfl) (by kernel_rfl) (fun _ _ _ h => h) (Or.inl ⟨by rfl, ?_⟩) (by assumption) ?_
  rotate_left
  · (intro w hSw; (try dsimp only at hSw); go_simp; try (with_reducible rfl))
  try simp only [Act.put]
  try simp only [List.setIfInBounds_toArray]
  try simp only [List.set_cons_zero, List.set_cons_succ]
  refine wpAnyT_take (i := 6) (d := some 250) (v := ?_) rfl rfl (by kernel_rfl) (by kernel_rfl) (by kernel_rfl) (by kernel_rfl) (fun _ _ _ h => h) (Or.inl ⟨by rfl, ?_⟩) (by assumption) ?_
  rotate_left
  · (intro w hSw; (try dsimp only at hSw); go_simp; try (with_reducible rfl))
  try simp only [Act.put]
  try simp only [List.setIfInBounds_toArray]
  try simp only [List.set_cons_zero, List.set_cons_succ]
  refine wpAnyT_step (i := 7) (by kernel_rfl) rfl (fun K hK => ?_)
  refine step_call rfl 12 _ _ rfl enters_12 [.agg #[.slice ta tn tc], .int .i64 q, .string nm] (by first | rfl | kernel_rfl | go_simp) (HCG.out _ HWT6.out) ?_
  rintro e w6 ⟨u6, rfl, hR6, hX6⟩
  obtain ⟨a6, c6, rfl, _⟩ := hR6.any
  have HR6 := Lib.hid hR6
  clear hR6
  refine ⟨_, rfl, ?_⟩
  have HX6 := Lib.hid (HRT6.out.trans' hX6)
  have z0 := hX6.cl hHeld.1
  have z1 := hX6.cl hHeld.2
  clear hX6
  refine hK.out _ _ ?_ (fun hHeld => ?_)
  · (try dsimp only)
    exact ⟨z0, z1⟩
  clear hK K
  try simp only [Act.put]
  try simp only [List.setIfInBounds_toArray]
  try simp only [List.set_cons_zero, List.set_cons_succ]
  refine wpAnyT_take (i := 8) (d := some 243) (v := ?_) rfl rfl (by kernel_rfl) (by kernel_rfl) (by kernel_rfl) (by kernel_rfl) (fun _ _ _ h => h) (Or.inl ⟨by rfl, ?_⟩) (by assumption) ?_
  rotate_left
  · (intro w hSw; (try dsimp only at hSw); go_simp; try (with_reducible rfl))
  try simp only [Act.put]
  try simp only [List.setIfInBounds_toArray]
  try simp only [List.set_cons_zero, List.set_cons_succ]
  refine wpAnyT_take (i := 9) (d := some 252) (v := ?_) rfl rfl (by kernel_rfl) (by kernel_rfl) (by kernel_rfl) (by kernel_rfl) (fun _ _ _ h => h) (Or.inl ⟨by rfl, ?_⟩) (by assumption) ?_
  rotate_left
  · (intro w hSw; (try dsimp only at hSw); go_simp; try (with_reducible rfl))
  try simp only [Act.put]
  try simp only [List.setIfInBounds_toArray]
  try simp only [List.set_cons_zero, List.set_cons_succ]
  refine wpAnyT_take (i := 10) (d := some 253) (v := ?_) rfl rfl (by kernel_rfl) (by kernel_rfl) (by kernel_rfl) (by kernel_rfl) (fun _ _ _ h => h) (Or.inl ⟨by rfl, ?_⟩) (by assumption) ?_
  rotate_left
  · (intro w hSw; (try dsimp only at hSw); go_simp; try (with_reducible rfl))
  try simp only [Act.put]
  try simp only [List.setIfInBounds_toArray]
  try simp only [List.set_cons_zero, List.set_cons_succ]
  refine wpAnyT_take (i := 11) (d := some 25) (v := ?_) rfl rfl (by kernel_rfl) (by kernel_rfl) (by kernel_rfl) (by kernel_rfl) (fun _ _ _ h => h) (Or.inl ⟨by rfl, ?_⟩) (by assumption) ?_
  rotate_left
  · (intro w hSw; (try dsimp only at hSw); go_simp; try (with_reducible rfl))
  try simp only [Act.put]
  try simp only [List.setIfInBounds_toArray]
  try simp only [List.set_cons_zero, List.set_cons_succ]
  refine wpAnyT_last (by kernel_rfl) rfl (by kernel_rfl) (fun K hK => ?_)
  go_simp
  refine hK.out _ _ ?_
  go_wp2
  have HWT7 := Lib.hid (HE.out.trans' (HX6.out.trans' (show Ext w6 w6.drew from (Ext.rf w6).dr)))
  refine wp_region_tail (fun w' => w'.cell? ⟨D, 0, none⟩ = some (.slice ta tn tc) ∧ w'.cell? ⟨VB, VO + i * 2, none⟩ = some (.string nm)) 12 (by kernel_rfl) ⟨(Ext.rf w6).dr.cl z0, (Ext.rf w6).dr.cl z1⟩ (fun hHeld => ?_)
  have HRT7 := Lib.hid (HX6.out.trans' (show Ext w6 w6.drew from (Ext.rf w6).dr))
  have HD7 := Lib.hid (show Ext w6 w6.drew from (Ext.rf w6).dr)
  generalize w6.drew = wT7 at *
  refine wpAnyT_take (i := 0) (d := some 255) (v := ?_) rfl rfl (by kernel_rfl) (by kernel_rfl) (by kernel_rfl) (by kernel_rfl) (fun _ _ _ h => h) (Or.inl ⟨by rfl, ?_⟩) (by assumption) ?_
  rotate_left
  · (intro w hSw; (try dsimp only at hSw); go_simp; try (with_reducible rfl))
  try simp only [Act.put]
  try simp only [List.setIfInBounds_toArray]
  try simp only [List.set_cons_zero, List.set_cons_succ]
  refine wpAnyT_take (i := 1) (d := some 256) (v := ?_) rfl rfl (by kernel_rfl) (by kernel_rfl) (by kernel_rfl) (by kernel_rfl) (fun _ _ _ h => h) (Or.inl ⟨by rfl, ?_⟩) (by assumption) ?_
  rotate_left
  · (intro w hSw; (try dsimp only at hSw); go_simp; try (with_reducible rfl))
  try simp only [Act.put]
  try simp only [List.setIfInBounds_toArray]
  try simp only [List.set_cons_zero, List.set_cons_succ]
  refine wpAnyT_take (i := 2) (d := some 257) (v := ?_) rfl rfl (by kernel_rfl) (by kernel_rfl) (by kernel_rfl) (by kernel_rfl) (fun _ _ _ h => h) (Or.inl ⟨by rfl, ?_⟩) (by assumption) ?_
  rotate_left
  · (intro w hSw; (try dsimp only at hSw); go_simp; try (with_reducible rfl))
  try simp only [Act.put]
  try simp only [List.setIfInBounds_toArray]
  try simp only [List.set_cons_zero, List.set_cons_succ]
  refine wpAnyT_take (i := 3) (d := some 258) (v := ?_) rfl rfl (by kernel_rfl) (by kernel_rfl) (by kernel_rfl) (by kernel_rfl) (fun _ _ _ h => h) (Or.inl ⟨by rfl, ?_⟩) (by assumption) ?_
  rotate_left
  · (intro w hSw; (try dsimp only at hSw); go_simp; try (with_reducible rfl))
  try simp only [Act.put]
  try simp only [List.setIfInBounds_toArray]
  try simp only [List.set_cons_zero, List.set_cons_succ]
  refine wpAnyT_take (i := 4) (d := some 259) (v := ?_) rfl rfl (by kernel_rfl) (by kernel_rfl) (by kernel_rfl) (by kernel_rfl) (fun _ _ _ h => h) (Or.inl ⟨by rfl, ?_⟩) (by assumption) ?_
  rotate_left
  · (intro w hSw; (try dsimp only at hSw); go_simp; try (with_reducible rfl))
  try simp only [Act.put]
  try simp only [List.setIfInBounds_toArray]
  try simp only [List.set_cons_zero, List.set_cons_succ]
  refine wpAnyT_take (i := 5) (d := some 260) (v := ?_) rfl rfl (by kernel_rfl) (by kernel_rfl) (by kernel_rfl) (by kernel_rfl) (fun _ _ _ h => h) (Or.inl ⟨by rfl, ?_⟩) (by assumption) ?_
  rotate_left
  · (intro w hSw; (try dsimp only at hSw); go_simp; try (with_reducible rfl))
  try simp only [Act.put]
  try simp only [List.setIfInBounds_toArray]
  try simp only [List.set_cons_zero, List.set_cons_succ]
  refine wpAnyT_take (i := 6) (d := some 261) (v := ?_) rfl rfl (by kernel_rfl) (by kernel_rfl) (by kernel_rfl) (by kernel_rfl) (fun _ _ _ h => h) (Or.inl ⟨by rfl, ?_⟩) (by assumption) ?_
  rotate_left
  · (intro w hSw; (try dsimp only at hSw); go_simp; try (with_reducible rfl))
  try simp only [Act.put]
  try simp only [List.setIfInBounds_toArray]
  try simp only [List.set_cons_zero, List.set_cons_succ]
  refine wpAnyT_step (i := 7) (by kernel_rfl) rfl (fun K hK => ?_)
  refine step_call rfl 13 _ _ rfl enters_13 [.agg #[.slice ta tn tc], .int .i64 q, .string nm] (by first | rfl | kernel_rfl | go_simp) (HUG.out _ HWT7.out) ?_
  rintro e w7 ⟨rfl, hX7⟩
  refine ⟨_, rfl, ?_⟩
  have HX7 := Lib.hid (HRT7.out.trans' hX7)
  have HY7 := Lib.hid (HD7.out.trans' hX7)
  have z0 := hX7.cl hHeld.1
  have z1 := hX7.cl hHeld.2
  clear hX7
  refine hK.out _ _ ?_ (fun hHeld => ?_)
  · (try dsimp only)
    exact ⟨z0, z1⟩
  clear hK K
  try simp only [Act.put]
  try simp only [List.setIfInBounds_toArray]
  try simp only [List.set_cons_zero, List.set_cons_succ]
  refine wpAnyT_take (i := 8) (d := some 254) (v := ?_) rfl rfl (by kernel_rfl) (by kernel_rfl) (by kernel_rfl) (by kernel_rfl) (fun _ _ _ h => h) (Or.inl ⟨by rfl, ?_⟩) (by assumption) ?_
  rotate_left
  · (intro w hSw; (try dsimp only at hSw); go_simp; try (with_reducible rfl))
  try simp only [Act.put]
  try simp only [List.setIfInBounds_toArray]
  try simp only [List.set_cons_zero, List.set_cons_succ]
  refine wpAnyT_take (i := 9) (d := some 263) (v := ?_) rfl rfl (by kernel_rfl) (by kernel_rfl) (by kernel_rfl) (by kernel_rfl) (fun _ _ _ h => h) (Or.inl ⟨by rfl, ?_⟩) (by assumption) ?_
  rotate_left
  · (intro w hSw; (try dsimp only at hSw); go_simp; try (with_reducible rfl))
  try simp only [Act.put]
  try simp only [List.setIfInBounds_toArray]
  try simp only [List.set_cons_zero, List.set_cons_succ]
  refine wpAnyT_take (i := 10) (d := some 264) (v := ?_) rfl rfl (by kernel_rfl) (by kernel_rfl) (by kernel_rfl) (by kernel_rfl) (fun _ _ _ h => h) (Or.inl ⟨by rfl, ?_⟩) (by assumption) ?_
  rotate_left
  · (intro w hSw; (try dsimp only at hSw); go_simp; try (with_reducible rfl))
  try simp only [Act.put]
  try simp only [List.setIfInBounds_toArray]
  try simp only [List.set_cons_zero, List.set_cons_succ]
  refine wpAnyT_take (i := 11) (d := some 27) (v := ?_) rfl rfl (by kernel_rfl) (by kernel_rfl) (by kernel_rfl) (by kernel_rfl) (fun _ _ _ h => h) (Or.inl ⟨by rfl, ?_⟩) (by assumption) ?_
  rotate_left
  · (intro w hSw; (try dsimp only at hSw); go_simp; try (with_reducible rfl))
  try simp only [Act.put]
  try simp only [List.setIfInBounds_toArray]
  try simp only [List.set_cons_zero, List.set_cons_succ]
  refine wpAnyT_last (by kernel_rfl) rfl (by kernel_rfl) (fun K hK => ?_)
  go_simp
  refine hK.out _ _ ?_
  have HS7 := Lib.hid (HS.out.ext HX7.out)
  obtain ⟨hs, hF, hH, hU, hE7⟩ := HS7.out
  rw [HN.out] at hH hU
  obtain ⟨g1, o1, p1, e1, _, _, c1, _, _⟩ := hF.cell (i := 1) (k := i) (by omega) (by show i < (lowM t q ne 0).length; rw [lowM, mixL_len, HN.out]; exact hi)
  obtain ⟨g2, o2, p2, e2, _, _, c2, _, _⟩ := hF.cell (i := 2) (k := i) (by omega) (by show i < (highM t q ne 0).length; rw [highM, mixL_len, HN.out]; exact hi)
  rw [show (lsS (stV t q ne) (lowM t q ne 0) (highM t q ne 0) [] (chI t q ne 0) 1) = lowM t q ne 0 from rfl, lowM, mixL_at (by rw [HN.out]; exact hi), if_neg (Nat.not_lt_zero _)] at c1
  rw [show (lsS (stV t q ne) (lowM t q ne 0) (highM t q ne 0) [] (chI t q ne 0) 2) = highM t q ne 0 from rfl, highM, mixL_at (by rw [HN.out]; exact hi), if_neg (Nat.not_lt_zero _)] at c2
  simp only [vsS, Value.slice.injEq] at e1 e2
  obtain ⟨rfl, en1, rfl⟩ := e1
  obtain ⟨rfl, en2, rfl⟩ := e2
  have hr4 := hF.ints (i := i + 4) (by rw [HN.out]; omega)
  rw [show lsS (stV t q ne) (lowM t q ne 0) (highM t q ne 0) [] (chI t q ne 0) (i + 4) = chgF (valF t q i) ne from by show chI t q ne 0 i = _; unfold chI; rw [if_neg (Nat.not_lt_zero _)], show vsS _ _ _ _ hs (i + 4) = hs i from rfl] at hr4
  have h1 := hH.cell i (by omega)
  rw [List.getElem?_map, List.getElem?_range hi, Option.map_some, Nat.zero_add] at h1
  have h2 := hU.cell i (by omega)
  rw [List.getElem?_map, unitM, mixL_get (by rw [HN.out]; exact hi), if_neg (Nat.not_lt_zero _), Option.map_some, Nat.zero_add] at h2
  have HR4 := Lib.hid hr4
  obtain ⟨a4, c4, h4, _, _⟩ := hr4
  rw [h4] at h1
  have HR4 := HR4.out
  rw [h4] at HR4
  have HR44 := Lib.hid HR4
  have hlc := chgF_len (valF t q i) ne
  have HNL : Hid ((chgF (valF t q i) ne).length ≤ 1000000) := Lib.hid (by omega)
  have HI6 := Lib.hid (HR6.out.ints.ext HY7.out)
  generalize lowF (valF t q i) ne = lo at *
  generalize highF (valF t q i) ne = hh at *
  generalize unitF (valF t q i) ne = un at *
  generalize chgF (valF t q i) ne = ch at *
  have dlo : (lo != lo) = false := by simp
  have dhh : (hh != hh) = false := by simp
  have dun : (un != un) = false := by simp
  have dch : (ch == ch) = true := by simp
  have HEQ := Lib.hid (equal_int _ _ ch ch w7 HI6.out HR44.out HNL.out HNL.out)
  clear hF hH hU hE7 hlc h4 HR4 en1 en2
  go_wp2_with fail
  refine HEQ.out.mono ?_
  rintro e w8 ⟨rfl, hX8⟩
  have h3 := hX8.cl h2
  have HX8 := Lib.hid (HX7.out.trans' hX8)
  clear hX8
  go_wp2
  exact HQ.out _ _ _ _ _ _ _ _ _ _ _ _ _ _ _ _ _ _ _ _ _ _ _ _ _ _ _ _ _ _ _ _ _ _ _ _ _ _ _ _ _ _ _ _ _ _ _ _ _ _ _ _ _ _ _ _ _ _ _ _ _ _ _ _ _ _ _ _ _ _ _ _ _ _ _ _ _ _ _ _ _ _ _ _ _ _ _ HX8.out

end Go.Proofs.Ytfcpnggdpaeldaa
