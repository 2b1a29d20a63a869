/-
  One variable of one event, in the walk of VariableSteps: a block of its own.
-/
import Derived.Test.YtfcpnggdpaeldaaGa
import Derived.Test.YtfcpnggdpaeldaaProg
import Derived.BigQuiet
import Derived.Deep.QuietTactic
import Derived.Deep.LoopGhost
import Derived.Shelf.Abstract
import Derived.Test.YtfcpnggdpaeldaaStpM
import Derived.Test.YtfcpnggdpaeldaaBlk
import Derived.Test.YtfcpnggdpaeldaaStpU0
import Derived.Test.YtfcpnggdpaeldaaStpU1
import Derived.Test.YtfcpnggdpaeldaaStpU2
import Derived.Test.YtfcpnggdpaeldaaStpU3
import Derived.Test.YtfcpnggdpaeldaaGl
import Derived.Test.YtfcpnggdpaeldaaGm
import Derived.Test.YtfcpnggdpaeldaaTails
import Derived.Deep.OwnRows
import Derived.Laws.OwnMore
import Derived.RegionTactic
import Derived.ChangeAlike
import Derived.BigRegion
import Derived.Deep.DeepCutAuto
namespace Go.Proofs.Ytfcpnggdpaeldaa
open Go.RowKit
set_option linter.unusedVariables false

set_option maxHeartbeats 16000000 in
set_option maxRecDepth 100000 in
theorem stp_round (c : Code) (hc : Try.f4.body.bind (blkOf 7) = some c) (w4 : World) (t : Tr) (q k i nv G H : Nat) (a5 a8 a9 a18 : Option Addr) (c5 c8 c9 c18 : Nat) (Q : Act → World → Prop) (wr : World)
    (y0 y1 y2 y3 y4 y6 y7 y12 y14 y15 y16 y17 y19 y20 y21 y22 y23 y24 y25 y26 y27 y28 y29 y30 y31 y32 y33 y34 y35 y36 y37 y38 y39 y40 y41 y42 y43 y44 y45 y46 y47 y48 y49 y50 y51 y52 y53 y54 y55 y56 y57 y58 y59 y60 y61 y62 y63 y64 y65 y66 y67 y68 y69 y70 y71 y72 y73 y74 y75 y76 y77 y78 y79 y80 y81 y82 y83 y84 y85 y86 y87 y88 y89 y90 y91 y92 y93 y94 y95 y96 y97 y98 y99 y100 y101 y102 y103 y104 y105 y106 y107 y108 y109 y110 y111 y112 y113 y114 y115 y116 y117 y118 y119 y120 y121 y122 y123 y124 y125 y126 y127 y128 y129 y130 y131 y132 y133 y134 y135 y136 y137 y138 y139 y140 y141 y142 y143 y144 y146 y147 y148 y149 y150 y151 y152 y153 y154 y155 y156 y157 y158 y159 y160 y161 y162 y163 y164 y165 y166 y167 y168 y169 y170 y171 y172 y173 y174 y175 y176 y177 y178 y179 y180 y181 y182 y183 y184 y185 y186 y187 y188 y189 y190 y191 y192 y193 y194 y195 y196 y197 y198 y199 y200 y201 y202 y203 y204 y205 y206 y207 y208 y209 y210 y211 y212 y213 y214 y215 y216 y217 y218 y219 y220 y221 y222 y223 y224 y225 y226 y227 y228 y229 y230 y231 y232 y233 y234 y235 y236 y237 y238 y239 y240 y241 y242 y243 y244 y245 y246 y247 y248 y249 y250 y251 y252 y253 y254 y255 y256 y257 y258 y259 y260 y261 y262 y263 y264 y265 y266 y267 y268 y269 y270 y271 y272 y273 y274 y275 y276 y277 y278 y279 y280 y281 y282 y283 y284 y285 y286 y287 y288 y289 y290 y291 y292 y293 y294 y295 y296 y297 y298 y299 y300 y301 y302 y303 y304 y305 y306 y307 y308 : Value)
    (hv : validT t = true) (hq : q < t.length) (hn : t[q]!.vars.length = nv) (hk : k < t[q]!.events.length) (hi : i < nv) (hnv : nv ≤ 1000000) (hke : k ≤ 1000000)
    (hS : StV w4 t q k i i i i (stV t q (k + 1)) (.slice a5 nv c5) (.slice a8 nv c8) (.slice a9 nv c9) (.slice a18 nv c18) (.slice (some ⟨G, 0, none⟩) nv nv) (.slice (some ⟨H, 0, none⟩) nv nv) wr)
    (hQ : ∀ (x20 x147 x148 x149 x150 x151 x152 x153 x154 x155 x156 x157 x158 x159 x160 x161 x162 x163 x164 x165 x166 x167 x168 x169 x170 x171 x172 x173 x174 x175 x176 x177 x178 x179 x180 x181 x182 x183 x184 x185 x186 x187 x188 x189 x190 x191 x192 x193 x194 x195 x196 x197 x198 x199 x200 x201 x202 x203 x204 x205 x206 x207 x208 x209 x210 x211 x212 x213 x214 x215 x216 x217 x218 x219 x220 x221 x222 : Value) W, StV w4 t q k (i + 1) (i + 1) (i + 1) (i + 1) (stV t q (k + 1)) (.slice a5 nv c5) (.slice a8 nv c8) (.slice a9 nv c9) (.slice a18 nv c18) (.slice (some ⟨G, 0, none⟩) nv nv) (.slice (some ⟨H, 0, none⟩) nv nv) W →
      Q { tmps := #[y0, y1, y2, y3, y4, .slice a5 nv c5, y6, y7, .slice a8 nv c8, .slice a9 nv c9, .slice (some ⟨G, 0, none⟩) nv nv, .slice (some ⟨H, 0, none⟩) nv nv, y12, .int .i64 (k : Int), y14, y15, y16, y17, .slice a18 nv c18, y19, x20, y21, y22, y23, y24, y25, y26, y27, y28, y29, y30, y31, y32, y33, y34, y35, y36, y37, y38, y39, y40, y41, y42, y43, y44, y45, y46, y47, y48, y49, y50, y51, y52, y53, y54, y55, y56, y57, y58, y59, y60, y61, y62, y63, y64, y65, y66, y67, y68, y69, y70, y71, y72, y73, y74, y75, y76, y77, y78, y79, y80, y81, y82, y83, y84, y85, y86, y87, y88, y89, y90, y91, y92, y93, y94, y95, y96, y97, y98, y99, y100, y101, y102, y103, y104, y105, y106, y107, y108, y109, y110, y111, y112, y113, y114, y115, y116, y117, y118, y119, y120, y121, y122, y123, y124, y125, y126, y127, y128, y129, y130, y131, y132, y133, y134, y135, y136, y137, y138, y139, y140, y141, y142, y143, y144, .int .i64 (i : Int), y146, x147, x148, x149, x150, x151, x152, x153, x154, x155, x156, x157, x158, x159, x160, x161, x162, x163, x164, x165, x166, x167, x168, x169, x170, x171, x172, x173, x174, x175, x176, x177, x178, x179, x180, x181, x182, x183, x184, x185, x186, x187, x188, x189, x190, x191, x192, x193, x194, x195, x196, x197, x198, x199, x200, x201, x202, x203, x204, x205, x206, x207, x208, x209, x210, x211, x212, x213, x214, x215, x216, x217, x218, x219, x220, x221, x222, y223, y224, y225, y226, y227, y228, y229, y230, y231, y232, y233, y234, y235, y236, y237, y238, y239, y240, y241, y242, y243, y244, y245, y246, y247, y248, y249, y250, y251, y252, y253, y254, y255, y256, y257, y258, y259, y260, y261, y262, y263, y264, y265, y266, y267, y268, y269, y270, y271, y272, y273, y274, y275, y276, y277, y278, y279, y280, y281, y282, y283, y284, y285, y286, y287, y288, y289, y290, y291, y292, y293, y294, y295, y296, y297, y298, y299, y300, y301, y302, y303, y304, y305, y306, y307, y308], defers := [] } W) :
    c.wp Try.prog (OnlyN Q) { tmps := #[y0, y1, y2, y3, y4, .slice a5 nv c5, y6, y7, .slice a8 nv c8, .slice a9 nv c9, .slice (some ⟨G, 0, none⟩) nv nv, .slice (some ⟨H, 0, none⟩) nv nv, y12, .int .i64 (k : Int), y14, y15, y16, y17, .slice a18 nv c18, y19, y20, y21, y22, y23, y24, y25, y26, y27, y28, y29, y30, y31, y32, y33, y34, y35, y36, y37, y38, y39, y40, y41, y42, y43, y44, y45, y46, y47, y48, y49, y50, y51, y52, y53, y54, y55, y56, y57, y58, y59, y60, y61, y62, y63, y64, y65, y66, y67, y68, y69, y70, y71, y72, y73, y74, y75, y76, y77, y78, y79, y80, y81, y82, y83, y84, y85, y86, y87, y88, y89, y90, y91, y92, y93, y94, y95, y96, y97, y98, y99, y100, y101, y102, y103, y104, y105, y106, y107, y108, y109, y110, y111, y112, y113, y114, y115, y116, y117, y118, y119, y120, y121, y122, y123, y124, y125, y126, y127, y128, y129, y130, y131, y132, y133, y134, y135, y136, y137, y138, y139, y140, y141, y142, y143, y144, .int .i64 (i : Int), y146, y147, y148, y149, y150, y151, y152, y153, y154, y155, y156, y157, y158, y159, y160, y161, y162, y163, y164, y165, y166, y167, y168, y169, y170, y171, y172, y173, y174, y175, y176, y177, y178, y179, y180, y181, y182, y183, y184, y185, y186, y187, y188, y189, y190, y191, y192, y193, y194, y195, y196, y197, y198, y199, y200, y201, y202, y203, y204, y205, y206, y207, y208, y209, y210, y211, y212, y213, y214, y215, y216, y217, y218, y219, y220, y221, y222, y223, y224, y225, y226, y227, y228, y229, y230, y231, y232, y233, y234, y235, y236, y237, y238, y239, y240, y241, y242, y243, y244, y245, y246, y247, y248, y249, y250, y251, y252, y253, y254, y255, y256, y257, y258, y259, y260, y261, y262, y263, y264, y265, y266, y267, y268, y269, y270, y271, y272, y273, y274, y275, y276, y277, y278, y279, y280, y281, y282, y283, y284, y285, y286, y287, y288, y289, y290, y291, y292, y293, y294, y295, y296, y297, y298, y299, y300, y301, y302, y303, y304, y305, y306, y307, y308], defers := [] } wr := by
  have HQ := Lib.hid hQ
  clear hQ
  have HSI := Lib.hid hS
  have HN := Lib.hid hn
  have hl0 : (stV t q k).length = nv := by rw [stV_len t q k (by omega), hn]
  have hl1 : (stV t q (k + 1)).length = nv := by rw [stV_len t q (k + 1) (by omega), hn]
  have hvb0 := valF_in hv hq (i := i) (by rw [hn]; exact hi) (k := k) (by omega)
  have hvb1 := valF_in hv hq (i := i) (by rw [hn]; exact hi) (k := k + 1) (by omega)
  obtain ⟨hs, hF, hH, hU, hE⟩ := hS
  obtain ⟨g0, o0, p0, e0, b0, z0, c0, f0, _⟩ := hF.cell (i := 0) (k := i) (by omega) (by show i < (stV t q k).length; omega)
  obtain ⟨g1, o1, p1, e1, b1, z1, c1, f1, _⟩ := hF.cell (i := 1) (k := i) (by omega) (by show i < (lowM t q k i).length; rw [lowM, mixL_len, hn]; exact hi)
  obtain ⟨g2, o2, p2, e2, b2, z2, c2, f2, _⟩ := hF.cell (i := 2) (k := i) (by omega) (by show i < (highM t q k i).length; rw [highM, mixL_len, hn]; exact hi)
  obtain ⟨g3, o3, p3, e3, b3, z3, c3, f3, _⟩ := hF.cell (i := 3) (k := i) (by omega) (by show i < (stV t q (k + 1)).length; omega)
  rw [show (lsS (stV t q k) (lowM t q k i) (highM t q k i) (stV t q (k + 1)) (chI t q k i) 1) = lowM t q k i from rfl, lowM, mixL_at (by rw [hn]; exact hi), if_neg (Nat.lt_irrefl _)] at c1
  rw [show (lsS (stV t q k) (lowM t q k i) (highM t q k i) (stV t q (k + 1)) (chI t q k i) 2) = highM t q k i from rfl, highM, mixL_at (by rw [hn]; exact hi), if_neg (Nat.lt_irrefl _)] at c2
  rw [show (lsS (stV t q k) (lowM t q k i) (highM t q k i) (stV t q (k + 1)) (chI t q k i) 3) = stV t q (k + 1) from rfl, show (stV t q (k + 1))[i]! = valF t q i (k + 1) from rfl] at c3
  have ee0 := e0
  have ee1 := e1
  have ee2 := e2
  have ee3 := e3
  simp only [vsS, Value.slice.injEq] at ee0 ee1 ee2 ee3
  obtain ⟨rfl, en0, rfl⟩ := ee0
  obtain ⟨rfl, en1, rfl⟩ := ee1
  obtain ⟨rfl, en2, rfl⟩ := ee2
  obtain ⟨rfl, en3, rfl⟩ := ee3
  clear en0 en1 en2 en3
  have HLO1 : Hid (lowF (valF t q i) (k + 1) = if valF t q i (k + 1) < lowF (valF t q i) k then valF t q i (k + 1) else lowF (valF t q i) k) := Lib.hid rfl
  have HHI1 : Hid (highF (valF t q i) (k + 1) = if highF (valF t q i) k < valF t q i (k + 1) then valF t q i (k + 1) else highF (valF t q i) k) := Lib.hid rfl
  have HUN1 := Lib.hid (unitF_succ (valF t q i) k)
  have n12 : g1 ≠ g2 := fun e => by
    have := hF.dis 1 2 (by omega) (by omega) (by decide)
    rcases this with h | h
    · cases h
    · exact h (by rw [e]; rfl)
  have n13 : g1 ≠ g3 := fun e => by
    have := hF.dis 1 3 (by omega) (by omega) (by decide)
    rcases this with h | h
    · cases h
    · exact h (by rw [e]; rfl)
  have n23 : g2 ≠ g3 := fun e => by
    have := hF.dis 2 3 (by omega) (by omega) (by decide)
    rcases this with h | h
    · cases h
    · exact h (by rw [e]; rfl)
  have n21 := Ne.symm n12
  have n31 := Ne.symm n13
  have n32 := Ne.symm n23
  have hiz : (0 : Int) ≤ (i : Int) := by omega
  have hin : (i : Int) < (nv : Int) := by omega
  have HL0 := Lib.hid hl0
  have HL1 := Lib.hid hl1
  have HCH := Lib.hid (chgF_len (valF t q i) k)
  have HCI : Hid (chI t q k i i = chgF (valF t q i) k) := Lib.hid (by unfold chI; rw [if_neg (Nat.lt_irrefl _)])
  generalize hX1 : valF t q i (k + 1) = X1 at *
  generalize hX0 : valF t q i k = X0 at *
  have HX1 := Lib.hid hX1
  have HX0 := Lib.hid hX0
  generalize lowF (valF t q i) k = L0 at *
  generalize highF (valF t q i) k = H0 at *
  clear hF hH hU hE e0 e1 e2 e3 f0 f3 c0 b0 b1 b2 b3 hX1 hX0 hl0 hl1 hv hq hn hk
  conv at hc => lhs; whnf
  cases hc
  go_wp2
  go_region
  have HS5 : Hid (StV w4 t q k (i + 1) (i + 1) i i (stV t q (k + 1)) (.slice (some ⟨g0, o0, none⟩) nv c5) (.slice (some ⟨g1, o1, none⟩) nv c8) (.slice (some ⟨g2, o2, none⟩) nv c9) (.slice (some ⟨g3, o3, none⟩) nv c18) (.slice (some ⟨G, 0, none⟩) nv nv) (.slice (some ⟨H, 0, none⟩) nv nv)
      ((wr.setCell ⟨g1, o1 + i, none⟩ (.int .i64 (if X1 < L0 then X1 else L0))).setCell ⟨g2, o2 + i, none⟩ (.int .i64 (if H0 < X1 then X1 else H0))).drew) :=
    Lib.hid ((StV.high' HN.out (StV.low' HN.out HSI.out hi HLO1.out) hi HHI1.out).ext (Ext.rf _).dr)
  generalize ((wr.setCell ⟨g1, o1 + i, none⟩ (.int .i64 (if X1 < L0 then X1 else L0))).setCell ⟨g2, o2 + i, none⟩ (.int .i64 (if H0 < X1 then X1 else H0))).drew = W5 at *
  generalize (if X1 < L0 then X1 else L0) = L1 at *
  generalize (if H0 < X1 then X1 else H0) = H1 at *
  obtain ⟨c0, c3⟩ := HS5.out.cells HL0.out HL1.out hi
  rw [HX0.out] at c0
  rw [HX1.out] at c3
  clear c1 c2 f1 f2 n12 n13 n23 n21 n31 n32 HSI HLO1 HHI1
  obtain ⟨bd, hbd⟩ : ∃ b, (X1 != X0) = b := ⟨_, rfl⟩
  have HBD := Lib.hid hbd
  go_wp2
  go_quiet (fail)
  have HS6 : Hid (StV w4 t q k (i + 1) (i + 1) i i (stV t q (k + 1)) (.slice (some ⟨g0, o0, none⟩) nv c5) (.slice (some ⟨g1, o1, none⟩) nv c8) (.slice (some ⟨g2, o2, none⟩) nv c9) (.slice (some ⟨g3, o3, none⟩) nv c18) (.slice (some ⟨G, 0, none⟩) nv nv) (.slice (some ⟨H, 0, none⟩) nv nv) (W5.drewN nq)) := Lib.hid (HS5.out.ext ((Ext.rf W5).drN nq))
  generalize W5.drewN nq = W6 at *
  clear HS5 c0 c3
  go_upto_if 180 with (fail)
  go_cut [] from 181 to 190 (fun wx => Aside (StV w4 t q k (i + 1) (i + 1) (i + 1) i (stV t q (k + 1)) (.slice (some ⟨g0, o0, none⟩) nv c5) (.slice (some ⟨g1, o1, none⟩) nv c8) (.slice (some ⟨g2, o2, none⟩) nv c9) (.slice (some ⟨g3, o3, none⟩) nv c18) (.slice (some ⟨G, 0, none⟩) nv nv) (.slice (some ⟨H, 0, none⟩) nv nv) wx))
  case first =>
    cases bd with
    | false =>
      go_wp2
      go_meet
      exact (show Aside _ from HS6.out.same (by rw [HX0.out, HX1.out]; exact HBD.out))
    | true =>
      obtain ⟨ha, hcap, hd1, hd2, hd3, hd4, hd5, hd6⟩ := StV.hdr HN.out HS6.out hi
      rw [Nat.zero_add] at hd1 hd2
      have HD4 := Lib.hid hd4
      have HD5 := Lib.hid hd5
      have HD6 := Lib.hid hd6
      have HD1 := Lib.hid hd1
      have HD2 := Lib.hid hd2
      have hlen : (chI t q k i i).length ≤ k := by rw [HCI.out]; exact HCH.out
      generalize hnc : (chI t q k i i).length = nc at *
      have HNC := Lib.hid hnc
      have hGW := World.block_lt_of_cell? W6 _ hd1
      have hwk : w4.heap.size ≤ W6.heap.size := HS6.out.ex.sz
      obtain ⟨ii, hii, iz0, iz1, iz2⟩ := info_parts info_cints
      clear hd4 hd5 hd6 hnc hbd
      go_wp2_with ((at_builtin; go_loud (refine wpList_append_one rfl _ _ 30 rfl w4.heap.size 3 ii (.int .i64 0) 1 8 Try.underlying30 hii iz0 iz1 iz2 rfl (by decide) _ nc _ rfl (HD4.out.al _) W6.heap.size 1 [.int .i64 ((k : Int) + 1)] rfl rfl ⟨_, heap_alloc_new _ _⟩ (by simp [Value.oneCell']) (by unfold maxLen; omega) (by omega) (Nat.le_trans hwk ((Ext.rf W6).al _).sz) ?_; intro v8 w8 hown8 hgrow8 hblk8; obtain ⟨a8, c8', rfl, _⟩ := hown8.any; have HOWN := Lib.hid hown8; have HG8 := Lib.hid hgrow8; have HB8 := Lib.hid hblk8; have z8 := cell_grown (((Ext.rf W6).al _).cl HD1.out) hgrow8 (fun e => HD5.out _ e ⟨_, _, _, _, _, by decide, HD4.out⟩); have f8 := free_grown (((Ext.rf W6).al _).cl HD1.out) (free_ext HD1.out HD2.out ((Ext.rf W6).al _)) hgrow8 (fun e => HD5.out _ e ⟨_, _, _, _, _, by decide, HD4.out⟩); clear hown8 hgrow8 hblk8)))
      go_meet
      have := HD6.out _ _ _ ((Ext.rf W6).al (.cells #[.int .i64 ((k : Int) + 1)] 3)) (by rw [HX0.out, HX1.out]; exact HBD.out) HG8.out HOWN.out HB8.out
      rw [Nat.zero_add] at this
      exact (show Aside _ from this)
  case rest =>
  clear hbd
  have HS7 := Lib.hid hcut.out
  obtain ⟨c0, c3⟩ := HS7.out.cells HL0.out HL1.out hi
  rw [HX0.out] at c0
  rw [HX1.out] at c3
  obtain ⟨cu, fu⟩ := HS7.out.unt HN.out hi
  rw [Nat.zero_add] at cu fu
  have hw : IntKind.i64.wrap (X1 - X0) = X1 - X0 := IntWalk.i64_in _ (by omega)
  obtain ⟨z, hz⟩ : ∃ z, X1 - X0 = z := ⟨_, rfl⟩
  rw [hz] at HUN1
  have hw := hw.trans hz
  generalize hU0 : unitF (valF t q i) k = U0 at *
  have HU0 := Lib.hid hU0
  clear hz hvb0 hvb1 hU0 hcut
  have hfin : Hid (∀ b, unitF (valF t q i) (k + 1) = b → StV w4 t q k (i + 1) (i + 1) (i + 1) (i + 1) (stV t q (k + 1)) (.slice (some ⟨g0, o0, none⟩) nv c5) (.slice (some ⟨g1, o1, none⟩) nv c8) (.slice (some ⟨g2, o2, none⟩) nv c9) (.slice (some ⟨g3, o3, none⟩) nv c18) (.slice (some ⟨G, 0, none⟩) nv nv) (.slice (some ⟨H, 0, none⟩) nv nv) ((wc.setCell ⟨H, i, none⟩ (.bool b)).drew)) := Lib.hid (fun b hb => by
    have := StV.unit' HN.out HS7.out hi hb
    rw [Nat.zero_add] at this
    exact this.ext (Ext.rf _).dr)
  cases U0 with
  | false =>
    have HF := Lib.hid (hfin.out false (by rw [HUN1.out]; rfl))
    go_wp2
    refine wp_onlyN (stp_unit0 _ (by kernel_rfl) nv i g0 o0 c5 g3 o3 c18 G H X0 X1 z _ wc _ _ _ _ _ _ _ _ _ _ _ _ _ _ _ _ _ _ _ _ _ _ _ _ _ _ _ _ _ _ _ _ _ _ _ _ _ _ _ _ _ _ _ _ _ _ _ _ _ _ _ _ _ _ _ _ _ _ _ _ _ _ _ _ _ _ _ _ _ _ _ _ _ _ _ _ _ _ _ _ _ _ _ _ _ _ _ _ _ _ _ _ _ _ _ _ _ _ _ _ _ _ _ _ _ _ _ _ _ _ _ _ _ _ _ _ _ _ _ _ _ _ _ _ _ _ _ _ _ _ _ _ _ _ _ _ _ _ _ _ _ _ _ _ _ _ _ _ _ _ _ _ _ _ _ _ _ _ _ _ _ _ _ _ _ _ _ _ _ _ _ _ _ _ _ _ _ _ _ _ _ _ _ _ _ _ _ _ _ _ _ _ _ _ _ _ _ _ _ _ _ _ _ _ _ _ _ _ _ _ _ _ _ _ _ _ _ _ _ _ _ _ _ _ _ _ _ _ _ _ _ _ _ _ _ _ _ _ _ _ _ _ _ _ _ _ _ _ _ _ _ _ _ _ _ _ _ _ _ _ _ _ _ _ _ _ _ _ _ _ _ _ _ _ _ _ _ _ _ _ _ _ _ _ _ _ _ _ _ _ _ _ _ _ _ _ _ _ _ _ _ _ _ _ hi hnv c0 c3 cu fu hw ?_) (fun a w h => h)
    intros
    exact HQ.out _ _ _ _ _ _ _ _ _ _ _ _ _ _ _ _ _ _ _ _ _ _ _ _ _ _ _ _ _ _ _ _ _ _ _ _ _ _ _ _ _ _ _ _ _ _ _ _ _ _ _ _ _ _ _ _ _ _ _ _ _ _ _ _ _ _ _ _ _ _ _ _ _ _ _ _ _ _ HF.out
  | true =>
    by_cases h1 : -1 ≤ z
    · have d1 : decide (-1 ≤ z) = true := decide_eq_true h1
      by_cases h2 : z ≤ 1
      · have d2 : decide (z ≤ 1) = true := decide_eq_true h2
        have HF := Lib.hid (hfin.out true (by rw [HUN1.out, d1, d2]; rfl))
        clear h1 h2
        go_wp2
        refine wp_onlyN (stp_unit3 _ (by kernel_rfl) nv i g0 o0 c5 g3 o3 c18 G H X0 X1 z _ wc _ _ _ _ _ _ _ _ _ _ _ _ _ _ _ _ _ _ _ _ _ _ _ _ _ _ _ _ _ _ _ _ _ _ _ _ _ _ _ _ _ _ _ _ _ _ _ _ _ _ _ _ _ _ _ _ _ _ _ _ _ _ _ _ _ _ _ _ _ _ _ _ _ _ _ _ _ _ _ _ _ _ _ _ _ _ _ _ _ _ _ _ _ _ _ _ _ _ _ _ _ _ _ _ _ _ _ _ _ _ _ _ _ _ _ _ _ _ _ _ _ _ _ _ _ _ _ _ _ _ _ _ _ _ _ _ _ _ _ _ _ _ _ _ _ _ _ _ _ _ _ _ _ _ _ _ _ _ _ _ _ _ _ _ _ _ _ _ _ _ _ _ _ _ _ _ _ _ _ _ _ _ _ _ _ _ _ _ _ _ _ _ _ _ _ _ _ _ _ _ _ _ _ _ _ _ _ _ _ _ _ _ _ _ _ _ _ _ _ _ _ _ _ _ _ _ _ _ _ _ _ _ _ _ _ _ _ _ _ _ _ _ _ _ _ _ _ _ _ _ _ _ _ _ _ _ _ _ _ _ _ _ _ _ _ _ _ _ _ _ _ _ _ _ _ _ _ _ _ _ _ _ _ _ _ _ _ _ _ _ _ _ _ _ _ _ _ _ _ _ _ _ _ _ hi hnv c0 c3 cu fu hw d1 d2 ?_) (fun a w h => h)
        intros
        exact HQ.out _ _ _ _ _ _ _ _ _ _ _ _ _ _ _ _ _ _ _ _ _ _ _ _ _ _ _ _ _ _ _ _ _ _ _ _ _ _ _ _ _ _ _ _ _ _ _ _ _ _ _ _ _ _ _ _ _ _ _ _ _ _ _ _ _ _ _ _ _ _ _ _ _ _ _ _ _ _ HF.out
      · have d2 : decide (z ≤ 1) = false := decide_eq_false h2
        have HF := Lib.hid (hfin.out false (by rw [HUN1.out, d1, d2]; rfl))
        clear h1 h2
        go_wp2
        refine wp_onlyN (stp_unit2 _ (by kernel_rfl) nv i g0 o0 c5 g3 o3 c18 G H X0 X1 z _ wc _ _ _ _ _ _ _ _ _ _ _ _ _ _ _ _ _ _ _ _ _ _ _ _ _ _ _ _ _ _ _ _ _ _ _ _ _ _ _ _ _ _ _ _ _ _ _ _ _ _ _ _ _ _ _ _ _ _ _ _ _ _ _ _ _ _ _ _ _ _ _ _ _ _ _ _ _ _ _ _ _ _ _ _ _ _ _ _ _ _ _ _ _ _ _ _ _ _ _ _ _ _ _ _ _ _ _ _ _ _ _ _ _ _ _ _ _ _ _ _ _ _ _ _ _ _ _ _ _ _ _ _ _ _ _ _ _ _ _ _ _ _ _ _ _ _ _ _ _ _ _ _ _ _ _ _ _ _ _ _ _ _ _ _ _ _ _ _ _ _ _ _ _ _ _ _ _ _ _ _ _ _ _ _ _ _ _ _ _ _ _ _ _ _ _ _ _ _ _ _ _ _ _ _ _ _ _ _ _ _ _ _ _ _ _ _ _ _ _ _ _ _ _ _ _ _ _ _ _ _ _ _ _ _ _ _ _ _ _ _ _ _ _ _ _ _ _ _ _ _ _ _ _ _ _ _ _ _ _ _ _ _ _ _ _ _ _ _ _ _ _ _ _ _ _ _ _ _ _ _ _ _ _ _ _ _ _ _ _ _ _ _ _ _ _ _ _ _ _ _ _ _ _ _ hi hnv c0 c3 cu fu hw d1 d2 ?_) (fun a w h => h)
        intros
        exact HQ.out _ _ _ _ _ _ _ _ _ _ _ _ _ _ _ _ _ _ _ _ _ _ _ _ _ _ _ _ _ _ _ _ _ _ _ _ _ _ _ _ _ _ _ _ _ _ _ _ _ _ _ _ _ _ _ _ _ _ _ _ _ _ _ _ _ _ _ _ _ _ _ _ _ _ _ _ _ _ HF.out
    · have d1 : decide (-1 ≤ z) = false := decide_eq_false h1
      have HF := Lib.hid (hfin.out false (by rw [HUN1.out, d1]; rfl))
      clear h1
      go_wp2
      refine wp_onlyN (stp_unit1 _ (by kernel_rfl) nv i g0 o0 c5 g3 o3 c18 G H X0 X1 z _ wc _ _ _ _ _ _ _ _ _ _ _ _ _ _ _ _ _ _ _ _ _ _ _ _ _ _ _ _ _ _ _ _ _ _ _ _ _ _ _ _ _ _ _ _ _ _ _ _ _ _ _ _ _ _ _ _ _ _ _ _ _ _ _ _ _ _ _ _ _ _ _ _ _ _ _ _ _ _ _ _ _ _ _ _ _ _ _ _ _ _ _ _ _ _ _ _ _ _ _ _ _ _ _ _ _ _ _ _ _ _ _ _ _ _ _ _ _ _ _ _ _ _ _ _ _ _ _ _ _ _ _ _ _ _ _ _ _ _ _ _ _ _ _ _ _ _ _ _ _ _ _ _ _ _ _ _ _ _ _ _ _ _ _ _ _ _ _ _ _ _ _ _ _ _ _ _ _ _ _ _ _ _ _ _ _ _ _ _ _ _ _ _ _ _ _ _ _ _ _ _ _ _ _ _ _ _ _ _ _ _ _ _ _ _ _ _ _ _ _ _ _ _ _ _ _ _ _ _ _ _ _ _ _ _ _ _ _ _ _ _ _ _ _ _ _ _ _ _ _ _ _ _ _ _ _ _ _ _ _ _ _ _ _ _ _ _ _ _ _ _ _ _ _ _ _ _ _ _ _ _ _ _ _ _ _ _ _ _ _ _ _ _ _ _ _ _ _ _ _ _ _ _ _ _ hi hnv c0 c3 cu fu hw d1 ?_) (fun a w h => h)
      intros
      exact HQ.out _ _ _ _ _ _ _ _ _ _ _ _ _ _ _ _ _ _ _ _ _ _ _ _ _ _ _ _ _ _ _ _ _ _ _ _ _ _ _ _ _ _ _ _ _ _ _ _ _ _ _ _ _ _ _ _ _ _ _ _ _ _ _ _ _ _ _ _ _ _ _ _ _ _ _ _ _ _ HF.out

end Go.Proofs.Ytfcpnggdpaeldaa
