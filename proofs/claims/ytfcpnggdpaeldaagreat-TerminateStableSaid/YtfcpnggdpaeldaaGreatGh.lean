import Derived.Test.YtfcpnggdpaeldaaGreatJa
import Derived.Test.YtfcpnggdpaeldaaGreatProg
import Derived.Test.YtfcpnggdpaeldaaGreatGf
import Derived.Test.YtfcpnggdpaeldaaGreatGg
import Derived.Test.YtfcpnggdpaeldaaGreatGb
import Derived.BigQuiet
import Derived.Deep.QuietTactic
import Derived.Deep.LoopGhost
import Derived.Shelf.Abstract
import Derived.RangeFuncNested
import Derived.RangeFuncBound
import Derived.RangeFuncCalls
import Derived.RangeFuncLeaves
import Derived.Shelf.RegionOpen
import Derived.OwnWalkIn
import Derived.TacticsInMore
import Derived.LoopNIn
import Derived.LoopIn
import Derived.Sort.LoopGhostIn
import Derived.Sort.CutIn
import Derived.Deep.RegionHeld3
import Derived.Deep.RegionLaw
/-
  The values of the states of a process, one after the other: the program's iterator.
-/
namespace Go.Proofs.YtfcpnggdpaeldaaGreat
open Go.RowKit
set_option linter.unusedVariables false
open Go.Shelf
attribute [local go_sem] Oper.semAt_some

/-- What a round is handed: the state's number, its values; G is the block in which the iterator keeps its own. -/
structure StA where
  k : Nat
  v : Value
  G : Option Nat
abbrev encSt (x : StA) : Array Value := #[.int .i64 (x.k : Int), x.v]
/-- What a round is told. -/
def RdSt (t : Tr) (p n₁ : Nat) (pre : List StA) (x : StA) (W : World) : Prop :=
  x.k = pre.length ∧ x.k ≤ t[p]!.events.length ∧ Row W n₁ 3 1 x.v t[p]!.vars.length ((stV t p x.k).map (Value.int .i64)) ∧ (∀ g, x.G = some g → n₁ ≤ g ∧ g < W.heap.size) ∧ ∀ y ∈ pre, y.G = x.G
/-- What a round must keep: what lay ahead, the box, and the iterator's own block. -/
def KpSt (n₀ Bn : Nat) (x : StA) (W W' : World) : Prop := Below n₀ W W' ∧ ∀ g, g = Bn ∨ x.G = some g → ∀ o, W.heap[g]? = some o → o.isCells = true → W'.heap[g]? = some o
/-- What the iterator turns. -/
def TnSt (pre : List StA) (r : Nat) : Prop := ∀ y ∈ pre, y.G = some r
theorem kpSt_t {n₀ Bn : Nat} {x : StA} {A B C : World} (h : KpSt n₀ Bn x A B) (k : KpSt n₀ Bn x B C) : KpSt n₀ Bn x A C :=
  ⟨h.1.trans k.1, fun g hg o ho hc => k.2 g hg o (h.2 g hg o ho hc) hc⟩
theorem kpSt_b {n₀ Bn B : Nat} (hB : n₀ ≤ B) (x : StA) (W : World) (l : Nat) (o o' : Obj) (hl : B ≤ l) (h : W.heap[l]? = some o) (hc : o.isCells = false) : KpSt n₀ Bn x W (W.putObj l o') :=
  ⟨(Below.refl n₀ W).grown (grownBy_putObj' W l o') (by have := (Array.getElem?_eq_some_iff.1 h).1; omega) (fun k e => by cases e; omega), fun g _ q hq hqc => by
    refine (World.putObj_heap_other (fun e => ?_)).trans hq
    subst e; rw [h] at hq; cases hq; rw [hc] at hqc; cases hqc⟩
theorem grown_set (W : World) (g o : Nat) (u : Value) : W.grownBy (W.setCell ⟨g, o, none⟩ u) (some g) :=
  ⟨rfl, rfl, rfl, by rw [size_setCell]; exact Nat.le_refl _, fun k hk hne => Below.heap_setCell W ⟨g, o, none⟩ u k (fun e => hne (by rw [e]))⟩
theorem grown_ext {W W' : World} (h : Ext W W') : W.grownBy W' none := ⟨h.os, h.tape, h.output, h.size, fun k hk _ => h.block k hk⟩

theorem kp_row {n₀ Bn base : Nat} {e : TypeId} {size n : Nat} {xs : List Value} {x : StA} {W W' : World} {v : Value} (h : Row W base e size v n xs) (hk : KpSt n₀ Bn x W W') (hG : x.G = v.ownBlock) : Row W' base e size v n xs := by
  refine h.heap fun k he => ?_
  rcases h.2 with ⟨rfl, _⟩ | ⟨g, off, cap, cur, rfl, _, hg, _⟩
  · simp [Value.ownBlock] at he
  · simp [Value.ownBlock] at he
    subst he
    rw [hk.2 g (.inr hG) _ hg rfl, hg]
/-- What is asked of the process. -/
structure StOk (t : Tr) (p : Nat) : Prop where
  nv : t[p]!.vars.length ≤ 8
  ne : t[p]!.events.length ≤ 64
  na : ∀ i, i < t[p]!.events.length → t[p]!.events[i]!.asg.length ≤ 8
  ok : ∀ i, i < t[p]!.events.length → ∀ j, j < t[p]!.events[i]!.asg.length → 0 ≤ t[p]!.events[i]!.asg[j]!.var ∧ t[p]!.events[i]!.asg[j]!.var < t[p]!.vars.length

set_option maxRecDepth 100000 in
set_option maxHeartbeats 8000000 in
theorem states1_in (n : Nat) (hn : 1 ≤ n) (l Bn n₀ n₁ : Nat) (s : ByteArray) (vv ve : Value) (t : Tr) (p : Nat) (w : World) (hV : Sl RVr 2 w vv t[p]!.vars) (hE : Sl REv 5 w ve t[p]!.events) (hs : StOk t p) (hn₀ : n₀ = w.heap.size) (J Jx : List StA → World → Prop)
    (W : World) (hW : Below n₀ w W) (hn₁ : n₁ ≤ W.heap.size) (hJ : AbidesT W.heap.size TnSt J)
    (hY : ∀ pre x W1, J pre W1 → RdSt t p n₁ pre x W1 → YieldAt Fence.wide (n - 1) Tryz.prog l (encSt x) W1 fun e W' =>
      (e = .returned (.bool true) ∧ J (pre ++ [x]) W' ∧ KpSt n₀ Bn x W1 W') ∨ (e = .returned (.bool false) ∧ Jx (pre ++ [x]) W'))
    (hBn : W.heap[Bn]? = some (prT s vv ve)) (h0 : J [] W) :
    CallsIn Fence.wide n Tryz.prog 121 #[.func (.yield l) #[] #[], .pointer (some ⟨Bn, 0, none⟩)] W fun e W' => (∃ v, e = .returned v) ∧
      ((∃ xs, xs.length = t[p]!.events.length + 1 ∧ J xs W') ∨ (∃ pre, Jx pre W')) := by
  obtain ⟨ii, hii, iz0, iz1, iz2⟩ := info_parts info_cints
  have HVV := Lib.hid hV
  have HEE := Lib.hid hE
  have HS := Lib.hid hs
  have HW := Lib.hid hW
  have HJ := Lib.hid hJ
  have HY := Lib.hid hY
  have HN := Lib.hid hn₀
  have HN1 := Lib.hid hn₁
  have HB := Lib.hid hBn
  have HJ0 := Lib.hid h0
  obtain ⟨va, vc, rfl, hvc⟩ := hV.sh
  obtain ⟨ea, ec, rfl, hec⟩ := hE.sh
  have hnv := hs.nv
  have hne := hs.ne
  have HIV := Lib.hid (initV_len t p)
  have HIVE : Hid (initV t p = t[p]!.vars.map (·.init)) := Lib.hid rfl
  generalize hxv : t[p]!.vars.length = nv at *
  generalize hxe : t[p]!.events.length = ne at *
  have HXV := Lib.hid hxv
  have HXE := Lib.hid hxe
  have b1 := cellOf HB.out 1
  have b2 := cellOf HB.out 2
  simp only [List.getElem?_toArray, List.getElem?_cons_zero, List.getElem?_cons_succ] at b1 b2
  clear hV hE hs hW hJ hY hn₀ hn₁ hBn h0 hxv hxe
  refine callsIn_of_wp Tryz.func121 rfl trivial ?_ rfl
  simp only [Tryz.ntmps121, List.size_toArray, List.length_cons, List.length_nil, Nat.reduceAdd, Nat.reduceSub, Array.replicate_succ, Array.replicate_zero, List.push_toArray, List.append_toArray, List.nil_append, List.cons_append]
  gi_wp2
  clear b1 b2
  gi_loopg [3, 13] nv (fun g s3 s13 wr => ∃ j : Nat, j ≤ nv ∧ nv - j ≤ g ∧ s13 = .int .i64 j ∧ Aside (Row wr W.heap.size 3 1 s3 j (((initV t p).take j).map (Value.int .i64))) ∧ Aside (J [] wr) ∧ Aside (Ext W wr))
  case atStart => exact ⟨0, Nat.zero_le _, by omega, rfl, (show Row _ _ _ _ _ _ _ from by rw [List.take_zero]; exact Row.mkNil _ _ _ _), (show Aside _ from HJ0.out), Ext.rf _⟩
  case round =>
    obtain ⟨j, hj, hg, rfl, HR, HJJ, HEK⟩ := hrel
    by_cases hlt : j < nv
    · have hltz : (j : Int) < (nv : Int) := by omega
      have hjz : (0 : Int) ≤ (j : Int) := by omega
      obtain ⟨VB, VO, VC, hve, hlV, hVB, k0, k1⟩ := var_at HVV.out j (by rw [HXV.out]; exact hlt)
      simp only [Value.slice.injEq] at hve
      obtain ⟨rfl, hzz, rfl⟩ := hve
      have HBW : Hid (Below w.heap.size w wr) := Lib.hid ((HN.out ▸ HW.out).trans (HEK.out.mono (HN.out ▸ HW.out).size))
      have m0 := (HBW.out.cell (p := ⟨VB, VO + j * 2, none⟩) hVB).trans k0
      have m1 := (HBW.out.cell (p := ⟨VB, VO + j * 2 + 1, none⟩) hVB).trans k1
      have HNX : Hid (((initV t p).take (j + 1)).map (Value.int .i64) = ((initV t p).take j).map (Value.int .i64) ++ [.int .i64 t[p]!.vars[j]!.init]) := Lib.hid (by
        have hlj : j < (initV t p).length := by rw [HIV.out]; exact hlt
        rw [take_snoc' _ j hlj, List.map_append, List.map_cons, List.map_nil]
        congr 3
        rw [HIVE.out, getElem!_pos (t[p]!.vars.map (·.init)) j (by rw [List.length_map, HXV.out]; exact hlt), getElem!_pos t[p]!.vars j (by rw [HXV.out]; exact hlt)]; simp)
      generalize t[p]!.vars[j]!.init = z at *
      generalize t[p]!.vars[j]!.name = nm at *
      have hsz := HEK.out.sz
      have HBB := Lib.hid (heap_new_eq (w := wr.alloc (.cells #[.string nm, .int .i64 z] 96)) (o := .cells #[.int .i64 z] 3) (b := wr.heap.size + 1) (by simp))
      clear k0 k1 hzz
      gi_wp2_with ((gi_at_builtin; refine wpListIn_append_rowI rfl _ _ 25 rfl W.heap.size 3 ii (.int .i64 0) 1 8 Tryz.underlying25 hii iz0 iz1 iz2 rfl (by decide) _ j _ rfl ((HR.out.al _).al _) (wr.heap.size + 1) 1 [.int .i64 z] rfl rfl ⟨_, HBB.out⟩ (by simp [Value.oneCell']) (by unfold maxLen; omega) (by omega) (by simp; omega) ?_; intro v8 w8 hown8 hgrow8 hblk8; have HOWN := Lib.hid hown8; have HG8 := Lib.hid hgrow8; clear hown8 hgrow8 hblk8))
      gi_roundg (nv - (j + 1))
      case measure => omega
      case rel =>
        refine ⟨j + 1, by omega, by omega, by go_num, (show Aside _ from by rw [HNX.out]; exact HOWN.out), (show Aside _ from ?_), (show Ext _ _ from ((HEK.out.al _).al _).gr HG8.out (fun q hq => (HR.out.lt q hq).1))⟩
        exact HJ.out [] _ _ _ (HJ.out [] _ _ none (HJ.out [] _ _ none HJJ.out (World.grownBy_alloc _ _ none) (fun r e => by cases e)) (World.grownBy_alloc _ _ none) (fun r e => by cases e)) HG8.out (fun r e => ⟨(HR.out.lt r e).1, fun y hy => by cases hy⟩)
    · have hltz : ¬ (j : Int) < (nv : Int) := by omega
      obtain rfl : j = nv := by omega
      have HR0 : Hid (Row wr W.heap.size 3 1 u3 j ((stV t p 0).map (Value.int .i64))) := Lib.hid (by
        have := HR.out
        rw [List.take_of_length_le (by rw [HIV.out]; exact Nat.le_refl _)] at this
        rw [stV_zero]; exact this)
      have HL0 := Lib.hid (stV_len t p 0 (Nat.zero_le _))
      have HWW : Hid (Below n₀ w wr) := Lib.hid (HW.out.trans (HEK.out.mono (by rw [HN.out]; exact (HN.out ▸ HW.out).size)))
      have HWS : Hid (W.heap.size ≤ wr.heap.size) := Lib.hid HEK.out.sz
      have HPRE : Hid (∃ pre : List StA, pre.length = 0 ∧ (∀ y ∈ pre, y.G = u3.ownBlock) ∧ J pre wr) := Lib.hid ⟨[], rfl, (fun y hy => absurd hy (by simp)), HJJ.out⟩
      have HBR := Lib.hid (HEK.out.hp HB.out)
      clear HR
      have HCL := Lib.hid (clone_cints u3 j ((stV t p 0).map (Value.int .i64)) wr HR0.out.cells (by simp [Value.oneCell']) (by omega))
      gi_wp2_with fail
      refine ⟨trivial, ((callsIn_wide (n := n - 1)).2 HCL.out).mono ?_⟩
      rintro e w5 ⟨vc5, rfl, hR5, hX5⟩
      have HHY : Hid (∃ pre, pre.length = 0 ∧ (∀ y ∈ pre, y.G = (u3).ownBlock) ∧ YieldAt Fence.wide (n - 1) Tryz.prog l #[.int .i64 0, vc5] w5 fun e W' =>
          (e = .returned (.bool true) ∧ J (pre ++ [⟨0, vc5, (u3).ownBlock⟩]) W' ∧ KpSt n₀ Bn ⟨0, vc5, (u3).ownBlock⟩ w5 W') ∨ (e = .returned (.bool false) ∧ Jx (pre ++ [⟨0, vc5, (u3).ownBlock⟩]) W')) := Lib.hid (by
        obtain ⟨pre, hp1, hp2, hp3⟩ := HPRE.out
        have hY := HY.out pre ⟨0, vc5, (u3).ownBlock⟩ w5 (HJ.out pre _ _ none hp3 (grown_ext hX5) (fun r e => by cases e)) ⟨hp1.symm, by simp only [HXE.out]; omega, by rw [HXV.out]; exact hR5.mono (Nat.le_trans HN1.out HWS.out), fun g hg => ⟨Nat.le_trans HN1.out (HR0.out.lt g hg).1, Nat.lt_of_lt_of_le (HR0.out.lt g hg).2 hX5.size⟩, hp2⟩
        exact ⟨pre, hp1, hp2, hY⟩)
      have HX5 := Lib.hid hX5
      have HR5 := Lib.hid (HR0.out.ext hX5)
      clear hR5 hX5
      obtain ⟨pre, hp1, hp2, fn, tmps, assign, body, hy, hR⟩ := HHY.out
      have HP1 := Lib.hid hp1
      have HP2 := Lib.hid hp2
      have HR := Lib.hid hR
      clear HHY hp1 hp2 hR
      gi_wp2
      refine HR.out.mono ?_
      rintro e W3 (⟨rfl, hJ3, hk3⟩ | ⟨rfl, hJx3⟩)
      · have HRW := Lib.hid (kp_row HR5.out hk3 rfl)
        have HBW := Lib.hid (hk3.2 Bn (.inl rfl) _ (HX5.out.hp HBR.out) rfl)
        have HBL := Lib.hid (HWW.out.trans ((HX5.out.mono (by rw [HN.out]; exact (HN.out ▸ HWW.out).size)).trans hk3.1))
        have HWS := Lib.hid (Nat.le_trans HWS.out (Nat.le_trans HX5.out.size hk3.1.size))
        have HJ3 := Lib.hid hJ3
        have b2 := cellOf HBW.out 2
        simp only [List.getElem?_toArray, List.getElem?_cons_zero, List.getElem?_cons_succ] at b2
        clear hJ3 hk3
        gi_wp2
        clear b2
        gi_loopg [31] ne (fun g s31 wr => ∃ i : Nat, i ≤ ne ∧ ne - i ≤ g ∧ s31 = .int .i64 i ∧ Aside (∃ pre : List StA, pre.length = i + 1 ∧ (∀ y ∈ pre, y.G = u3.ownBlock) ∧ J pre wr) ∧ Aside (Row wr W.heap.size 3 1 u3 j ((stV t p i).map (Value.int .i64))) ∧ Aside (Below n₀ w wr ∧ W.heap.size ≤ wr.heap.size))
        case atStart =>
          refine ⟨0, Nat.zero_le _, by omega, rfl, (show Aside _ from ⟨_, ?_, ?_, HJ3.out⟩), (show Aside _ from HRW.out), (show Aside _ from ⟨HBL.out, HWS.out⟩)⟩
          · rw [List.length_append, HP1.out]; rfl
          · intro y hy
            rcases List.mem_append.1 hy with hy | hy
            · exact HP2.out y hy
            · rw [List.mem_singleton] at hy; subst hy; rfl
        case round =>
          obtain ⟨i, hi, hg, rfl, HPRE, HRI, HBI⟩ := hrel
          have HX1 : Hid (n₀ ≤ W.heap.size) := Lib.hid (by rw [HN.out]; exact (HN.out ▸ HW.out).size)
          by_cases hlti : i < ne
          · have hltz : (i : Int) < (ne : Int) := by omega
            have hiz : (0 : Int) ≤ (i : Int) := by omega
            obtain ⟨EB, EO, EC, ua, hee, hlE, hEB, k0, k1, k2, k3, k4, hA⟩ := event_at HEE.out i (by rw [HXE.out]; exact hlti)
            simp only [Value.slice.injEq] at hee
            obtain ⟨rfl, hzz, rfl⟩ := hee
            have HAA := Lib.hid hA
            obtain ⟨aa, ac, rfl, hac⟩ := hA.sh
            have HBV : Hid (Below w.heap.size w wr) := Lib.hid (HN.out ▸ HBI.out.1)
            have m0 := (HBV.out.cell (p := ⟨EB, EO + i * 5, none⟩) hEB).trans k0
            have m1 := (HBV.out.cell (p := ⟨EB, EO + i * 5 + 1, none⟩) hEB).trans k1
            have m2 := (HBV.out.cell (p := ⟨EB, EO + i * 5 + 2, none⟩) hEB).trans k2
            have m3 := (HBV.out.cell (p := ⟨EB, EO + i * 5 + 3, none⟩) hEB).trans k3
            have m4 := (HBV.out.cell (p := ⟨EB, EO + i * 5 + 4, none⟩) hEB).trans k4
            have hna := HS.out.na i (by rw [HXE.out]; exact hlti)
            have HOK := Lib.hid (HS.out.ok i (by rw [HXE.out]; exact hlti))
            have HNX := Lib.hid (stV_succ t p i (by rw [HXE.out]; exact hlti))
            have HST := Lib.hid (stepTo_all (stV t p i) t[p]!.events[i]! _ rfl)
            have HSL := Lib.hid (stV_len t p i (by rw [HXE.out]; omega))
            have HSS := Lib.hid (fun j h => stepTo_succ (stV t p i) t[p]!.events[i]! j h)
            have HSN := Lib.hid (stepTo_len (stV t p i) t[p]!.events[i]!)
            have HSZ := Lib.hid (stepTo_zero (stV t p i) t[p]!.events[i]!)
            generalize hevx : t[p]!.events[i]! = x at *
            generalize hnax : x.asg.length = na at *
            have HNA := Lib.hid hnax
            rw [HXV.out] at HOK HSL
            clear k0 k1 k2 k3 k4 hA hzz hevx hnax
            gi_wp2
            obtain ⟨wo, rfl⟩ : ∃ x, x = wr := ⟨_, rfl⟩
            clear m0 m1 m2 m3 m4
            gi_loopg [39] na (fun g s39 wr => ∃ q : Nat, q ≤ na ∧ na - q ≤ g ∧ s39 = .int .i64 q ∧ Aside (∃ pre : List StA, pre.length = i + 1 ∧ (∀ y ∈ pre, y.G = u3.ownBlock) ∧ J pre wr) ∧ Aside (Row wr W.heap.size 3 1 u3 j ((stepTo (stV t p i) x q).map (Value.int .i64))) ∧ Aside (Below n₀ w wr ∧ W.heap.size ≤ wr.heap.size))
            case atStart =>
              refine ⟨0, Nat.zero_le _, by omega, rfl, (show Aside _ from ?_), (show Aside _ from ?_), (show Aside _ from ⟨HBI.out.1.alloc (by have := HBI.out.2; have := HX1.out; omega) _, by have := HBI.out.2; simp; omega⟩)⟩
              · obtain ⟨pre, h1, h2, h3⟩ := HPRE.out
                exact ⟨pre, h1, h2, HJ.out pre _ _ none h3 (World.grownBy_alloc _ _ none) (fun r e => by cases e)⟩
              · rw [HSZ.out]; exact HRI.out.al _
            case round =>
              obtain ⟨q, hq, hg2, rfl, HPRE2, HRQ, HBQ⟩ := hrel
              by_cases hltq : q < na
              · have hltz2 : (q : Int) < (na : Int) := by omega
                have hqz : (0 : Int) ≤ (q : Int) := by omega
                obtain ⟨AB, AO, AC, hae, hlA, hAB, a0, a1⟩ := asg_at HAA.out q (by rw [HNA.out]; exact hltq)
                simp only [Value.slice.injEq] at hae
                obtain ⟨rfl, hzz, rfl⟩ := hae
                have HBV2 : Hid (Below w.heap.size w wr) := Lib.hid (HN.out ▸ HBQ.out.1)
                have e0 := (HBV2.out.cell (p := ⟨AB, AO + q * 2, none⟩) hAB).trans a0
                have e1 := (HBV2.out.cell (p := ⟨AB, AO + q * 2 + 1, none⟩) hAB).trans a1
                have hok := HOK.out q hltq
                have HSQ := Lib.hid (HSS.out q hltq)
                have HLQ := Lib.hid (HSN.out q)
                obtain ⟨vq, hvq⟩ : ∃ vq : Nat, x.asg[q]!.var = (vq : Int) := ⟨x.asg[q]!.var.toNat, by omega⟩
                have HPQ : Hid (putA (stepTo (stV t p i) x q) x.asg[q]! = (stepTo (stV t p i) x q).set vq x.asg[q]!.value) := Lib.hid (by unfold putA; rw [hvq]; rfl)
                rw [hvq] at e0 hok
                have hvj : vq < j := by omega
                have hvz : (0 : Int) ≤ (vq : Int) := by omega
                have hvjz : (vq : Int) < (j : Int) := by omega
                generalize x.asg[q]!.value = z at *
                obtain ⟨G, O9, cap, hu3, hGb, hG2, _⟩ := HRQ.out.shape (by omega)
                subst hu3
                have hHRA := (HRQ.out.al (.cells #[.int .i64 vq, .int .i64 z] 126))
                obtain ⟨u0, hu0⟩ : ∃ u, (wr.alloc (.cells #[.int .i64 vq, .int .i64 z] 126)).cell? ⟨G, O9 + vq, none⟩ = some u := by
                  rw [hHRA.cell vq (by omega)]
                  rw [List.getElem?_map, List.getElem?_eq_getElem (by rw [HLQ.out, HSL.out]; exact hvj)]
                  exact ⟨_, rfl⟩
                have hfr := hHRA.free (O9 + vq)
                have HRA := Lib.hid hHRA
                have HG := Lib.hid (And.intro hGb hG2)
                have hGne : G ≠ wr.heap.size := by omega
                clear a0 a1 hzz hHRA hok hvq hGb hG2
                gi_wp2
                gi_roundg (na - (q + 1))
                case measure => omega
                case rel =>
                  refine ⟨q + 1, by omega, by omega, by go_num, (show Aside _ from ?_), (show Aside _ from ?_), (show Aside _ from ⟨(HBQ.out.1.alloc (by have := HBQ.out.2; have := HX1.out; omega) _).setCell (p := ⟨G, O9 + vq, none⟩) (by have := HG.out; have := HX1.out; show n₀ ≤ G; omega) _, by have := HBQ.out.2; rw [size_setCell]; simp; omega⟩)⟩
                  · obtain ⟨pre, h1, h2, h3⟩ := HPRE2.out
                    exact ⟨pre, h1, h2, HJ.out pre _ _ _ (HJ.out pre _ _ none h3 (World.grownBy_alloc _ _ none) (fun r e => by cases e)) (grown_set _ _ _ _) (fun r e => by cases e; exact ⟨HG.out.1, fun y hy => h2 y hy⟩)⟩
                  · rw [HSQ.out, HPQ.out, List.map_set]
                    exact HRA.out.set vq _ (by omega)
              · have hltz2 : ¬ (q : Int) < (na : Int) := by omega
                obtain rfl : q = na := by omega
                have HR0 : Hid (Row wr W.heap.size 3 1 u3 j ((stV t p (i + 1)).map (Value.int .i64))) := Lib.hid (by rw [HNX.out, ← HST.out]; exact HRQ.out)
                have HPRE := Lib.hid HPRE2.out
                have HWS := Lib.hid HBQ.out.2
                have hcast : ((i + 1 : Nat) : Int) = (i : Int) + 1 := by omega
                clear HPRE2
                have HCL := Lib.hid (clone_cints u3 j ((stV t p (i + 1)).map (Value.int .i64)) wr HR0.out.cells (by simp [Value.oneCell']) (by omega))
                gi_wp2_with fail
                refine ⟨trivial, ((callsIn_wide (n := n - 1)).2 HCL.out).mono ?_⟩
                rintro e w5 ⟨vc5, rfl, hR5, hX5⟩
                have HHY : Hid (∃ pre, pre.length = (i + 1) ∧ (∀ y ∈ pre, y.G = (u3).ownBlock) ∧ YieldAt Fence.wide (n - 1) Tryz.prog l #[.int .i64 ((i : Int) + 1), vc5] w5 fun e W' =>
                    (e = .returned (.bool true) ∧ J (pre ++ [⟨(i + 1), vc5, (u3).ownBlock⟩]) W' ∧ KpSt n₀ Bn ⟨(i + 1), vc5, (u3).ownBlock⟩ w5 W') ∨ (e = .returned (.bool false) ∧ Jx (pre ++ [⟨(i + 1), vc5, (u3).ownBlock⟩]) W')) := Lib.hid (by
                  obtain ⟨pre, hp1, hp2, hp3⟩ := HPRE.out
                  have hY := HY.out pre ⟨(i + 1), vc5, (u3).ownBlock⟩ w5 (HJ.out pre _ _ none hp3 (grown_ext hX5) (fun r e => by cases e)) ⟨hp1.symm, by simp only [HXE.out]; omega, by rw [HXV.out]; exact hR5.mono (Nat.le_trans HN1.out HWS.out), fun g hg => ⟨Nat.le_trans HN1.out (HR0.out.lt g hg).1, Nat.lt_of_lt_of_le (HR0.out.lt g hg).2 hX5.size⟩, hp2⟩
                  exact ⟨pre, hp1, hp2, hY⟩)
                have HX5 := Lib.hid hX5
                have HR5 := Lib.hid (HR0.out.ext hX5)
                clear hR5 hX5
                obtain ⟨pre, hp1, hp2, fn, tmps, assign, body, hy, hR⟩ := HHY.out
                have HP1 := Lib.hid hp1
                have HP2 := Lib.hid hp2
                have HR := Lib.hid hR
                clear HHY hp1 hp2 hR
                gi_wp2
                refine HR.out.mono ?_
                rintro e W3 (⟨rfl, hJ3, hk3⟩ | ⟨rfl, hJx3⟩)
                · have HRW := Lib.hid (kp_row HR5.out hk3 rfl)
                  have HBL := Lib.hid (HBQ.out.1.trans ((HX5.out.mono (Nat.le_trans HX1.out HBQ.out.2)).trans hk3.1))
                  have HWS := Lib.hid (Nat.le_trans HWS.out (Nat.le_trans HX5.out.size hk3.1.size))
                  have HJ3 := Lib.hid hJ3
                  clear hJ3 hk3
                  gi_wp2
                  gi_roundg (ne - (i + 1))
                  case measure => omega
                  case rel =>
                    refine ⟨i + 1, by omega, by omega, by go_num, (show Aside _ from ⟨_, ?_, ?_, HJ3.out⟩), (show Aside _ from HRW.out), (show Aside _ from ⟨HBL.out, HWS.out⟩)⟩
                    · rw [List.length_append, HP1.out]; rfl
                    · intro y hy
                      rcases List.mem_append.1 hy with hy | hy
                      · exact HP2.out y hy
                      · rw [List.mem_singleton] at hy; subst hy; rfl
                · gi_wp2
                  refine bodyPost_ret (results_none rfl _ _ _) rfl ?_
                  exact ⟨⟨_, rfl⟩, .inr ⟨_, hJx3⟩⟩
          · have hltz : ¬ (i : Int) < (ne : Int) := by omega
            obtain rfl : i = ne := by omega
            gi_wp2
            go_end0
            obtain ⟨pre, h1, h2, h3⟩ := HPRE.out
            exact ⟨⟨_, rfl⟩, .inl ⟨pre, h1, h3⟩⟩
      · gi_wp2
        refine bodyPost_ret (results_none rfl _ _ _) rfl ?_
        exact ⟨⟨_, rfl⟩, .inr ⟨_, hJx3⟩⟩

end Go.Proofs.YtfcpnggdpaeldaaGreat

/-
  A region that draws its order within a round of a range over a function: it may be walked as it is walked elsewhere, where it defers nothing. No program is named here.
-/
namespace Go.Proofs.YtfcpnggdpaeldaaGreat
open Go.RowKit
set_option linter.unusedVariables false

section
variable {P : Program} {ops : Array Oper} {Q : Exit → Act → World → Prop} {md : Region.Mode} {l n : Nat}

theorem wpIn_of_wp {o : Oper} {a : Act} {w : World} {K : Act → World → Prop} (hd : ∀ c, o.op ≠ .defer c) (h : o.wp P a w K Q) : o.wpIn (Fence.wide.inRound l) n P a w K Q := by
  unfold Oper.wp at h
  unfold Oper.wpIn
  refine ⟨fun _ _ => trivial, ?_⟩
  rw [show (Fence.wide.inRound l).round = some l from rfl, Oper.semAt_some l a.eval o hd]
  generalize (execOp a.eval o).run P w = r at *
  cases r with
  | ok x w' =>
    cases x <;> simp only [Oper.uponIn, Oper.upon] at h ⊢
    case value v => exact h
    case skip => exact h
    case defer d => exact h
    case enter f args => exact ⟨(by intro e; cases e), CallsIn.inRound l (callsIn_wide.2 h)⟩
    case row row args =>
      refine ⟨(by intro e; cases e), fun c cs hr => ?_⟩
      obtain ⟨v, w', hR, hs⟩ := h c cs
      exact ⟨v, w', hR, stepsIn_wide.2 hs⟩
  | halt x w' => cases x <;> simp only [Oper.uponIn, Oper.upon] at h ⊢ <;> exact h

theorem wpAnyIn_of_wpAny (hl : ¬ LetsOut Q) (hd : ∀ (i : Nat) (o : Oper) c, ops[i]? = some o → o.op ≠ .defer c) : ∀ (fuel : Nat) (listed : Array Bool) (a : Act) (w : World), wpAny P md ops Q fuel listed a w → wpAnyIn (Fence.wide.inRound l) n P md ops Q fuel listed a w := by
  intro fuel
  induction fuel with
  | zero => intro listed a w h; exact h
  | succ fuel ih =>
    intro listed a w h
    refine ⟨h.1, fun i hi => ?_⟩
    have h1 := h.2 i hi
    unfold wpOp at h1
    unfold wpOpIn
    cases ho : ops[i]? with
    | none => rw [ho] at h1; exact ih _ _ _ h1
    | some o =>
      rw [ho] at h1
      simp only at h1 ⊢
      split
      · rename_i hw
        rw [if_pos hw] at h1
        rcases h1 with h1 | h1
        · exact Oper.wpIn_mono (fun a w h => ih _ a w h) (wpIn_of_wp (fun c => hd i o c ho) h1)
        · exact absurd h1.2 hl
      · rename_i hw
        rw [if_neg hw] at h1
        exact ⟨fun _ _ => trivial, ih _ _ _ h1⟩

/-- No operation defers a call. -/
def noDefer (ops : Array Oper) : Bool := ops.all fun o => match o.op with | .defer _ => false | _ => true
theorem noDefer_at (h : noDefer ops = true) : ∀ (i : Nat) (o : Oper) c, ops[i]? = some o → o.op ≠ .defer c := by
  intro i o c hi e
  obtain ⟨hlt, hx⟩ := Array.getElem?_eq_some_iff.1 hi
  have := (Array.all_eq_true.1 h) i hlt
  rw [hx, e] at this
  cases this

theorem region_round {id : Nat} {a : Act} {w : World} (hm : P.follows .mixedOrders = true) (hl : ¬ LetsOut Q) (hd : noDefer ops = true) (h : wpAny P .any ops Q ops.size (Array.replicate ops.size false) a w.drew) :
    (Code.region id ops true).wpIn (Fence.wide.inRound l) n P Q a w :=
  wpIn_region_any hm (wpAnyIn_of_wpAny hl (noDefer_at hd) _ _ _ _ h)
end

end Go.Proofs.YtfcpnggdpaeldaaGreat

/-
  A region that draws its order, whose last operation writes what another of its operations reads: the loads may be taken first all the same, where the last operation waits for them. No program is named here.
-/
namespace Go.Proofs.YtfcpnggdpaeldaaGreat
set_option linter.unusedVariables false

section
variable {P : Program} {ops : Array Oper} {Q : Exit → Act → World → Prop} {md : Region.Mode} {S : World → Prop} {st : Nat}

/-- Whatever order is picked from here on, and S holds behind every operation but st. -/
def wpAnyT (P : Program) (md : Region.Mode) (ops : Array Oper) (Q : Exit → Act → World → Prop) (S : World → Prop) (st : Nat) : Nat → Array Bool → Act → World → Prop
  | 0, listed, a, w => Region.ready md ops listed = [] ∧ Q .normal a w
  | fuel + 1, listed, a, w =>
    (Region.ready md ops listed = [] → Q .normal a w) ∧
    ∀ i ∈ Region.ready md ops listed, wpOp P ops Q i (fun a' w' => (i = st ∨ S w') ∧ wpAnyT P md ops Q S st fuel (listed.setIfInBounds i true) a' w') a w

theorem wpAny_of_T : ∀ (fuel : Nat) (listed : Array Bool) (a : Act) (w : World), wpAnyT P md ops Q S st fuel listed a w → wpAny P md ops Q fuel listed a w
  | 0, _, _, _, h => h
  | fuel + 1, _, _, _, h => ⟨h.1, fun i hi => wpOp_mono (fun a' w' h' => wpAny_of_T fuel _ a' w' h'.2) (h.2 i hi)⟩

theorem wpAnyT_first {i : Nat} {oi : Oper} {v : Value} (hi : ops[i]? = some oi) (hsel : ∀ (j : Nat) (o : Oper) cs b, ops[j]? = some o → o.op ≠ .select cs b)
    (hQ : ∀ c a w, Q (.panic c) (a.put oi.dst v) w → Q (.panic c) a w) (D : List Nat) (hst : st ∈ D)
    (hD : ∀ d ∈ D, d ≠ i → ∃ od, ops[d]? = some od ∧ ∃ e ∈ od.after, Region.binds md e = true ∧ e.on ∈ D) :
    ∀ (fuel : Nat) (listed : Array Bool) (a : Act) (w : World),
      (∀ j oj, ops[j]? = some oj → j ≠ i → listed.getD j true = false → (∀ e ∈ oj.after, Region.binds md e = true → e.on ≠ i) → oi.apart ops oj = true) →
      i ∈ Region.ready md ops listed → (∀ d ∈ D, listed.getD d true = false) → YieldsIf P ops S oi v a → S w →
      wpAnyT P md ops Q S st fuel (listed.setIfInBounds i true) (a.put oi.dst v) w → wpAnyT P md ops Q S st (fuel + 1) listed a w := by
  intro fuel
  induction fuel with
  | zero =>
    intro listed a w _ hr _ hy hS H
    refine ⟨fun h => (by rw [h] at hr; cases hr), fun j hj => ?_⟩
    by_cases hji : j = i
    · subst hji; exact hy.wpOp hi hS ⟨.inr hS, H⟩
    · have := ready_mono hj hji
      rw [H.1] at this
      cases this
  | succ fuel ih =>
    intro listed a w hfree hr hun hy hS H
    refine ⟨fun h => (by rw [h] at hr; cases hr), fun j hj => ?_⟩
    by_cases hji : j = i
    · subst hji; exact hy.wpOp hi hS ⟨.inr hS, H⟩
    · have h1 := H.2 j (ready_mono hj hji)
      obtain ⟨hjun, oj, hoj, hall⟩ := mem_ready.1 hj
      have flip : ∀ k, listed.getD k true = false → listed.getD k false = true → False := fun k h0 h1 => by
        rcases Nat.lt_or_ge k listed.size with h' | h'
        · simp [h'] at h0 h1; rw [h0] at h1; cases h1
        · simp [Array.getElem?_eq_none h'] at h1
      have hnot : ∀ e ∈ oj.after, Region.binds md e = true → e.on ≠ i := fun e he hb heq => by
        have h1 := hall e he hb
        rw [heq] at h1
        exact flip i (mem_ready.1 hr).1 h1
      have hjD : j ∉ D := fun hjd => by
        obtain ⟨od, hod, e, he, hb, hed⟩ := hD j hjd hji
        rw [hoj] at hod
        cases hod
        exact flip e.on (hun e.on hed) (hall e he hb)
      have hjst : j ≠ st := fun e => hjD (e ▸ hst)
      have h2 := wpOp_putIf hoj (hfree j oj hoj hji hjun hnot) (fun cs b => hsel i oi cs b hi) (fun cs b => hsel j oj cs b hoj) hQ hy h1
      have hfree' : ∀ k ok, ops[k]? = some ok → k ≠ i → (listed.setIfInBounds j true).getD k true = false →
          (∀ e ∈ ok.after, Region.binds md e = true → e.on ≠ i) → oi.apart ops ok = true := fun k ok hk hki hun hno => by
        refine hfree k ok hk hki ?_ hno
        by_cases hjk : j = k
        · subst hjk; exact hjun
        · rw [getD_set_ne true hjk] at hun; exact hun
      have hun' : ∀ d ∈ D, (listed.setIfInBounds j true).getD d true = false := fun d hd => by
        rw [getD_set_ne true (fun e => hjD (by rw [e]; exact hd))]; exact hun d hd
      refine wpOp_mono (fun a' w' h3 => ?_) h2
      have hSw : S w' := h3.2.1.resolve_left hjst
      refine ⟨.inr hSw, ih (listed.setIfInBounds j true) a' w' hfree' (ready_mono hr (Ne.symm hji)) hun' h3.1 hSw ?_⟩
      rw [Array.setIfInBounds_comm _ _ hji]
      exact h3.2.2

/-- What waits for number i, itself included. -/
def upOf (md : Region.Mode) (ops : Array Oper) (i : Nat) : List Nat :=
  (List.range ops.size).foldl (fun D j => if j == i || ((ops[j]?).map (·.after.any fun e => Region.binds md e && D.contains e.on)).getD false then D ++ [j] else D) []
def upOk (md : Region.Mode) (ops : Array Oper) (listed : Array Bool) (st i : Nat) : Bool :=
  (upOf md ops i).contains st && (upOf md ops i).all fun d => !(listed.getD d true) && (d == i || ((ops[d]?).map (·.after.any fun e => Region.binds md e && (upOf md ops i).contains e.on)).getD false)

/-- Take number i first, slot d := v. -/
theorem wpAnyT_take {i : Nat} {oi : Oper} {v : Value} {d : Option Tmp} {fuel : Nat} {listed : Array Bool} {a : Act} {w : World} (hi : ops[i]? = some oi) (hd : oi.dst = d)
    (hs : Region.noSelect ops = true) (hf : Region.free md ops listed i = true) (hr : (Region.ready md ops listed).contains i = true) (hu : upOk md ops listed st i = true)
    (hQ : ∀ c a w, Q (.panic c) (a.put d v) w → Q (.panic c) a w) (hy : YieldsIf P ops S oi v a) (hS : S w)
    (h : wpAnyT P md ops Q S st fuel (listed.setIfInBounds i true) (a.put d v) w) : wpAnyT P md ops Q S st (fuel + 1) listed a w := by
  subst hd
  unfold upOk at hu
  simp only [Bool.and_eq_true, List.all_eq_true, Bool.not_eq_true', Bool.or_eq_true, beq_iff_eq] at hu
  obtain ⟨h1, h2⟩ := hu
  refine wpAnyT_first hi (Region.noSelect_spec hs) hQ (upOf md ops i) (by simpa using h1) (fun d hd hne => ?_) fuel listed a w (Region.free_spec hi hf) (by simpa using hr) (fun d hd => (h2 d hd).1) hy hS h
  have h3 := (h2 d hd).2.resolve_left hne
  cases hod : ops[d]? with
  | none => rw [hod] at h3; simp at h3
  | some od =>
    rw [hod] at h3
    simp only [Option.map_some, Option.getD_some] at h3
    obtain ⟨e, he, hb⟩ := Array.any_eq_true'.1 h3
    rw [Bool.and_eq_true] at hb
    exact ⟨od, rfl, e, he, hb.1, by simpa using hb.2⟩

theorem wp_region_tail (S : World → Prop) (st : Nat) {id : Nat} {a : Act} {w : World} (hm : P.follows .mixedOrders = true) (hS : S w.drew)
    (h : S w.drew → wpAnyT P .any ops Q S st ops.size (Array.replicate ops.size false) a w.drew) : (Code.region id ops true).wp P Q a w :=
  wp_region_any hm (wpAny_of_T _ _ _ _ (h hS))

/-- The one operation that may come up is carried out. -/
theorem wpAnyT_step {i : Nat} {o : Oper} {fuel : Nat} {listed : Array Bool} {a : Act} {w : World} (hr : Region.ready md ops listed = [i]) (ho : ops[i]? = some o)
    (h : ∀ K' : Act → World → Prop, Shut (∀ a w, S w → (S w → wpAnyT P md ops Q S st fuel (listed.setIfInBounds i true) a w) → K' a w) → if Region.wanted o (yielded ops a.tmps) = true then Oper.wp P o a w K' Q else K' (a.put o.dst undef) w) :
    wpAnyT P md ops Q S st (fuel + 1) listed a w :=
  ⟨fun h0 => (by rw [hr] at h0; cases h0), fun j hj => by
    rw [hr] at hj
    obtain rfl : j = i := by simpa using hj
    exact wpOp_step ho (fun K' hK => h K' (fun a w hS hW => hK a w ⟨.inr hS, hW hS⟩))⟩

/-- The last one. -/
theorem wpAnyT_last {o : Oper} {fuel : Nat} {listed : Array Bool} {a : Act} {w : World} (hr : Region.ready md ops listed = [st]) (ho : ops[st]? = some o) (hr2 : Region.ready md ops (listed.setIfInBounds st true) = [])
    (h : ∀ K' : Act → World → Prop, Shut (∀ a w, Q .normal a w → K' a w) → if Region.wanted o (yielded ops a.tmps) = true then Oper.wp P o a w K' Q else K' (a.put o.dst undef) w) :
    wpAnyT P md ops Q S st (fuel + 1) listed a w :=
  ⟨fun h0 => (by rw [hr] at h0; cases h0), fun j hj => by
    rw [hr] at hj
    obtain rfl : j = st := by simpa using hj
    refine wpOp_step ho (fun K' hK => h K' (fun a w hq => hK a w ⟨.inl rfl, ?_⟩))
    cases fuel with
    | zero => exact ⟨hr2, hq⟩
    | succ n => exact ⟨fun _ => hq, by rw [hr2]; simp⟩⟩

/-! ### Several that may come up -/
def AllT (P : Program) (md : Region.Mode) (ops : Array Oper) (Q : Exit → Act → World → Prop) (S : World → Prop) (st : Nat) (fuel : Nat) (listed : Array Bool) (a : Act) (w : World) (rs : List Nat) : Prop :=
  ∀ i ∈ rs, wpOp P ops Q i (fun a' w' => (i = st ∨ S w') ∧ wpAnyT P md ops Q S st fuel (listed.setIfInBounds i true) a' w') a w
theorem AllT.nil {fuel : Nat} {listed : Array Bool} {a : Act} {w : World} : AllT P md ops Q S st fuel listed a w [] := fun _ h => by cases h
theorem AllT.cons {fuel : Nat} {listed : Array Bool} {a : Act} {w : World} {i : Nat} {o : Oper} {rs : List Nat} (ho : ops[i]? = some o)
    (h : ∀ K' : Act → World → Prop, Shut (∀ a w, S w → (S w → wpAnyT P md ops Q S st fuel (listed.setIfInBounds i true) a w) → K' a w) → if Region.wanted o (yielded ops a.tmps) = true then Oper.wp P o a w K' Q else K' (a.put o.dst undef) w)
    (hs : AllT P md ops Q S st fuel listed a w rs) : AllT P md ops Q S st fuel listed a w (i :: rs) := fun j hj => by
  rcases List.mem_cons.1 hj with rfl | hj
  · exact wpOp_step ho (fun K' hK => h K' (fun a w hS hW => hK a w ⟨.inr hS, hW hS⟩))
  · exact hs j hj
theorem wpAnyT_ready {rs : List Nat} {fuel : Nat} {listed : Array Bool} {a : Act} {w : World} (hr : Region.ready md ops listed = rs) (hne : rs ≠ [])
    (h : AllT P md ops Q S st fuel listed a w rs) : wpAnyT P md ops Q S st (fuel + 1) listed a w :=
  ⟨fun h0 => absurd (hr ▸ h0) hne, hr ▸ h⟩
end

end Go.Proofs.YtfcpnggdpaeldaaGreat

/-
  Laws for one step of a region that draws its order: an append to a row of the call's own; a call of a Go function, met by its contract. No program is named here.
-/
namespace Go.Proofs.YtfcpnggdpaeldaaGreat
open Go.RowKit
set_option linter.unusedVariables false

theorem step_append_rowN {P : Program} {ops : Array Oper} {o : Oper} {a : Act} {w : World} {K : Act → World → Prop} {Q : Exit → Act → World → Prop} {E : Prop}
    (hgd : o.guard = none) (s x : Operand) (t : TypeId)
    (ho : o.op = .call { callee := .builtin .append, args := #[s, x], argTypes := #[t, t] })
    (base : Nat) (e : TypeId) (i : TypeInfo) (z : Value) (size bytes : Nat) (ht : P.underlying t = some (.slice e)) (hi : P.info? e = some i) (hz : i.zero = some z)
    (hsize : i.size = size) (hby : i.bytes = bytes) (hzs : z.cells.size = size) (hsz : 0 < size)
    (v : Value) (n : Nat) (xs : List Value) (hs : a.eval s = v) (hown : Row w base e size v n xs)
    (k c : Nat) (news : List Value) (hx : a.eval x = .slice (some ⟨k, 0, none⟩) 1 c) (hl : news.length = size) (hnews : ∃ fr, w.heap[k]? = some (.cells news.toArray e fr)) (h1 : ∀ u ∈ news, u.oneCell' = true)
    (h63 : n + 1 ≤ maxLen) (hbytes : (n + 1) * bytes ≤ 140737488355328) (hbase : base ≤ w.heap.size)
    (h : ∀ v' w', Row w' base e size v' (n + 1) (xs ++ news) → w.grownBy w' v.ownBlock → (v'.ownBlock = v.ownBlock ∨ ∃ k, v'.ownBlock = some k ∧ w.heap.size ≤ k) → K (a.put o.dst v') w') :
    if Region.wanted o (yielded ops a.tmps) = true then Oper.wp P o a w K Q else E := by
  have hw : Region.wanted o (yielded ops a.tmps) = true := by simp [Region.wanted, hgd]
  rw [if_pos hw]
  obtain ⟨v', w', hr, h2, h3, h4⟩ := run_append_row (P := P) w base t o.type e i z size bytes ht hi hz hsize hby hzs hsz v n xs hown (some ⟨k, 0, none⟩) 1 c news (by omega)
    (fun _ => ⟨_, rfl, fun j u hj => by
      obtain ⟨fr, hf⟩ := hnews
      have := (List.getElem?_eq_some_iff.1 hj)
      simp [Addr.add_lit, World.cell?, hf, hj]⟩) h1 h63 hbytes hbase
  unfold Oper.wp execOp
  simp only [ho, resolve, invoke, builtin, Sem.run_bind, Sem.run_pure, Result.andThen_ok, List.map_toArray, List.map_cons, List.map_nil, hs, hx, hr]
  exact h v' w' h2 h3 h4

theorem step_call {P : Program} {ops : Array Oper} {o : Oper} {a : Act} {w : World} {K : Act → World → Prop} {Q : Exit → Act → World → Prop} {E : Prop}
    (hgd : o.guard = none) (f : FuncId) (args : Array Operand) (tys : Array TypeId) (ho : o.op = .call { callee := .value (.func f), args := args, argTypes := tys })
    (eg : ∀ args w, (callFunc f args).run P w = .ok (.enter f args) w) (vals : List Value) (hv : args.toList.map a.eval = vals) {R : Ending → World → Prop} (hc : Calls P f vals.toArray w R)
    (hK : ∀ e w', R e w' → ∃ v, e = .returned v ∧ K (a.put o.dst v) w') :
    if Region.wanted o (yielded ops a.tmps) = true then Oper.wp P o a w K Q else E := by
  have hw : Region.wanted o (yielded ops a.tmps) = true := by simp [Region.wanted, hgd]
  rw [if_pos hw]
  have hr : (execOp a.eval o).run P w = .ok (.enter f vals.toArray) w := by
    have hv' : args.map a.eval = vals.toArray := by rw [← hv]; cases args; simp
    have he : a.eval (.func f) = .func (.func f) #[] #[] := rfl
    unfold execOp
    simp only [ho, resolve, he, Deferred.ofValue, Sem.run_bind, Sem.run_pure, Result.andThen_ok, invoke, Array.append_empty, hv']
    simp [eg]
  unfold Oper.wp
  rw [hr, Oper.upon_enter]
  refine hc.mono fun e w' h => ?_
  obtain ⟨v, rfl, hk⟩ := hK e w' h
  exact hk

end Go.Proofs.YtfcpnggdpaeldaaGreat
