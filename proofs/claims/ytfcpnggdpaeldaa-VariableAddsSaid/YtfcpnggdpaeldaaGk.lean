import Derived.Test.YtfcpnggdpaeldaaGa
import Derived.Test.YtfcpnggdpaeldaaProg
import Derived.Test.YtfcpnggdpaeldaaGb
import Derived.Test.YtfcpnggdpaeldaaGj
import Derived.Test.YtfcpnggdpaeldaaGc
import Derived.BigQuiet
import Derived.Deep.QuietTactic
import Derived.Deep.LoopGhost
import Derived.Shelf.Abstract
import Derived.RangeFuncNested
import Derived.RangeFuncBound
import Derived.RangeFuncCalls
import Derived.RangeFuncLeaves
import Derived.Shelf.RegionOpen
import Derived.OwnWalkIn
import Derived.TacticsInMore
import Derived.LoopNIn
import Derived.LoopIn
import Derived.Sort.LoopGhostIn
import Derived.Sort.CutIn
/-
  The values of the states of a process, one after the other: the program's iterator.
-/
namespace Go.Proofs.Ytfcpnggdpaeldaa
open Go.RowKit
set_option linter.unusedVariables false
open Go.Shelf
attribute [local go_sem] Oper.semAt_some

/-- What a round is handed: the state's number, its values; G is the block in which the iterator keeps its own. -/
structure StA where
  k : Nat
  v : Value
  G : Option Nat
abbrev encSt (x : StA) : Array Value := #[.int .i64 (x.k : Int), x.v]
/-- What a round is told. -/
def RdSt (t : Tr) (p n₁ : Nat) (pre : List StA) (x : StA) (W : World) : Prop :=
  x.k = pre.length ∧ x.k ≤ t[p]!.events.length ∧ Row W n₁ 3 1 x.v t[p]!.vars.length ((stV t p x.k).map (Value.int .i64)) ∧ (∀ g, x.G = some g → n₁ ≤ g ∧ g < W.heap.size) ∧ ∀ y ∈ pre, y.G = x.G
/-- What a round must keep: what lay ahead, the box, and the iterator's own block. -/
def KpSt (n₀ Bn : Nat) (x : StA) (W W' : World) : Prop := Below n₀ W W' ∧ ∀ g, g = Bn ∨ x.G = some g → ∀ o, W.heap[g]? = some o → o.isCells = true → W'.heap[g]? = some o
/-- What the iterator turns. -/
def TnSt (pre : List StA) (r : Nat) : Prop := ∀ y ∈ pre, y.G = some r
theorem kpSt_t {n₀ Bn : Nat} {x : StA} {A B C : World} (h : KpSt n₀ Bn x A B) (k : KpSt n₀ Bn x B C) : KpSt n₀ Bn x A C :=
  ⟨h.1.trans k.1, fun g hg o ho hc => k.2 g hg o (h.2 g hg o ho hc) hc⟩
theorem kpSt_b {n₀ Bn B : Nat} (hB : n₀ ≤ B) (x : StA) (W : World) (l : Nat) (o o' : Obj) (hl : B ≤ l) (h : W.heap[l]? = some o) (hc : o.isCells = false) : KpSt n₀ Bn x W (W.putObj l o') :=
  ⟨(Below.refl n₀ W).grown (grownBy_putObj' W l o') (by have := (Array.getElem?_eq_some_iff.1 h).1; omega) (fun k e => by cases e; omega), fun g _ q hq hqc => by
    refine (World.putObj_heap_other (fun e => ?_)).trans hq
    subst e; rw [h] at hq; cases hq; rw [hc] at hqc; cases hqc⟩
theorem grown_set (W : World) (g o : Nat) (u : Value) : W.grownBy (W.setCell ⟨g, o, none⟩ u) (some g) :=
  ⟨rfl, rfl, rfl, by rw [size_setCell]; exact Nat.le_refl _, fun k hk hne => Below.heap_setCell W ⟨g, o, none⟩ u k (fun e => hne (by rw [e]))⟩
theorem grown_ext {W W' : World} (h : Ext W W') : W.grownBy W' none := ⟨h.os, h.tape, h.output, h.size, fun k hk _ => h.block k hk⟩

theorem kp_row {n₀ Bn base : Nat} {e : TypeId} {size n : Nat} {xs : List Value} {x : StA} {W W' : World} {v : Value} (h : Row W base e size v n xs) (hk : KpSt n₀ Bn x W W') (hG : x.G = v.ownBlock) : Row W' base e size v n xs := by
  refine h.heap fun k he => ?_
  rcases h.2 with ⟨rfl, _⟩ | ⟨g, off, cap, cur, rfl, _, hg, _⟩
  · simp [Value.ownBlock] at he
  · simp [Value.ownBlock] at he
    subst he
    rw [hk.2 g (.inr hG) _ hg rfl, hg]
/-- What is asked of the process. -/
structure StOk (t : Tr) (p : Nat) : Prop where
  nv : t[p]!.vars.length ≤ 8
  ne : t[p]!.events.length ≤ 64
  na : ∀ i, i < t[p]!.events.length → t[p]!.events[i]!.asg.length ≤ 8
  ok : ∀ i, i < t[p]!.events.length → ∀ j, j < t[p]!.events[i]!.asg.length → 0 ≤ t[p]!.events[i]!.asg[j]!.var ∧ t[p]!.events[i]!.asg[j]!.var < t[p]!.vars.length

set_option maxRecDepth 100000 in
set_option maxHeartbeats 8000000 in
theorem states1_in (n : Nat) (hn : 1 ≤ n) (l Bn n₀ n₁ : Nat) (s : ByteArray) (vv ve : Value) (t : Tr) (p : Nat) (w : World) (hV : Sl RVr 2 w vv t[p]!.vars) (hE : Sl REv 5 w ve t[p]!.events) (hs : StOk t p) (hn₀ : n₀ = w.heap.size) (J Jx : List StA → World → Prop)
    (W : World) (hW : Below n₀ w W) (hn₁ : n₁ ≤ W.heap.size) (hJ : AbidesT W.heap.size TnSt J)
    (hY : ∀ pre x W1, J pre W1 → RdSt t p n₁ pre x W1 → YieldAt Fence.wide (n - 1) Try.prog l (encSt x) W1 fun e W' =>
      (e = .returned (.bool true) ∧ J (pre ++ [x]) W' ∧ KpSt n₀ Bn x W1 W') ∨ (e = .returned (.bool false) ∧ Jx (pre ++ [x]) W'))
    (hBn : W.heap[Bn]? = some (prT s vv ve)) (h0 : J [] W) :
    CallsIn Fence.wide n Try.prog 83 #[.func (.yield l) #[] #[], .pointer (some ⟨Bn, 0, none⟩)] W fun e W' => (∃ v, e = .returned v) ∧
      ((∃ xs, xs.length = t[p]!.events.length + 1 ∧ J xs W') ∨ (∃ pre, Jx pre W')) := by
  obtain ⟨ii, hii, iz0, iz1, iz2⟩ := info_parts info_cints
  have HVV := Lib.hid hV
  have HEE := Lib.hid hE
  have HS := Lib.hid hs
  have HW := Lib.hid hW
  have HJ := Lib.hid hJ
  have HY := Lib.hid hY
  have HN := Lib.hid hn₀
  have HN1 := Lib.hid hn₁
  have HB := Lib.hid hBn
  have HJ0 := Lib.hid h0
  obtain ⟨va, vc, rfl, hvc⟩ := hV.sh
  obtain ⟨ea, ec, rfl, hec⟩ := hE.sh
  have hnv := hs.nv
  have hne := hs.ne
  have HIV := Lib.hid (initV_len t p)
  have HIVE : Hid (initV t p = t[p]!.vars.map (·.init)) := Lib.hid rfl
  generalize hxv : t[p]!.vars.length = nv at *
  generalize hxe : t[p]!.events.length = ne at *
  have HXV := Lib.hid hxv
  have HXE := Lib.hid hxe
  have b1 := cellOf HB.out 1
  have b2 := cellOf HB.out 2
  simp only [List.getElem?_toArray, List.getElem?_cons_zero, List.getElem?_cons_succ] at b1 b2
  clear hV hE hs hW hJ hY hn₀ hn₁ hBn h0 hxv hxe
  refine callsIn_of_wp Try.func83 rfl trivial ?_ rfl
  simp only [Try.ntmps83, List.size_toArray, List.length_cons, List.length_nil, Nat.reduceAdd, Nat.reduceSub, Array.replicate_succ, Array.replicate_zero, List.push_toArray, List.append_toArray, List.nil_append, List.cons_append]
  gi_wp2
  clear b1 b2
  gi_loopg [3, 13] nv (fun g s3 s13 wr => ∃ j : Nat, j ≤ nv ∧ nv - j ≤ g ∧ s13 = .int .i64 j ∧ Aside (Row wr W.heap.size 3 1 s3 j (((initV t p).take j).map (Value.int .i64))) ∧ Aside (J [] wr) ∧ Aside (Ext W wr))
  case atStart => exact ⟨0, Nat.zero_le _, by omega, rfl, (show Row _ _ _ _ _ _ _ from by rw [List.take_zero]; exact Row.mkNil _ _ _ _), (show Aside _ from HJ0.out), Ext.rf _⟩
  case round =>
    obtain ⟨j, hj, hg, rfl, HR, HJJ, HEK⟩ := hrel
    by_cases hlt : j < nv
    · have hltz : (j : Int) < (nv : Int) := by omega
      have hjz : (0 : Int) ≤ (j : Int) := by omega
      obtain ⟨VB, VO, VC, hve, hlV, hVB, k0, k1⟩ := var_at HVV.out j (by rw [HXV.out]; exact hlt)
      simp only [Value.slice.injEq] at hve
      obtain ⟨rfl, hzz, rfl⟩ := hve
      have HBW : Hid (Below w.heap.size w wr) := Lib.hid ((HN.out ▸ HW.out).trans (HEK.out.mono (HN.out ▸ HW.out).size))
      have m0 := (HBW.out.cell (p := ⟨VB, VO + j * 2, none⟩) hVB).trans k0
      have m1 := (HBW.out.cell (p := ⟨VB, VO + j * 2 + 1, none⟩) hVB).trans k1
      have HNX : Hid (((initV t p).take (j + 1)).map (Value.int .i64) = ((initV t p).take j).map (Value.int .i64) ++ [.int .i64 t[p]!.vars[j]!.init]) := Lib.hid (by
        have hlj : j < (initV t p).length := by rw [HIV.out]; exact hlt
        rw [take_snoc' _ j hlj, List.map_append, List.map_cons, List.map_nil]
        congr 3
        rw [HIVE.out, getElem!_pos (t[p]!.vars.map (·.init)) j (by rw [List.length_map, HXV.out]; exact hlt), getElem!_pos t[p]!.vars j (by rw [HXV.out]; exact hlt)]; simp)
      generalize t[p]!.vars[j]!.init = z at *
      generalize t[p]!.vars[j]!.name = nm at *
      have hsz := HEK.out.sz
      have HBB := Lib.hid (heap_new_eq (w := wr.alloc (.cells #[.string nm, .int .i64 z] 52)) (o := .cells #[.int .i64 z] 3) (b := wr.heap.size + 1) (by simp))
      clear k0 k1 hzz
      gi_wp2_with ((gi_at_builtin; refine wpListIn_append_rowI rfl _ _ 30 rfl W.heap.size 3 ii (.int .i64 0) 1 8 Try.underlying30 hii iz0 iz1 iz2 rfl (by decide) _ j _ rfl ((HR.out.al _).al _) (wr.heap.size + 1) 1 [.int .i64 z] rfl rfl ⟨_, HBB.out⟩ (by simp [Value.oneCell']) (by unfold maxLen; omega) (by omega) (by simp; omega) ?_; intro v8 w8 hown8 hgrow8 hblk8; have HOWN := Lib.hid hown8; have HG8 := Lib.hid hgrow8; clear hown8 hgrow8 hblk8))
      gi_roundg (nv - (j + 1))
      case measure => omega
      case rel =>
        refine ⟨j + 1, by omega, by omega, by go_num, (show Aside _ from by rw [HNX.out]; exact HOWN.out), (show Aside _ from ?_), (show Ext _ _ from ((HEK.out.al _).al _).gr HG8.out (fun q hq => (HR.out.lt q hq).1))⟩
        exact HJ.out [] _ _ _ (HJ.out [] _ _ none (HJ.out [] _ _ none HJJ.out (World.grownBy_alloc _ _ none) (fun r e => by cases e)) (World.grownBy_alloc _ _ none) (fun r e => by cases e)) HG8.out (fun r e => ⟨(HR.out.lt r e).1, fun y hy => by cases hy⟩)
    · have hltz : ¬ (j : Int) < (nv : Int) := by omega
      obtain rfl : j = nv := by omega
      have HR0 : Hid (Row wr W.heap.size 3 1 u3 j ((stV t p 0).map (Value.int .i64))) := Lib.hid (by
        have := HR.out
        rw [List.take_of_length_le (by rw [HIV.out]; exact Nat.le_refl _)] at this
        rw [stV_zero]; exact this)
      have HL0 := Lib.hid (stV_len t p 0 (Nat.zero_le _))
      have HWW : Hid (Below n₀ w wr) := Lib.hid (HW.out.trans (HEK.out.mono (by rw [HN.out]; exact (HN.out ▸ HW.out).size)))
      have HWS : Hid (W.heap.size ≤ wr.heap.size) := Lib.hid HEK.out.sz
      have HPRE : Hid (∃ pre : List StA, pre.length = 0 ∧ (∀ y ∈ pre, y.G = u3.ownBlock) ∧ J pre wr) := Lib.hid ⟨[], rfl, (fun y hy => absurd hy (by simp)), HJJ.out⟩
      have HBR := Lib.hid (HEK.out.hp HB.out)
      clear HR
      have HCL := Lib.hid (clone_cints u3 j ((stV t p 0).map (Value.int .i64)) wr HR0.out.cells (by simp [Value.oneCell']) (by omega))
      gi_wp2_with fail
      refine ⟨trivial, ((callsIn_wide (n := n - 1)).2 HCL.out).mono ?_⟩
      rintro e w5 ⟨vc5, rfl, hR5, hX5⟩
      have HHY : Hid (∃ pre, pre.length = 0 ∧ (∀ y ∈ pre, y.G = (u3).ownBlock) ∧ YieldAt Fence.wide (n - 1) Try.prog l #[.int .i64 0, vc5] w5 fun e W' =>
          (e = .returned (.bool true) ∧ J (pre ++ [⟨0, vc5, (u3).ownBlock⟩]) W' ∧ KpSt n₀ Bn ⟨0, vc5, (u3).ownBlock⟩ w5 W') ∨ (e = .returned (.bool false) ∧ Jx (pre ++ [⟨0, vc5, (u3).ownBlock⟩]) W')) := Lib.hid (by
        obtain ⟨pre, hp1, hp2, hp3⟩ := HPRE.out
        have hY := HY.out pre ⟨0, vc5, (u3).ownBlock⟩ w5 (HJ.out pre _ _ none hp3 (grown_ext hX5) (fun r e => by cases e)) ⟨hp1.symm, by simp only [HXE.out]; omega, by rw [HXV.out]; exact hR5.mono (Nat.le_trans HN1.out HWS.out), fun g hg => ⟨Nat.le_trans HN1.out (HR0.out.lt g hg).1, Nat.lt_of_lt_of_le (HR0.out.lt g hg).2 hX5.size⟩, hp2⟩
        exact ⟨pre, hp1, hp2, hY⟩)
      have HX5 := Lib.hid hX5
      have HR5 := Lib.hid (HR0.out.ext hX5)
      clear hR5 hX5
      obtain ⟨pre, hp1, hp2, fn, tmps, assign, body, hy, hR⟩ := HHY.out
      have HP1 := Lib.hid hp1
      have HP2 := Lib.hid hp2
      have HR := Lib.hid hR
      clear HHY hp1 hp2 hR
      gi_wp2
      refine HR.out.mono ?_
      rintro e W3 (⟨rfl, hJ3, hk3⟩ | ⟨rfl, hJx3⟩)
      · have HRW := Lib.hid (kp_row HR5.out hk3 rfl)
        have HBW := Lib.hid (hk3.2 Bn (.inl rfl) _ (HX5.out.hp HBR.out) rfl)
        have HBL := Lib.hid (HWW.out.trans ((HX5.out.mono (by rw [HN.out]; exact (HN.out ▸ HWW.out).size)).trans hk3.1))
        have HWS := Lib.hid (Nat.le_trans HWS.out (Nat.le_trans HX5.out.size hk3.1.size))
        have HJ3 := Lib.hid hJ3
        have b2 := cellOf HBW.out 2
        simp only [List.getElem?_toArray, List.getElem?_cons_zero, List.getElem?_cons_succ] at b2
        clear hJ3 hk3
        gi_wp2
        clear b2
        gi_loopg [31] ne (fun g s31 wr => ∃ i : Nat, i ≤ ne ∧ ne - i ≤ g ∧ s31 = .int .i64 i ∧ Aside (∃ pre : List StA, pre.length = i + 1 ∧ (∀ y ∈ pre, y.G = u3.ownBlock) ∧ J pre wr) ∧ Aside (Row wr W.heap.size 3 1 u3 j ((stV t p i).map (Value.int .i64))) ∧ Aside (Below n₀ w wr ∧ W.heap.size ≤ wr.heap.size))
        case atStart =>
          refine ⟨0, Nat.zero_le _, by omega, rfl, (show Aside _ from ⟨_, ?_, ?_, HJ3.out⟩), (show Aside _ from HRW.out), (show Aside _ from ⟨HBL.out, HWS.out⟩)⟩
          · rw [List.length_append, HP1.out]; rfl
          · intro y hy
            rcases List.mem_append.1 hy with hy | hy
            · exact HP2.out y hy
            · rw [List.mem_singleton] at hy; subst hy; rfl
        case round =>
          obtain ⟨i, hi, hg, rfl, HPRE, HRI, HBI⟩ := hrel
          have HX1 : Hid (n₀ ≤ W.heap.size) := Lib.hid (by rw [HN.out]; exact (HN.out ▸ HW.out).size)
          by_cases hlti : i < ne
          · have hltz : (i : Int) < (ne : Int) := by omega
            have hiz : (0 : Int) ≤ (i : Int) := by omega
            obtain ⟨EB, EO, EC, ua, hee, hlE, hEB, k0, k1, k2, k3, k4, hA⟩ := event_at HEE.out i (by rw [HXE.out]; exact hlti)
            simp only [Value.slice.injEq] at hee
            obtain ⟨rfl, hzz, rfl⟩ := hee
            have HAA := Lib.hid hA
            obtain ⟨aa, ac, rfl, hac⟩ := hA.sh
            have HBV : Hid (Below w.heap.size w wr) := Lib.hid (HN.out ▸ HBI.out.1)
            have m0 := (HBV.out.cell (p := ⟨EB, EO + i * 5, none⟩) hEB).trans k0
            have m1 := (HBV.out.cell (p := ⟨EB, EO + i * 5 + 1, none⟩) hEB).trans k1
            have m2 := (HBV.out.cell (p := ⟨EB, EO + i * 5 + 2, none⟩) hEB).trans k2
            have m3 := (HBV.out.cell (p := ⟨EB, EO + i * 5 + 3, none⟩) hEB).trans k3
            have m4 := (HBV.out.cell (p := ⟨EB, EO + i * 5 + 4, none⟩) hEB).trans k4
            have hna := HS.out.na i (by rw [HXE.out]; exact hlti)
            have HOK := Lib.hid (HS.out.ok i (by rw [HXE.out]; exact hlti))
            have HNX := Lib.hid (stV_succ t p i (by rw [HXE.out]; exact hlti))
            have HST := Lib.hid (stepTo_all (stV t p i) t[p]!.events[i]! _ rfl)
            have HSL := Lib.hid (stV_len t p i (by rw [HXE.out]; omega))
            have HSS := Lib.hid (fun j h => stepTo_succ (stV t p i) t[p]!.events[i]! j h)
            have HSN := Lib.hid (stepTo_len (stV t p i) t[p]!.events[i]!)
            have HSZ := Lib.hid (stepTo_zero (stV t p i) t[p]!.events[i]!)
            generalize hevx : t[p]!.events[i]! = x at *
            generalize hnax : x.asg.length = na at *
            have HNA := Lib.hid hnax
            rw [HXV.out] at HOK HSL
            clear k0 k1 k2 k3 k4 hA hzz hevx hnax
            gi_wp2
            obtain ⟨wo, rfl⟩ : ∃ x, x = wr := ⟨_, rfl⟩
            clear m0 m1 m2 m3 m4
            gi_loopg [39] na (fun g s39 wr => ∃ q : Nat, q ≤ na ∧ na - q ≤ g ∧ s39 = .int .i64 q ∧ Aside (∃ pre : List StA, pre.length = i + 1 ∧ (∀ y ∈ pre, y.G = u3.ownBlock) ∧ J pre wr) ∧ Aside (Row wr W.heap.size 3 1 u3 j ((stepTo (stV t p i) x q).map (Value.int .i64))) ∧ Aside (Below n₀ w wr ∧ W.heap.size ≤ wr.heap.size))
            case atStart =>
              refine ⟨0, Nat.zero_le _, by omega, rfl, (show Aside _ from ?_), (show Aside _ from ?_), (show Aside _ from ⟨HBI.out.1.alloc (by have := HBI.out.2; have := HX1.out; omega) _, by have := HBI.out.2; simp; omega⟩)⟩
              · obtain ⟨pre, h1, h2, h3⟩ := HPRE.out
                exact ⟨pre, h1, h2, HJ.out pre _ _ none h3 (World.grownBy_alloc _ _ none) (fun r e => by cases e)⟩
              · rw [HSZ.out]; exact HRI.out.al _
            case round =>
              obtain ⟨q, hq, hg2, rfl, HPRE2, HRQ, HBQ⟩ := hrel
              by_cases hltq : q < na
              · have hltz2 : (q : Int) < (na : Int) := by omega
                have hqz : (0 : Int) ≤ (q : Int) := by omega
                obtain ⟨AB, AO, AC, hae, hlA, hAB, a0, a1⟩ := asg_at HAA.out q (by rw [HNA.out]; exact hltq)
                simp only [Value.slice.injEq] at hae
                obtain ⟨rfl, hzz, rfl⟩ := hae
                have HBV2 : Hid (Below w.heap.size w wr) := Lib.hid (HN.out ▸ HBQ.out.1)
                have e0 := (HBV2.out.cell (p := ⟨AB, AO + q * 2, none⟩) hAB).trans a0
                have e1 := (HBV2.out.cell (p := ⟨AB, AO + q * 2 + 1, none⟩) hAB).trans a1
                have hok := HOK.out q hltq
                have HSQ := Lib.hid (HSS.out q hltq)
                have HLQ := Lib.hid (HSN.out q)
                obtain ⟨vq, hvq⟩ : ∃ vq : Nat, x.asg[q]!.var = (vq : Int) := ⟨x.asg[q]!.var.toNat, by omega⟩
                have HPQ : Hid (putA (stepTo (stV t p i) x q) x.asg[q]! = (stepTo (stV t p i) x q).set vq x.asg[q]!.value) := Lib.hid (by unfold putA; rw [hvq]; rfl)
                rw [hvq] at e0 hok
                have hvj : vq < j := by omega
                have hvz : (0 : Int) ≤ (vq : Int) := by omega
                have hvjz : (vq : Int) < (j : Int) := by omega
                generalize x.asg[q]!.value = z at *
                obtain ⟨G, O9, cap, hu3, hGb, hG2, _⟩ := HRQ.out.shape (by omega)
                subst hu3
                have hHRA := (HRQ.out.al (.cells #[.int .i64 vq, .int .i64 z] 57))
                obtain ⟨u0, hu0⟩ : ∃ u, (wr.alloc (.cells #[.int .i64 vq, .int .i64 z] 57)).cell? ⟨G, O9 + vq, none⟩ = some u := by
                  rw [hHRA.cell vq (by omega)]
                  rw [List.getElem?_map, List.getElem?_eq_getElem (by rw [HLQ.out, HSL.out]; exact hvj)]
                  exact ⟨_, rfl⟩
                have hfr := hHRA.free (O9 + vq)
                have HRA := Lib.hid hHRA
                have HG := Lib.hid (And.intro hGb hG2)
                have hGne : G ≠ wr.heap.size := by omega
                clear a0 a1 hzz hHRA hok hvq hGb hG2
                gi_wp2
                gi_roundg (na - (q + 1))
                case measure => omega
                case rel =>
                  refine ⟨q + 1, by omega, by omega, by go_num, (show Aside _ from ?_), (show Aside _ from ?_), (show Aside _ from ⟨(HBQ.out.1.alloc (by have := HBQ.out.2; have := HX1.out; omega) _).setCell (p := ⟨G, O9 + vq, none⟩) (by have := HG.out; have := HX1.out; show n₀ ≤ G; omega) _, by have := HBQ.out.2; rw [size_setCell]; simp; omega⟩)⟩
                  · obtain ⟨pre, h1, h2, h3⟩ := HPRE2.out
                    exact ⟨pre, h1, h2, HJ.out pre _ _ _ (HJ.out pre _ _ none h3 (World.grownBy_alloc _ _ none) (fun r e => by cases e)) (grown_set _ _ _ _) (fun r e => by cases e; exact ⟨HG.out.1, fun y hy => h2 y hy⟩)⟩
                  · rw [HSQ.out, HPQ.out, List.map_set]
                    exact HRA.out.set vq _ (by omega)
              · have hltz2 : ¬ (q : Int) < (na : Int) := by omega
                obtain rfl : q = na := by omega
                have HR0 : Hid (Row wr W.heap.size 3 1 u3 j ((stV t p (i + 1)).map (Value.int .i64))) := Lib.hid (by rw [HNX.out, ← HST.out]; exact HRQ.out)
                have HPRE := Lib.hid HPRE2.out
                have HWS := Lib.hid HBQ.out.2
                have hcast : ((i + 1 : Nat) : Int) = (i : Int) + 1 := by omega
                clear HPRE2
                have HCL := Lib.hid (clone_cints u3 j ((stV t p (i + 1)).map (Value.int .i64)) wr HR0.out.cells (by simp [Value.oneCell']) (by omega))
                gi_wp2_with fail
                refine ⟨trivial, ((callsIn_wide (n := n - 1)).2 HCL.out).mono ?_⟩
                rintro e w5 ⟨vc5, rfl, hR5, hX5⟩
                have HHY : Hid (∃ pre, pre.length = (i + 1) ∧ (∀ y ∈ pre, y.G = (u3).ownBlock) ∧ YieldAt Fence.wide (n - 1) Try.prog l #[.int .i64 ((i : Int) + 1), vc5] w5 fun e W' =>
                    (e = .returned (.bool true) ∧ J (pre ++ [⟨(i + 1), vc5, (u3).ownBlock⟩]) W' ∧ KpSt n₀ Bn ⟨(i + 1), vc5, (u3).ownBlock⟩ w5 W') ∨ (e = .returned (.bool false) ∧ Jx (pre ++ [⟨(i + 1), vc5, (u3).ownBlock⟩]) W')) := Lib.hid (by
                  obtain ⟨pre, hp1, hp2, hp3⟩ := HPRE.out
                  have hY := HY.out pre ⟨(i + 1), vc5, (u3).ownBlock⟩ w5 (HJ.out pre _ _ none hp3 (grown_ext hX5) (fun r e => by cases e)) ⟨hp1.symm, by simp only [HXE.out]; omega, by rw [HXV.out]; exact hR5.mono (Nat.le_trans HN1.out HWS.out), fun g hg => ⟨Nat.le_trans HN1.out (HR0.out.lt g hg).1, Nat.lt_of_lt_of_le (HR0.out.lt g hg).2 hX5.size⟩, hp2⟩
                  exact ⟨pre, hp1, hp2, hY⟩)
                have HX5 := Lib.hid hX5
                have HR5 := Lib.hid (HR0.out.ext hX5)
                clear hR5 hX5
                obtain ⟨pre, hp1, hp2, fn, tmps, assign, body, hy, hR⟩ := HHY.out
                have HP1 := Lib.hid hp1
                have HP2 := Lib.hid hp2
                have HR := Lib.hid hR
                clear HHY hp1 hp2 hR
                gi_wp2
                refine HR.out.mono ?_
                rintro e W3 (⟨rfl, hJ3, hk3⟩ | ⟨rfl, hJx3⟩)
                · have HRW := Lib.hid (kp_row HR5.out hk3 rfl)
                  have HBL := Lib.hid (HBQ.out.1.trans ((HX5.out.mono (Nat.le_trans HX1.out HBQ.out.2)).trans hk3.1))
                  have HWS := Lib.hid (Nat.le_trans HWS.out (Nat.le_trans HX5.out.size hk3.1.size))
                  have HJ3 := Lib.hid hJ3
                  clear hJ3 hk3
                  gi_wp2
                  gi_roundg (ne - (i + 1))
                  case measure => omega
                  case rel =>
                    refine ⟨i + 1, by omega, by omega, by go_num, (show Aside _ from ⟨_, ?_, ?_, HJ3.out⟩), (show Aside _ from HRW.out), (show Aside _ from ⟨HBL.out, HWS.out⟩)⟩
                    · rw [List.length_append, HP1.out]; rfl
                    · intro y hy
                      rcases List.mem_append.1 hy with hy | hy
                      · exact HP2.out y hy
                      · rw [List.mem_singleton] at hy; subst hy; rfl
                · gi_wp2
                  refine bodyPost_ret (results_none rfl _ _ _) rfl ?_
                  exact ⟨⟨_, rfl⟩, .inr ⟨_, hJx3⟩⟩
          · have hltz : ¬ (i : Int) < (ne : Int) := by omega
            obtain rfl : i = ne := by omega
            gi_wp2
            go_end0
            obtain ⟨pre, h1, h2, h3⟩ := HPRE.out
            exact ⟨⟨_, rfl⟩, .inl ⟨pre, h1, h3⟩⟩
      · gi_wp2
        refine bodyPost_ret (results_none rfl _ _ _) rfl ?_
        exact ⟨⟨_, rfl⟩, .inr ⟨_, hJx3⟩⟩

end Go.Proofs.Ytfcpnggdpaeldaa

/-
  The values of one state: the program's state.
-/
namespace Go.Proofs.Ytfcpnggdpaeldaa
open Go.RowKit
set_option linter.unusedVariables false
open Go.Shelf
attribute [local go_sem] Oper.semAt_some

theorem states_in (n : Nat) (s : ByteArray) (vv ve : Value) (w : World) : CallsIn Fence.wide n Try.prog 70 #[.agg #[.string s, vv, ve]] w fun e w' =>
    e = .returned (.func (.func 83) #[] #[.pointer (some ⟨w.heap.size, 0, none⟩)]) ∧ w' = w.alloc (prT s vv ve) := by
  refine callsIn_of_wp Try.func70 rfl trivial ?_ rfl
  simp only [Try.ntmps70, List.size_toArray, List.length_cons, List.length_nil, Nat.reduceAdd, Nat.reduceSub, Array.replicate_succ, Array.replicate_zero, List.push_toArray, List.append_toArray, List.nil_append, List.cons_append]
  gi_wp2
  go_ret
  exact ⟨rfl, rfl⟩

theorem enters_83 : ∀ args w, (callFunc 83 args).run Try.prog w = .ok (.enter 83 args) w := enters_of Try.func83 (by kernel_rfl) rfl

theorem states_stops (n : Nat) (hn : 1 ≤ n) (Bn : Nat) (s : ByteArray) (vv ve : Value) (t : Tr) (p : Nat) (w w0 : World) (hV : Sl RVr 2 w vv t[p]!.vars) (hE : Sl REv 5 w ve t[p]!.events) (hs : StOk t p) (h0 : Below w.heap.size w w0) (hBn : w0.heap[Bn]? = some (prT s vv ve)) :
    SeqStopsR Fence.wide n Try.prog 83 #[.pointer (some ⟨Bn, 0, none⟩)] encSt (RdSt t p w0.heap.size) (KpSt w.heap.size Bn) TnSt (fun xs => xs.length = t[p]!.events.length + 1) (fun _ => True) w0 := fun l J Jx W hW hJ hY hJ0 =>
  (states1_in n hn l Bn w.heap.size w0.heap.size s vv ve t p w hV hE hs rfl J Jx W (h0.trans (hW.mono h0.size)) hW.size hJ hY ((hW.block Bn (Array.getElem?_eq_some_iff.1 hBn).1).trans hBn) hJ0).mono
    fun e W' ⟨h1, h2⟩ => ⟨h1, h2.imp id (fun ⟨pre, h⟩ => ⟨pre, trivial, h⟩)⟩

theorem Row.turn {w w' : World} {base : Nat} {e : TypeId} {size : Nat} {v : Value} {n : Nat} {xs : List Value} {row : Option Nat} (h : Row w base e size v n xs) (hg : w.grownBy w' row) (hr : ∀ r, row = some r → ∃ o : Obj, w.heap[r]? = some o ∧ o.isCells = false) : Row w' base e size v n xs := by
  refine h.grown hg ?_
  rcases h.2 with ⟨rfl, _⟩ | ⟨g, off, cap, cur, rfl, _, hgg, _⟩
  · exact .inl rfl
  · refine .inr fun e => ?_
    obtain ⟨o, ho, hc⟩ := hr g e.symm
    rw [hgg] at ho; cases ho; cases hc
theorem heap_grown {W W' : World} {row : Option Nat} {k : Nat} {o : Obj} (h : W.heap[k]? = some o) (hg : W.grownBy W' row) (hr : ∀ r, row = some r → r ≠ k) : W'.heap[k]? = some o :=
  (hg.block k (Array.getElem?_eq_some_iff.1 h).1 (fun e => hr k e.symm rfl)).trans h

theorem rdSt_own {t : Tr} {p n₁ : Nat} {pre : List StA} {x : StA} {W W' : World} {row : Option Nat} (h : RdSt t p n₁ pre x W) (hg : W.grownBy W' row) (hr : ∀ r, row = some r → ∃ o : Obj, W.heap[r]? = some o ∧ o.isCells = false) : RdSt t p n₁ pre x W' :=
  ⟨h.1, h.2.1, h.2.2.1.turn hg hr, fun g e => ⟨(h.2.2.2.1 g e).1, Nat.lt_of_lt_of_le (h.2.2.2.1 g e).2 hg.size⟩, h.2.2.2.2⟩
theorem keeps_grown {W W' : World} {base : Nat} {e : TypeId} {size n : Nat} {v : Value} {xs : List Value} (h : Row W base e size v n xs) (hg : W.grownBy W' v.ownBlock) : KeepsOthers W W' :=
  ⟨hg.size, fun k o hk ho => by
    refine (hg.block k (Array.getElem?_eq_some_iff.1 hk).1 (fun e' => ?_)).trans hk
    rcases h.2 with ⟨rfl, _⟩ | ⟨g, off, cap, cur, rfl, _, hgg, _⟩
    · simp [Value.ownBlock] at e'
    · simp [Value.ownBlock] at e'
      subst e'
      rw [hgg] at hk; cases hk; cases ho⟩
/-- Between two rounds of 'state'. -/
def SvI (k : Nat) (w : World) (pre : List StA) (W : World) : Prop :=
  W.heap[w.heap.size + 1]? = some (.cells #[.int .i64 k] 3) ∧ W.heap[w.heap.size + 1 + 1]? = some (.cells #[.slice none 0 0] 30) ∧ pre.length ≤ k ∧ Ext w W
/-- A round of 'state' has left by a return. -/
def SvX (t : Tr) (p k n₁ : Nat) (w : World) (c : Code) (pre : List StA) (W : World) : Prop :=
  c = .ret ∧ (∃ u, W.heap[w.heap.size + 1 + 1]? = some (.cells #[u] 30) ∧ Row W n₁ 3 1 u t[p]!.vars.length ((stV t p k).map (Value.int .i64))) ∧ Ext w W
theorem svI_own (k : Nat) (w : World) (B : Nat) (hB : w.heap.size ≤ B) : OwnFrom B (SvI k w) := fun s A A' row hs hg hr => by
  obtain ⟨h0, h1, h2, hE⟩ := hs
  have hr' := fun r e => (hr r e).2
  exact ⟨heap_kept h0 hg hr', heap_kept h1 hg hr', h2, ownFrom_below (β := Unit) (Nat.le_refl _) hB () A A' row hE hg hr⟩
theorem svI_turn (k : Nat) (w : World) (B : Nat) (hB : w.heap.size + 3 ≤ B) : AbidesT B TnSt (SvI k w) := fun s A A' row hs hg hr => by
  obtain ⟨h0, h1, h2, hE⟩ := hs
  exact ⟨heap_grown h0 hg (fun r e => by have := (hr r e).1; omega), heap_grown h1 hg (fun r e => by have := (hr r e).1; omega), h2, hE.gr hg (fun r e => by have := (hr r e).1; omega)⟩
theorem svX_own (t : Tr) (p k n₁ : Nat) (w : World) (c : Code) (B : Nat) (hB : w.heap.size ≤ B) : OwnFrom B (SvX t p k n₁ w c) := fun s A A' row hs hg hr => by
  obtain ⟨hc, ⟨u, h1, h2⟩, hE⟩ := hs
  have hr' := fun r e => (hr r e).2
  exact ⟨hc, ⟨u, heap_kept h1 hg hr', h2.turn hg hr'⟩, ownFrom_below (β := Unit) (Nat.le_refl _) hB () A A' row hE hg hr⟩

set_option maxHeartbeats 8000000 in
set_option maxRecDepth 100000 in
theorem stateP_calls (vs : List Value) (t : Tr) (p k : Nat) (w : World) (hx : RPr w vs t[p]!) (hs : StOk t p) (hk : k ≤ t[p]!.events.length) :
    Calls Try.prog 48 #[.agg vs.toArray, .int .i64 k] w fun e w' => ∃ v, e = .returned v ∧ Row w' w.heap.size 3 1 v t[p]!.vars.length ((stV t p k).map (Value.int .i64)) ∧ Ext w w' := by
  obtain ⟨vv, ve, rfl, hV, hE⟩ := hx
  have HVV := Lib.hid hV
  have HEE := Lib.hid hE
  have HS := Lib.hid hs
  obtain ⟨va, vc, rfl, hvc⟩ := hV.sh
  obtain ⟨ea, ec, rfl, hec⟩ := hE.sh
  generalize hnm : t[p]!.name = nm at *
  generalize hxv : t[p]!.vars.length = nv at *
  generalize hxe : t[p]!.events.length = ne at *
  have HXV := Lib.hid hxv
  have HXE := Lib.hid hxe
  have HB := Lib.hid (fun k' o => allocs_at [prT nm (.slice va nv vc) (.slice ea ne ec), .cells #[.int .i64 k] 3, .cells #[.slice none 0 0] 30] w k' o)
  have hE3 : Ext w (((w.alloc (prT nm (.slice va nv vc) (.slice ea ne ec))).alloc (.cells #[.int .i64 k] 3)).alloc (.cells #[.slice none 0 0] 30)) := (by repeat (first | refine Ext.st ?_ (by first | exact Nat.le_refl _ | exact Nat.le_succ _ | assumption | omega) _ | refine Ext.al ?_ _ | refine Ext.dr ?_ | refine Ext.drN ?_ _ | exact Ext.rf _))
  clear hV hE hs hxv hxe hnm
  refine (callsIn_wide (n := 9)).1 ?_
  refine callsIn_of_wp_marks Try.func48 rfl trivial ?_ rfl
  simp only [Try.ntmps48, List.size_toArray, List.length_cons, List.length_nil, Nat.reduceAdd, Nat.reduceSub, Array.replicate_succ, Array.replicate_zero, List.push_toArray, List.append_toArray, List.nil_append, List.cons_append]
  gi_wp2_with fail
  obtain ⟨w3, hw3⟩ : ∃ z, ((w.alloc (prT nm (.slice va nv vc) (.slice ea ne ec))).alloc (.cells #[.int .i64 k] 3)).alloc (.cells #[.slice none 0 0] 30) = z := ⟨_, rfl⟩
  have HB : Hid (∀ k' o, _ → w3.heap[w.heap.size + k']? = some o) := Lib.hid (fun k' o h => hw3 ▸ HB.out k' o h)
  have hsz3 : w3.heap.size = w.heap.size + 3 := by rw [← hw3]; simp
  rw [hw3] at hE3 ⊢
  clear hw3
  refine ⟨trivial, (states_in 8 _ _ _ _).mono ?_⟩
  rintro e w' ⟨rfl, rfl⟩
  gi_wp2
  have hE0 : Ext w (w3.alloc (prT nm (.slice va nv vc) (.slice ea ne ec))) := hE3.al _
  have hXT : Ext w3 (w3.alloc (prT nm (.slice va nv vc) (.slice ea ne ec))) := (Ext.rf w3).al _
  have hc6 : (w3.alloc (prT nm (.slice va nv vc) (.slice ea ne ec))).heap[w.heap.size + 3]? = some (prT nm (.slice va nv vc) (.slice ea ne ec)) := heap_new_eq hsz3.symm
  have hsz : (w3.alloc (prT nm (.slice va nv vc) (.slice ea ne ec))).heap.size = w.heap.size + 3 + 1 := by simp [hsz3]
  have hi0 : SvI k w [] (w3.alloc (prT nm (.slice va nv vc) (.slice ea ne ec))) := ⟨hXT.hp (HB.out 1 _ rfl), hXT.hp (HB.out 2 _ rfl), Nat.zero_le _, hE0⟩
  obtain ⟨W0, hW0⟩ : ∃ W0, w3.alloc (prT nm (.slice va nv vc) (.slice ea ne ec)) = W0 := ⟨_, rfl⟩
  rw [hW0] at hE0 hc6 hsz hi0 ⊢
  clear hW0 hXT
  refine wpIn_rangeFunc_R rfl (by decide) (gf := 83) (lb := #[.pointer (some ⟨w.heap.size + 3, 0, none⟩)]) rfl trivial enters_83
    (states_stops 8 (by decide) (w.heap.size + 3) nm _ _ t p w W0 HVV.out HEE.out HS.out hE0 hc6) kpSt_t (kpSt_b hE0.sz) (Below.refl _ _) (fun _ => rfl)
    (SvI k w) (SvX t p k W0.heap.size w) (svI_own k w _ (by omega)) (svI_turn k w _ (by omega)) (fun c => svX_own t p k _ w c _ (by omega)) hi0
    (fun pre x a' W => RdSt t p W0.heap.size pre x W ∧ a' = { tmps := #[.agg #[.string nm, .slice va nv vc, .slice ea ne ec], .int .i64 k, .pointer (some ⟨w.heap.size, 0, none⟩), .pointer (some ⟨w.heap.size + 1, 0, none⟩), .pointer (some ⟨w.heap.size + 1 + 1, 0, none⟩), .int .i64 (x.k : Int), x.v, .agg #[.string nm, .slice va nv vc, .slice ea ne ec], .func (.func 83) #[] #[.pointer (some ⟨w.heap.size + 3, 0, none⟩)], .int .i64 (x.k : Int), x.v, undef, undef, undef, undef], defers := [] })
    (fun pre x a' s A A' row hs hg hr => ⟨rdSt_own hs.1 hg (fun r e => (hr r e).2), hs.2⟩)
    ?assign ?body ?done ?stop
  case assign =>
    rintro l pre x W K hi hrd hK
    have HK := Lib.hid hK
    have HI := Lib.hid hi
    have HRD := Lib.hid hrd
    obtain ⟨k', v, G⟩ := x
    simp only [encSt]
    clear hK hi hrd hi0 hc6
    gi_wp2
    exact HK.out _ _ (KeepsFrom.refl _ _) ⟨Below.refl _ _, fun g _ o h _ => h⟩ HI.out ⟨HRD.out, rfl⟩
  case body =>
    rintro l pre x a' W hl ⟨r, hr⟩ hI ⟨hrd, rfl⟩
    obtain ⟨i1, i2, hpk, hE⟩ := hI
    obtain ⟨k', v, G⟩ := x
    obtain ⟨hk1, hk2, hRv, hG1, hG2⟩ := hrd
    simp only at hk1 hk2 hRv hG1 hG2 ⊢
    rw [HXV.out] at hRv
    obtain ⟨a0, c0, rfl, _⟩ := hRv.any
    have HRV := Lib.hid hRv
    have HE := Lib.hid hE
    have c3 := cellOf i1 0
    have c4 := cellOf i2 0
    have f4 := freeOf i2 0
    simp only [List.getElem?_toArray, List.getElem?_cons_zero] at c3 c4
    have H1 := Lib.hid i1
    have H2 := Lib.hid i2
    have hszW : w.heap.size + 4 ≤ W0.heap.size := by omega
    have HP := Lib.hid (And.intro hk1 hpk)
    clear hr hi0 hc6 hRv hE i1 i2 hk1 hk2 hG1 hG2 hpk
    by_cases hke : k' = k
    · have hkk := Lib.hid hke
      have d1 : ((k' : Int) == (k : Int)) = true := by rw [hke]; exact beq_self_eq_true _
      clear hke
      gi_wp2
      have h9 : (W.setCell ⟨w.heap.size + 1 + 1, 0, none⟩ (.slice a0 nv c0)).heap[w.heap.size + 1 + 1]? = some (.cells #[.slice a0 nv c0] 30) := by rw [heap_setCell_same H2.out]; simp
      refine ⟨(KeepsOthers.setCell _ _ _).from _, rfl, ⟨_, h9, ?_⟩, HE.out.st (p := ⟨w.heap.size + 1 + 1, 0, none⟩) (by show w.heap.size ≤ w.heap.size + 1 + 1; omega) _⟩
      rw [HXV.out, ← hkk.out]
      exact HRV.out.st (p := ⟨w.heap.size + 1 + 1, 0, none⟩) (fun e => by have := (HRV.out.lt _ e).1; simp only at this; omega) _
    · have d1 : ((k' : Int) == (k : Int)) = false := beq_eq_false_iff_ne.2 (by omega)
      have hkk := Lib.hid hke
      clear hke
      gi_wp2
      exact ⟨KeepsFrom.refl _ _, ⟨Below.refl _ _, fun g _ o h _ => h⟩, H1.out, H2.out, by have := hkk.out; have := HP.out; rw [List.length_append, List.length_singleton]; omega, HE.out⟩
  case done =>
    rintro D ys W hD hys ⟨i1, i2, hpk, hE⟩ hK
    rw [HXE.out] at hys
    omega
  case stop =>
    rintro D c pre W hD _ ⟨rfl, ⟨u, i2, hR⟩, hE⟩ hK
    rw [HXV.out] at hR
    have H2 := Lib.hid i2
    have HR := Lib.hid hR
    have HE := Lib.hid hE
    have HKD := Lib.hid hK
    clear hi0 hc6 hR hE hK i2
    gi_wp2
    have hg := grownBy_putObj' W D (.deferred none)
    have hr : ∀ r, some D = some r → ∃ o : Obj, W.heap[r]? = some o ∧ o.isCells = false := fun r e => by cases e; exact ⟨_, HKD.out, rfl⟩
    have c9 := cellOf (heap_kept H2.out hg hr) 0
    simp only [List.getElem?_toArray, List.getElem?_cons_zero] at c9
    refine ⟨by simp, .inl ⟨_, _, rfl, run_takeDeferred HKD.out, ?_⟩⟩
    exact ⟨u, by simp [results, Try.results48, go_sem, c9], ⟨_, rfl, (HR.out.turn hg hr).mono (by have := hE0.sz; omega), HE.out.grown hg HE.out.size (fun k e => by cases e; have := hE0.sz; omega)⟩⟩

end Go.Proofs.Ytfcpnggdpaeldaa

/-
  The values of a variable in all states: the program's values.
-/
namespace Go.Proofs.Ytfcpnggdpaeldaa
open Go.RowKit
set_option linter.unusedVariables false
open Go.Shelf
attribute [local go_sem] Oper.semAt_some

/-- Between two rounds of 'values'. -/
def VlI (t : Tr) (p i n₁ : Nat) (w : World) (pre : List StA) (W : World) : Prop :=
  W.heap[w.heap.size + 1]? = some (.cells #[.int .i64 i] 3) ∧ (∃ u, W.heap[w.heap.size + 1 + 1]? = some (.cells #[u] 30) ∧ Row W n₁ 3 1 u pre.length ((valsTo t p i pre.length).map (Value.int .i64)) ∧ (pre = [] → u.ownBlock = none) ∧ ∀ y ∈ pre, ∀ g, u.ownBlock = some g → y.G ≠ some g) ∧ Ext w W ∧ n₁ ≤ W.heap.size
theorem vlI_own (t : Tr) (p i n₁ : Nat) (w : World) (B : Nat) (hB : w.heap.size ≤ B) : OwnFrom B (VlI t p i n₁ w) := fun s A A' row hs hg hr => by
  obtain ⟨h0, ⟨u, h1, h2, h3⟩, hE, hz⟩ := hs
  have hr' := fun r e => (hr r e).2
  exact ⟨heap_kept h0 hg hr', ⟨u, heap_kept h1 hg hr', h2.turn hg hr', h3⟩, ownFrom_below (β := Unit) (Nat.le_refl _) hB () A A' row hE hg hr, Nat.le_trans hz hg.size⟩
theorem vlI_turn (t : Tr) (p i n₁ : Nat) (w : World) (B : Nat) (hB : w.heap.size + 3 ≤ B) : AbidesT B TnSt (VlI t p i n₁ w) := fun s A A' row hs hg hr => by
  obtain ⟨h0, ⟨u, h1, h2, h3, h4⟩, hE, hz⟩ := hs
  refine ⟨heap_grown h0 hg (fun r e => by have := (hr r e).1; omega), ⟨u, heap_grown h1 hg (fun r e => by have := (hr r e).1; omega), h2.grown hg ?_, h3, h4⟩, hE.gr hg (fun r e => by have := (hr r e).1; omega), Nat.le_trans hz hg.size⟩
  cases s with
  | nil => exact .inl (h3 rfl)
  | cons y ys =>
    cases hu : u.ownBlock with
    | none => exact .inl rfl
    | some g => exact .inr fun e => h4 y (by simp) g hu ((hr g e.symm).2 y (by simp))

/-- What one round of 'values' leaves. -/
theorem vl_step {t : Tr} {p i n₁ : Nat} {w : World} {pre : List StA} {x : StA} {W wA w8 : World} {u v8 : Value} {z : Int} (h1 : W.heap[w.heap.size + 1]? = some (.cells #[.int .i64 i] 3)) (h2 : W.heap[w.heap.size + 1 + 1]? = some (.cells #[u] 30))
    (hR : Row W n₁ 3 1 u pre.length ((valsTo t p i pre.length).map (Value.int .i64))) (hu0 : pre = [] → u.ownBlock = none) (hun : ∀ y ∈ pre, ∀ g, u.ownBlock = some g → y.G ≠ some g) (hE : Ext w W) (hz : n₁ ≤ W.heap.size) (hn₁ : w.heap.size + 4 ≤ n₁)
    (hG1 : ∀ g, x.G = some g → n₁ ≤ g ∧ g < W.heap.size) (hG2 : ∀ y ∈ pre, y.G = x.G) (hA : Ext W wA) (hv : valsTo t p i (pre.length + 1) = valsTo t p i pre.length ++ [z])
    (hR8 : Row w8 n₁ 3 1 v8 (pre.length + 1) ((valsTo t p i pre.length).map (Value.int .i64) ++ [.int .i64 z])) (hg : wA.grownBy w8 u.ownBlock) (hb : v8.ownBlock = u.ownBlock ∨ ∃ k, v8.ownBlock = some k ∧ wA.heap.size ≤ k) :
    KeepsFrom n₁ W (w8.setCell ⟨w.heap.size + 1 + 1, 0, none⟩ v8) ∧ KpSt w.heap.size (w.heap.size + 3) x W (w8.setCell ⟨w.heap.size + 1 + 1, 0, none⟩ v8) ∧ VlI t p i n₁ w (pre ++ [x]) (w8.setCell ⟨w.heap.size + 1 + 1, 0, none⟩ v8) := by
  have hx : ∀ g, x.G = some g → u.ownBlock ≠ some g := fun g e hu => by
    cases pre with
    | nil => rw [hu0 rfl] at hu; cases hu
    | cons y ys => exact hun y (by simp) g hu (by rw [hG2 y (by simp)]; exact e)
  have hsz : W.heap.size ≤ wA.heap.size := hA.size
  have hub := fun g e => (hR.lt g e).1
  have hset : ∀ k, k ≠ w.heap.size + 1 + 1 → (w8.setCell ⟨w.heap.size + 1 + 1, 0, none⟩ v8).heap[k]? = w8.heap[k]? := fun k hk => Below.heap_setCell w8 ⟨w.heap.size + 1 + 1, 0, none⟩ v8 k hk
  have hRA := hR.ext hA
  have keepA : ∀ k o, W.heap[k]? = some o → some k ≠ u.ownBlock → w8.heap[k]? = some o := fun k o hk hne => by
    have hka := hA.hp hk
    exact (hg.block k (Array.getElem?_eq_some_iff.1 hka).1 hne).trans hka
  refine ⟨?_, ⟨?_, ?_⟩, ?_, ⟨v8, ?_, ?_, ?_, ?_⟩, ?_, ?_⟩
  · exact (show KeepsFrom n₁ W wA from ⟨hA.size, fun k o hk hko ho => hA.hp hko⟩).trans (((keeps_grown hRA hg).trans (KeepsOthers.setCell _ _ _)).from _)
  · exact ((Below.mono hA hE.size).grown hg (Nat.le_trans hE.size hsz) (fun k e => by have := hub k e; omega)).setCell (p := ⟨w.heap.size + 1 + 1, 0, none⟩) (by show w.heap.size ≤ w.heap.size + 1 + 1; omega) _
  · intro g hgg o ho hc
    have hne : g ≠ w.heap.size + 1 + 1 := by
      rcases hgg with rfl | hgg
      · omega
      · have := (hG1 g hgg).1; omega
    rw [hset g hne]
    refine keepA g o ho (fun e => ?_)
    rcases hgg with rfl | hgg
    · have := hub _ e.symm; omega
    · exact hx g hgg e.symm
  · rw [hset _ (by omega)]
    exact keepA _ _ h1 (fun e => by have := hub _ e.symm; omega)
  · have h8 := keepA _ _ h2 (fun e => by have := hub _ e.symm; omega)
    rw [heap_setCell_same h8]; simp
  · rw [List.length_append, List.length_singleton, hv, List.map_append]
    refine (hR8.st (p := ⟨w.heap.size + 1 + 1, 0, none⟩) (fun e => ?_) v8)
    have := (hR8.lt _ e).1
    simp only at this; omega
  · intro e; simp at e
  · intro y hy g e
    rcases hb with hb | ⟨k, hb, hk⟩
    · rw [hb] at e
      rcases List.mem_append.1 hy with hy | hy
      · exact hun y hy g e
      · rw [List.mem_singleton] at hy; subst hy; exact fun e2 => hx g e2 e
    · rw [hb] at e
      obtain rfl : k = g := by simpa using e
      intro e2
      have e3 : x.G = some k := by
        rcases List.mem_append.1 hy with hy | hy
        · rw [← hG2 y hy]; exact e2
        · rw [List.mem_singleton] at hy; subst hy; exact e2
      have := (hG1 k e3).2; omega
  · exact ((hE.trans' hA).gr hg (fun k e => by have := hub k e; omega)).st (p := ⟨w.heap.size + 1 + 1, 0, none⟩) (by show w.heap.size ≤ w.heap.size + 1 + 1; omega) _
  · rw [size_setCell]; exact Nat.le_trans hz (Nat.le_trans hsz hg.size)

set_option maxHeartbeats 8000000 in
set_option maxRecDepth 100000 in
theorem valuesP_calls (vs : List Value) (t : Tr) (p i : Nat) (w : World) (hx : RPr w vs t[p]!) (hs : StOk t p) (hi : i < t[p]!.vars.length) :
    Calls Try.prog 43 #[.agg vs.toArray, .int .i64 i] w fun e w' => ∃ v, e = .returned v ∧ Row w' w.heap.size 3 1 v (t[p]!.events.length + 1) ((valsTo t p i (t[p]!.events.length + 1)).map (Value.int .i64)) ∧ Ext w w' := by
  obtain ⟨ii, hii, iz0, iz1, iz2⟩ := info_parts info_cints
  obtain ⟨vv, ve, rfl, hV, hE⟩ := hx
  have HVV := Lib.hid hV
  have HEE := Lib.hid hE
  have HS := Lib.hid hs
  have HI := Lib.hid hi
  obtain ⟨va, vc, rfl, hvc⟩ := hV.sh
  obtain ⟨ea, ec, rfl, hec⟩ := hE.sh
  have hnv := hs.nv
  have hne := hs.ne
  generalize hnm : t[p]!.name = nm at *
  generalize hxv : t[p]!.vars.length = nv at *
  generalize hxe : t[p]!.events.length = ne at *
  have HXV := Lib.hid hxv
  have HXE := Lib.hid hxe
  have HB := Lib.hid (fun k o => allocs_at [prT nm (.slice va nv vc) (.slice ea ne ec), .cells #[.int .i64 i] 3, .cells #[.slice none 0 0] 30] w k o)
  have hE3 : Ext w (((w.alloc (prT nm (.slice va nv vc) (.slice ea ne ec))).alloc (.cells #[.int .i64 i] 3)).alloc (.cells #[.slice none 0 0] 30)) := (by repeat (first | refine Ext.st ?_ (by first | exact Nat.le_refl _ | exact Nat.le_succ _ | assumption | omega) _ | refine Ext.al ?_ _ | refine Ext.dr ?_ | refine Ext.drN ?_ _ | exact Ext.rf _))
  clear hV hE hs hxv hxe hnm
  refine (callsIn_wide (n := 9)).1 ?_
  refine callsIn_of_wp_marks Try.func43 rfl trivial ?_ rfl
  simp only [Try.ntmps43, List.size_toArray, List.length_cons, List.length_nil, Nat.reduceAdd, Nat.reduceSub, Array.replicate_succ, Array.replicate_zero, List.push_toArray, List.append_toArray, List.nil_append, List.cons_append]
  gi_wp2_with fail
  obtain ⟨w3, hw3⟩ : ∃ z, ((w.alloc (prT nm (.slice va nv vc) (.slice ea ne ec))).alloc (.cells #[.int .i64 i] 3)).alloc (.cells #[.slice none 0 0] 30) = z := ⟨_, rfl⟩
  have HB : Hid (∀ k o, _ → w3.heap[w.heap.size + k]? = some o) := Lib.hid (fun k o h => hw3 ▸ HB.out k o h)
  have hsz3 : w3.heap.size = w.heap.size + 3 := by rw [← hw3]; simp
  rw [hw3] at hE3 ⊢
  clear hw3
  refine ⟨trivial, (states_in 8 _ _ _ _).mono ?_⟩
  rintro e w' ⟨rfl, rfl⟩
  gi_wp2
  have hE0 : Ext w (w3.alloc (prT nm (.slice va nv vc) (.slice ea ne ec))) := hE3.al _
  have hXT : Ext w3 (w3.alloc (prT nm (.slice va nv vc) (.slice ea ne ec))) := (Ext.rf w3).al _
  have hc6 : (w3.alloc (prT nm (.slice va nv vc) (.slice ea ne ec))).heap[w.heap.size + 3]? = some (prT nm (.slice va nv vc) (.slice ea ne ec)) := heap_new_eq hsz3.symm
  have hsz : (w3.alloc (prT nm (.slice va nv vc) (.slice ea ne ec))).heap.size = w.heap.size + 3 + 1 := by simp [hsz3]
  have hi0 : VlI t p i (w.heap.size + 3 + 1) w [] (w3.alloc (prT nm (.slice va nv vc) (.slice ea ne ec))) := ⟨hXT.hp (HB.out 1 _ rfl), ⟨_, hXT.hp (HB.out 2 _ rfl), Row.mkNil _ _ _ _, fun _ => rfl, fun y hy => absurd hy (by simp)⟩, hE0, by omega⟩
  obtain ⟨W0, hW0⟩ : ∃ W0, w3.alloc (prT nm (.slice va nv vc) (.slice ea ne ec)) = W0 := ⟨_, rfl⟩
  rw [hW0] at hE0 hc6 hsz hi0 ⊢
  rw [← hsz] at hi0
  clear hW0 hXT
  refine wpIn_rangeFunc_R rfl (by decide) (gf := 83) (lb := #[.pointer (some ⟨w.heap.size + 3, 0, none⟩)]) rfl trivial enters_83
    (states_stops 8 (by decide) (w.heap.size + 3) nm _ _ t p w W0 HVV.out HEE.out HS.out hE0 hc6) kpSt_t (kpSt_b hE0.sz) (Below.refl _ _) (fun _ => rfl)
    (VlI t p i W0.heap.size w) (fun _ _ _ => False) (vlI_own t p i _ w _ (by omega)) (vlI_turn t p i _ w _ (by omega)) (fun c s A A' row hs _ _ => hs) hi0
    (fun pre x a' W => RdSt t p W0.heap.size pre x W ∧ a' = { tmps := #[.agg #[.string nm, .slice va nv vc, .slice ea ne ec], .int .i64 i, .pointer (some ⟨w.heap.size, 0, none⟩), .pointer (some ⟨w.heap.size + 1, 0, none⟩), .slice none 0 0, .pointer (some ⟨w.heap.size + 1 + 1, 0, none⟩), undef, x.v, .agg #[.string nm, .slice va nv vc, .slice ea ne ec], .func (.func 83) #[] #[.pointer (some ⟨w.heap.size + 3, 0, none⟩)], .int .i64 (x.k : Int), x.v, undef, undef, undef, undef, undef, undef, undef, undef], defers := [] })
    (fun pre x a' s A A' row hs hg hr => ⟨rdSt_own hs.1 hg (fun r e => (hr r e).2), hs.2⟩)
    ?assign ?body ?done ?stop
  case assign =>
    rintro l pre x W K hi hrd hK
    have HK := Lib.hid hK
    have HI := Lib.hid hi
    have HRD := Lib.hid hrd
    obtain ⟨k, v, G⟩ := x
    simp only [encSt]
    clear hK hi hrd hi0 hc6
    gi_wp2
    exact HK.out _ _ (KeepsFrom.refl _ _) ⟨Below.refl _ _, fun g _ o h _ => h⟩ HI.out ⟨HRD.out, rfl⟩
  case body =>
    rintro l pre x a' W hl ⟨r, hr⟩ hI ⟨hrd, rfl⟩
    obtain ⟨i1, ⟨u, i2, hRu, hu0, hun⟩, hE, hz⟩ := hI
    obtain ⟨k, v, G⟩ := x
    obtain ⟨hk1, hk2, hRv, hG1, hG2⟩ := hrd
    simp only at hk1 hk2 hRv hG1 hG2 ⊢
    rw [HXV.out] at hRv
    obtain ⟨G0, O0, cap0, rfl, hgb, hg2, hcap⟩ := hRv.shape (by omega)
    have hck := hRv.cell i (by rw [Nat.mul_one]; exact HI.out)
    have hlv : (stV t p k).length = nv := by rw [stV_len t p k hk2, HXV.out]
    rw [List.getElem?_map, List.getElem?_eq_getElem (by rw [hlv]; exact HI.out), Option.map_some, ← getElem!_pos (stV t p k) i (by rw [hlv]; exact HI.out)] at hck
    have HV2 : Hid (valsTo t p i (pre.length + 1) = valsTo t p i pre.length ++ [(stV t p k)[i]!]) := Lib.hid (by rw [valsTo_succ, hk1])
    have HRU := Lib.hid hRu
    have HU0 := Lib.hid hu0
    have HUN := Lib.hid hun
    have HE := Lib.hid hE
    have HK := Lib.hid (And.intro hk1 (And.intro hk2 (And.intro hG1 hG2)))
    have c3 := cellOf i1 0
    have c5 := cellOf i2 0
    have f5 := freeOf i2 0
    simp only [List.getElem?_toArray, List.getElem?_cons_zero] at c3 c5
    have H1 := Lib.hid i1
    have H2 := Lib.hid i2
    have hiz : (0 : Int) ≤ (i : Int) := by omega
    have hin : (i : Int) < (nv : Int) := by omega
    generalize (stV t p k)[i]! = z at *
    clear hr hi0 hc6 hRv hlv hRu hu0 hun hE hk1 hk2 hG1 hG2 i1 i2
    gi_wp2
    refine region_round (by kernel_rfl) (by rintro ⟨_, _, h⟩; exact h) (by kernel_rfl) ?_
    have HET := Lib.hid (show Ext W W.drew from (Ext.rf W).dr)
    have hHeld : W.drew.cell? ⟨w.heap.size + 1 + 1, 0, none⟩ = some u ∧ W.drew.cell? ⟨w.heap.size + 1, 0, none⟩ = some (.int .i64 i) := ⟨HET.out.cl c5, HET.out.cl c3⟩
    refine wpAny_of_T (S := fun w' => w'.cell? ⟨w.heap.size + 1 + 1, 0, none⟩ = some u ∧ w'.cell? ⟨w.heap.size + 1, 0, none⟩ = some (.int .i64 i)) (st := 7) _ _ _ _ ?_
    have hckT := HET.out.cl hck
    generalize W.drew = wT at *
    refine wpAnyT_take (i := 1) (d := some 13) (v := ?_) rfl rfl (by kernel_rfl) (by kernel_rfl) (by kernel_rfl) (by kernel_rfl) (fun _ _ _ h => h) (Or.inl ⟨by rfl, ?_⟩) (by assumption) ?_
    rotate_left
    · (intro w hSw; (try dsimp only at hSw); go_simp; try (with_reducible rfl))
    try simp only [Act.put]
    try simp only [List.setIfInBounds_toArray]
    try simp only [List.set_cons_zero, List.set_cons_succ]
    refine wpAnyT_take (i := 0) (d := some 12) (v := ?_) rfl rfl (by kernel_rfl) (by kernel_rfl) (by kernel_rfl) (by kernel_rfl) (fun _ _ _ h => h) (Or.inl ⟨by rfl, ?_⟩) (by assumption) ?_
    rotate_left
    · (intro w hSw; (try dsimp only at hSw); go_simp; try (with_reducible rfl))
    try simp only [Act.put]
    try simp only [List.setIfInBounds_toArray]
    try simp only [List.set_cons_zero, List.set_cons_succ]
    refine wpAnyT_take (i := 2) (d := some 14) (v := ?_) rfl rfl (by kernel_rfl) (by kernel_rfl) (by kernel_rfl) (by kernel_rfl) (fun _ _ _ h => h) (Or.inl ⟨by rfl, ?_⟩) (by assumption) ?_
    rotate_left
    · (intro w hSw; (try dsimp only at hSw); go_simp; try (with_reducible rfl))
    try simp only [Act.put]
    try simp only [List.setIfInBounds_toArray]
    try simp only [List.set_cons_zero, List.set_cons_succ]
    refine wpAnyT_take (i := 3) (d := some 15) (v := ?_) rfl rfl (by kernel_rfl) (by kernel_rfl) (by kernel_rfl) (by kernel_rfl) (fun _ _ _ h => h) (Or.inl ⟨by rfl, ?_⟩) (by assumption) ?_
    rotate_left
    · (intro w hSw; (try dsimp only at hSw); go_simp; try (with_reducible rfl))
    try simp only [Act.put]
    try simp only [List.setIfInBounds_toArray]
    try simp only [List.set_cons_zero, List.set_cons_succ]
    refine wpAnyT_step (i := 4) (by kernel_rfl) rfl (fun K hK => ?_)
    go_simp
    refine hK.out _ _ ?_ (fun hHeld => ?_)
    · (try dsimp only)
      exact hHeld
    clear hK K
    try simp only [Act.put]
    try simp only [List.setIfInBounds_toArray]
    try simp only [List.set_cons_zero, List.set_cons_succ]
    refine wpAnyT_step (i := 5) (by kernel_rfl) rfl (fun K hK => ?_)
    go_simp
    have HEA := Lib.hid (HET.out.al (.cells #[.int .i64 z] 3))
    have HNW := Lib.hid (heap_alloc_new wT (.cells #[.int .i64 z] 3))
    have hszA : (wT.alloc (.cells #[.int .i64 z] 3)).heap.size = wT.heap.size + 1 := by simp
    have HszA := Lib.hid hszA
    generalize wT.alloc (.cells #[.int .i64 z] 3) = wA at *
    clear hszA
    refine hK.out _ _ ?_ (fun hHeld => ?_)
    · (try dsimp only)
      exact ⟨HEA.out.cl c5, HEA.out.cl c3⟩
    clear hK K
    try simp only [Act.put]
    try simp only [List.setIfInBounds_toArray]
    try simp only [List.set_cons_zero, List.set_cons_succ]
    refine wpAnyT_step (i := 6) (by kernel_rfl) rfl (fun K hK => ?_)
    refine step_append_rowN rfl _ _ 30 rfl W0.heap.size 3 ii (.int .i64 0) 1 8 Try.underlying30 hii iz0 iz1 iz2 rfl (by decide) u pre.length _ rfl (HRU.out.ext HEA.out) wT.heap.size 1 [.int .i64 z] rfl rfl ⟨_, HNW.out⟩ (by simp [Value.oneCell']) (by unfold maxLen; have := HK.out.1; have := HK.out.2.1; have := HS.out.ne; omega) (by have := HK.out.1; have := HK.out.2.1; have := HS.out.ne; omega) (by have := HEA.out.sz; omega) ?_
    intro v8 w8 hown8 hgrow8 hblk8
    obtain ⟨a8, cap8, hv8, _⟩ := hown8.any
    subst hv8
    have h8 : w8.heap[w.heap.size + 1 + 1]? = some (.cells #[u] 30) := heap_grown (HEA.out.hp H2.out) hgrow8 (fun r e => by have := (HRU.out.lt r e).1; omega)
    have h83 : w8.heap[w.heap.size + 1]? = some (.cells #[.int .i64 i] 3) := heap_grown (HEA.out.hp H1.out) hgrow8 (fun r e => by have := (HRU.out.lt r e).1; omega)
    have HOWN := Lib.hid hown8
    have HG8 := Lib.hid hgrow8
    have HB8 := Lib.hid hblk8
    clear hown8 hgrow8 hblk8
    have c8 := cellOf h8 0
    have f8 := freeOf h8 0
    have c83 := cellOf h83 0
    simp only [List.getElem?_toArray, List.getElem?_cons_zero] at c8 c83
    clear h8 h83
    refine hK.out _ _ ?_ (fun hHeld => ?_)
    · (try dsimp only)
      exact ⟨c8, c83⟩
    clear hK K
    try simp only [Act.put]
    try simp only [List.setIfInBounds_toArray]
    try simp only [List.set_cons_zero, List.set_cons_succ]
    refine wpAnyT_last (by kernel_rfl) rfl (by kernel_rfl) (fun K hK => ?_)
    go_simp
    refine hK.out _ _ ?_
    obtain ⟨q1, q2, q3⟩ := vl_step (x := ⟨k, .slice (some ⟨G0, O0, none⟩) nv cap0, G⟩) H1.out H2.out HRU.out HU0.out HUN.out HE.out hz (by omega) HK.out.2.2.1 HK.out.2.2.2 HEA.out HV2.out HOWN.out HG8.out HB8.out
    exact ⟨q1, q2, q3⟩
  case done =>
    rintro D ys W hD hys ⟨i1, ⟨u, i2, hRu, hu0, hun⟩, hE, hz⟩ hK
    rw [hys, HXE.out] at hRu
    obtain ⟨au, cu, rfl, _⟩ := hRu.any
    have H2 := Lib.hid i2
    have HRU := Lib.hid hRu
    have HE := Lib.hid hE
    have HKD := Lib.hid hK
    have c5 := cellOf i2 0
    simp only [List.getElem?_toArray, List.getElem?_cons_zero] at c5
    clear hi0 hc6 hys hRu hu0 hun hE hK i1 i2
    gi_wp2
    have hg := grownBy_putObj' W D (.deferred none)
    refine ⟨by simp, .inl ⟨_, _, rfl, run_takeDeferred HKD.out, ?_⟩⟩
    exact ⟨.slice au (ne + 1) cu, by simp [results, Try.results43, go_sem], ⟨_, rfl, (HRU.out.turn hg (fun r e => by cases e; exact ⟨_, HKD.out, rfl⟩)).mono (by have := hE0.sz; omega), HE.out.grown hg HE.out.size (fun k e => by cases e; have := hE0.sz; omega)⟩⟩
  case stop =>
    rintro D c pre W hD _ h _
    exact h.elim

end Go.Proofs.Ytfcpnggdpaeldaa

/-
  Which variable has a name, and where: the program's index and find.
-/
namespace Go.Proofs.Ytfcpnggdpaeldaa
open Go.RowKit
set_option linter.unusedVariables false

def isV (s : ByteArray) (x : Vr) : Bool := x.name.toList == s.toList
/-- The index of the variable with a name; -1. -/
def idxV (x : Pr) (s : ByteArray) : Int := firstAt (isV s) x.vars
theorem idxV_range (x : Pr) (s : ByteArray) : -1 ≤ idxV x s ∧ idxV x s < x.vars.length := by
  unfold idxV firstAt
  cases h : x.vars.findIdx? (isV s) with
  | none => simp only; omega
  | some i => have := (List.findIdx?_eq_some_iff_getElem.1 h).1; simp only; omega
/-- The error of a trace, a process and a name; the index. -/
noncomputable def fndE (t : Tr) (p : Int) (s : ByteArray) : Int := if validT t = true then (if 0 ≤ p ∧ p < (t.length : Int) then (if idxV t[p.toNat]! s < 0 then 13 else 0) else 2) else 1
noncomputable def fndI (t : Tr) (p : Int) (s : ByteArray) : Int := if fndE t p s = 0 then idxV t[p.toNat]! s else 0

theorem enters_78 : ∀ args w, (callFunc 78 args).run Try.prog w = .ok (.enter 78 args) w := enters_of Try.func78 (by kernel_rfl) rfl
set_option maxHeartbeats 1000000 in
theorem index1_calls (vs : List Value) (x : Vr) (b : Nat) (s : ByteArray) (w : World) (hx : RVr w vs x) (hc : w.cell? ⟨b, 0, none⟩ = some (.string s)) :
    Calls Try.prog 78 #[.agg vs.toArray, .pointer (some ⟨b, 0, none⟩)] w fun e w' => e = .returned (.bool (isV s x)) ∧ Ext w w' := by
  have e : vs = [.string x.name, .int .i64 x.init] := hx
  subst e
  have hbl := World.block_lt_of_cell? w _ hc
  have hbn : b ≠ w.heap.size := Nat.ne_of_lt hbl
  have hx0 := cell_new w #[.string x.name, .int .i64 x.init] 52 0 _ rfl
  unfold isV
  go_enter Try.func78, Try.ntmps78
  go_wp2
  go_ret
  exact ⟨rfl, (by repeat (first | refine Ext.st ?_ (by first | exact Nat.le_refl _ | exact Nat.le_succ _ | assumption | omega) _ | refine Ext.al ?_ _ | refine Ext.dr ?_ | refine Ext.drN ?_ _ | exact Ext.rf _))⟩

set_option maxHeartbeats 1000000 in
theorem indexP_calls (vs : List Value) (x : Pr) (s : ByteArray) (w : World) (hx : RPr w vs x) (hn : x.vars.length ≤ 1000000) :
    Calls Try.prog 54 #[.agg vs.toArray, .string s] w fun e w' => e = .returned (.int .i64 (idxV x s)) ∧ Ext w w' := by
  obtain ⟨vv, ve, rfl, hV, hE⟩ := hx
  have HX := Lib.hid (fun k o => allocs_at [.cells #[.string x.name, vv, ve] 47, .cells #[.string s] 9] w k o)
  have HE2 : Hid (Ext w ((w.alloc (.cells #[.string x.name, vv, ve] 47)).alloc (.cells #[.string s] 9))) := Lib.hid (by repeat (first | refine Ext.st ?_ (by first | exact Nat.le_refl _ | exact Nat.le_succ _ | assumption | omega) _ | refine Ext.al ?_ _ | refine Ext.dr ?_ | refine Ext.drN ?_ _ | exact Ext.rf _))
  obtain ⟨va, vc, rfl, hvc⟩ := hV.sh
  obtain ⟨ea, ec, rfl, hec⟩ := hE.sh
  have hcs := cellOf (HX.out 1 _ rfl) 0
  simp only [List.getElem?_toArray, List.getElem?_cons_zero] at hcs
  have HI := Lib.hid (indexFunc_vars RVr rvr_lasts 78 #[.pointer (some ⟨w.heap.size + 1, 0, none⟩)] enters_78 (isV s) _ x.vars _ (hV.ext rvr_lasts HE2.out) hn
    (fun y _ W vs hW hR => index1_calls vs y (w.heap.size + 1) s W hR (hW.cl hcs)))
  unfold idxV
  generalize firstAt (isV s) x.vars = r at *
  generalize x.vars.length = nv at *
  generalize x.events.length = ne at *
  clear hV hE HX hcs
  go_enter Try.func54, Try.ntmps54
  go_wp2_with fail
  refine HI.out.mono ?_
  rintro e w' ⟨rfl, hX⟩
  go_wp2
  go_ret
  exact ⟨rfl, HE2.out.trans' hX⟩

theorem proc_rpr {w : World} {v : Value} {t : Tr} (h : TrAt w v t) (p : Nat) (hp : p < t.length) :
    ∃ B O C vv ve, v = .slice (some ⟨B, O, none⟩) t.length C ∧ t.length ≤ C ∧ B < w.heap.size ∧ w.cell? ⟨B, O + p * 3, none⟩ = some (.string t[p]!.name) ∧ w.cell? ⟨B, O + p * 3 + 1, none⟩ = some vv ∧ w.cell? ⟨B, O + p * 3 + 2, none⟩ = some ve ∧ RPr w [.string t[p]!.name, vv, ve] t[p]! ∧ (∃ a c, vv = .slice a t[p]!.vars.length c) ∧ ∃ a c, ve = .slice a t[p]!.events.length c := by
  obtain ⟨B, O, C, vv, ve, h1, h2, h3, h4, h5, h6, h7, h8⟩ := proc_at h p hp
  obtain ⟨a1, c1, e1, _⟩ := h7.sh
  obtain ⟨a2, c2, e2, _⟩ := h8.sh
  exact ⟨B, O, C, vv, ve, h1, h2, h3, h4, h5, h6, ⟨vv, ve, rfl, h7, h8⟩, ⟨a1, c1, e1⟩, a2, c2, e2⟩

set_option maxHeartbeats 4000000 in
set_option maxRecDepth 100000 in
theorem findV_calls (v : Value) (t : Tr) (p : Int) (s : ByteArray) (w : World) (h : TrAt w v t) (hs : LooseTr t) :
    Calls Try.prog 42 #[.agg #[v], .int .i64 p, .string s] w fun e w' => e = .returned (.tuple #[.int .i64 (fndI t p s), .int .i64 (fndE t p s)]) ∧ Ext w w' := by
  have HT := Lib.hid h
  have HVC := Lib.hid (fun W (hW : Ext w W) => validP_calls v t W (h.ext hW) hs)
  obtain ⟨ta, tc, rfl, htc⟩ := h.sh
  have hn1 := hs.1
  obtain ⟨vt, hvt⟩ : ∃ b, validT t = b := ⟨_, rfl⟩
  rw [hvt] at HVC
  have HVT := Lib.hid hvt
  obtain ⟨E, hE⟩ : ∃ E, fndE t p s = E := ⟨_, rfl⟩
  obtain ⟨I, hI⟩ : ∃ I, fndI t p s = I := ⟨_, rfl⟩
  have HEa := Lib.hid (hE.symm.trans (show fndE t p s = if validT t = true then (if 0 ≤ p ∧ p < (t.length : Int) then (if idxV t[p.toNat]! s < 0 then 13 else 0) else 2) else 1 from rfl))
  have HI := Lib.hid (hI.symm.trans (show fndI t p s = if fndE t p s = 0 then idxV t[p.toNat]! s else 0 from rfl))
  rw [hvt] at HEa
  rw [hE] at HI
  rw [hE, hI]
  generalize hln : t.length = n at *
  have HL := Lib.hid hln
  have HX0 := Lib.hid (heap_alloc_new w (.cells #[.slice ta n tc] 24))
  have HE1 := Lib.hid ((Ext.rf w).al (.cells #[.slice ta n tc] 24))
  clear h hs hln hvt hE hI
  go_enter Try.func42, Try.ntmps42
  go_wp2_with fail
  refine (HVC.out _ HE1.out).mono ?_
  rintro e w2 ⟨rfl, hX⟩
  have HE2 := Lib.hid (HE1.out.trans' hX)
  have HY0 := Lib.hid (hX.hp HX0.out)
  clear hX
  have t0 := cellOf HY0.out 0
  simp only [List.getElem?_toArray, List.getElem?_cons_zero] at t0
  cases vt with
  | false =>
    obtain rfl : E = 1 := by rw [HEa.out]; exact if_neg (by decide)
    obtain rfl : I = 0 := by rw [HI.out]; exact if_neg (by decide)
    go_wp2
    go_ret2
    exact ⟨rfl, HE2.out⟩
  | true =>
    have HEb := Lib.hid (HEa.out.trans (if_pos rfl))
    have HSM := Lib.hid (valid_small HVT.out)
    by_cases hp : 0 ≤ p ∧ p < (n : Int)
    · have HEc := Lib.hid (HEb.out.trans (if_pos hp))
      obtain ⟨hp0, hpn⟩ := hp
      obtain ⟨q, rfl⟩ : ∃ q : Nat, p = (q : Int) := ⟨p.toNat, by omega⟩
      rw [Int.toNat_natCast] at HEc HI
      have hqn : q < n := by omega
      obtain ⟨B, O, C, vv, ve, hve, hlC, hB, hn0, hv0, he0, hR, ⟨a1, c1, rfl⟩, a2, c2, rfl⟩ := proc_rpr HT.out q (by rw [HL.out]; exact hqn)
      simp only [Value.slice.injEq] at hve
      obtain ⟨rfl, hzz, rfl⟩ := hve
      have n1 := HE2.out.cl hn0
      have v1 := HE2.out.cl hv0
      have e1 := HE2.out.cl he0
      have hnv := (HSM.out.2 q (by rw [HL.out]; exact hqn)).1
      have HIX := Lib.hid (fun W (hW : Ext w W) => indexP_calls _ t[q]! s W (rpr_lasts _ _ _ _ hR hW) (by omega))
      have d1 : decide ((q : Int) < 0) = false := decide_eq_false (by omega)
      have d2 : decide ((n : Int) ≤ (q : Int)) = false := decide_eq_false (by omega)
      have d2n : decide (n ≤ q) = false := decide_eq_false (by omega)
      generalize idxV t[q]! s = ix at *
      generalize t[q]!.name = nm at *
      generalize t[q]!.vars.length = nv at *
      generalize t[q]!.events.length = ne at *
      clear hn0 hv0 he0 hR hzz
      go_wp2_with fail
      refine (HIX.out _ HE2.out).mono ?_
      rintro e w3 ⟨rfl, hX3⟩
      have HE3 := Lib.hid (HE2.out.trans' hX3)
      clear hX3 n1 v1 e1 t0
      by_cases hix : ix < 0
      · obtain rfl : E = 13 := HEc.out.trans (if_pos hix)
        obtain rfl : I = 0 := HI.out.trans (if_neg (by decide))
        have d3 : decide (ix < 0) = true := decide_eq_true hix
        clear hix
        go_wp2
        go_ret2
        exact ⟨rfl, HE3.out⟩
      · obtain rfl : E = 0 := HEc.out.trans (if_neg hix)
        obtain rfl : I = ix := HI.out.trans (if_pos rfl)
        have d3 : decide (I < 0) = false := decide_eq_false hix
        clear hix
        go_wp2
        go_ret2
        exact ⟨rfl, HE3.out⟩
    · obtain rfl : E = 2 := HEb.out.trans (if_neg hp)
      obtain rfl : I = 0 := HI.out.trans (if_neg (by decide))
      by_cases hp0 : p < 0
      · have d1 : decide (p < 0) = true := decide_eq_true hp0
        clear hp hp0
        go_wp2
        go_ret2
        exact ⟨rfl, HE2.out⟩
      · have d1 : decide (p < 0) = false := decide_eq_false hp0
        have d2 : decide ((n : Int) ≤ p) = true := decide_eq_true (by omega)
        clear hp hp0
        go_wp2
        go_ret2
        exact ⟨rfl, HE2.out⟩

end Go.Proofs.Ytfcpnggdpaeldaa

/-
  The value of a variable in a state of a valid trace.
-/
namespace Go.Proofs.Ytfcpnggdpaeldaa
open Go.RowKit
set_option linter.unusedVariables false

theorem stOk_valid {t : Tr} (h : validT t = true) {p : Nat} (hp : p < t.length) : StOk t p := by
  have hsh := (validT_parts.1 h).1
  have hq := shapeB_parts.1 hsh
  obtain ⟨_, _, a3, _, a5⟩ := headB_parts.1 (hq.2.2.1 p hp)
  refine ⟨a3, a5, fun i hi => ?_, fun i hi j hj => ?_⟩
  · have := hq.2.2.2 p hp i hi
    unfold eventB at this
    simp only [Bool.and_eq_true, decide_eq_true_eq] at this
    exact this.2.2.2.2.1
  have := (once_valid hsh hp hi).2 t[p]!.events[i]!.asg[j]! (mem_at _ j hj)
  exact ⟨this.1, this.2.1⟩
/-- The value of a variable in state k. -/
def valF (t : Tr) (p i k : Nat) : Int := (stV t p k)[i]!
theorem vals_low (t : Tr) (p i n : Nat) : lowF (fun j => (valsTo t p i (n + 1))[j]!) n = lowF (valF t p i) n := lowF_congr n fun j hj => valsTo_at (by omega)
theorem vals_high (t : Tr) (p i n : Nat) : highF (fun j => (valsTo t p i (n + 1))[j]!) n = highF (valF t p i) n := highF_congr n fun j hj => valsTo_at (by omega)
theorem valF_in {t : Tr} (h : validT t = true) {p i : Nat} (hp : p < t.length) (hi : i < t[p]!.vars.length) {k : Nat} (hk : k ≤ t[p]!.events.length) : -1073741824 ≤ valF t p i k ∧ valF t p i k ≤ 1073741824 := by
  have hsh := (validT_parts.1 h).1
  have := valR_in hsh hp hi k hk
  rw [valR_stV (fun j hj => (once_valid hsh hp hj).1) hi k hk] at this
  unfold valueB at this
  simpa [valF] using this

end Go.Proofs.Ytfcpnggdpaeldaa

/-
  The least and the greatest value, the changes, and unit steps: the program's Range, Changes and Unit.
-/
namespace Go.Proofs.Ytfcpnggdpaeldaa
open Go.RowKit
set_option linter.unusedVariables false

set_option maxHeartbeats 4000000 in
set_option maxRecDepth 100000 in
theorem rangeP_calls (v : Value) (t : Tr) (p : Int) (s : ByteArray) (w : World) (h : TrAt w v t) (hs : LooseTr t) :
    Calls Try.prog 11 #[.agg #[v], .int .i64 p, .string s] w fun e w' =>
      e = .returned (.tuple #[.int .i64 (if fndE t p s = 0 then lowF (valF t p.toNat (fndI t p s).toNat) t[p.toNat]!.events.length else 0), .int .i64 (if fndE t p s = 0 then highF (valF t p.toNat (fndI t p s).toNat) t[p.toNat]!.events.length else 0), .int .i64 (fndE t p s)]) ∧ Ext w w' := by
  have HT := Lib.hid h
  have HFC := Lib.hid (fun W (hW : Ext w W) => findV_calls v t p s W (h.ext hW) hs)
  have HOK : Hid (fndE t p s = 0 → validT t = true ∧ (0 ≤ p ∧ p < (t.length : Int)) ∧ 0 ≤ idxV t[p.toNat]! s ∧ fndI t p s = idxV t[p.toNat]! s) := Lib.hid (fun he => by
    have hi : fndI t p s = idxV t[p.toNat]! s := by unfold fndI; rw [if_pos he]
    unfold fndE at he
    split at he
    · rename_i h1
      split at he
      · rename_i h2
        split at he
        · cases he
        · exact ⟨h1, h2, by omega, hi⟩
      · cases he
    · cases he)
  obtain ⟨ta, tc, rfl, htc⟩ := h.sh
  have hn1 := hs.1
  have HX0 := Lib.hid (heap_alloc_new w (.cells #[.slice ta t.length tc] 24))
  have HE1 := Lib.hid ((Ext.rf w).al (.cells #[.slice ta t.length tc] 24))
  obtain ⟨E, hE⟩ : ∃ E, fndE t p s = E := ⟨_, rfl⟩
  obtain ⟨I, hI⟩ : ∃ I, fndI t p s = I := ⟨_, rfl⟩
  rw [hE, hI] at HFC HOK
  have HFE := Lib.hid hE
  have HFI := Lib.hid hI
  obtain ⟨lo, hlo⟩ : ∃ lo, (if fndE t p s = 0 then lowF (valF t p.toNat (fndI t p s).toNat) t[p.toNat]!.events.length else 0) = lo := ⟨_, rfl⟩
  obtain ⟨hi, hhi⟩ : ∃ hi, (if fndE t p s = 0 then highF (valF t p.toNat (fndI t p s).toNat) t[p.toNat]!.events.length else 0) = hi := ⟨_, rfl⟩
  rw [hlo, hhi, hE]
  rw [hE, hI] at hlo hhi
  have HLO := Lib.hid hlo
  have HHI := Lib.hid hhi
  clear hlo hhi
  generalize hln : t.length = n at *
  have HL := Lib.hid hln
  clear h hs hE hI hln
  go_enter Try.func11, Try.ntmps11
  go_wp2_with fail
  refine (HFC.out _ HE1.out).mono ?_
  rintro e w2 ⟨rfl, hX⟩
  have HE2 := Lib.hid (HE1.out.trans' hX)
  have HY0 := Lib.hid (hX.hp HX0.out)
  clear hX
  have t0 := cellOf HY0.out 0
  simp only [List.getElem?_toArray, List.getElem?_cons_zero] at t0
  by_cases hE0 : E = 0
  case pos =>
    subst hE0
    obtain ⟨hv, ⟨hp0, hpn⟩, hi0, hI0⟩ := HOK.out rfl
    obtain ⟨q, rfl⟩ : ∃ q : Nat, p = (q : Int) := ⟨p.toNat, by omega⟩
    rw [Int.toNat_natCast] at hi0 hI0
    simp only [Int.toNat_natCast] at *
    have hqn : q < n := by omega
    obtain ⟨i, rfl⟩ : ∃ i : Nat, I = (i : Int) := ⟨I.toNat, by omega⟩
    have hin : i < t[q]!.vars.length := by have := (idxV_range t[q]! s).2; rw [← hI0] at this; omega
    have HV := Lib.hid hv
    have HI0 := Lib.hid hI0
    clear hI0 hi0
    have HIN := Lib.hid hin
    have HQ := Lib.hid (show q < t.length from by rw [HL.out]; exact hqn)
    obtain ⟨B, O, C, vv, ve, hve, hlC, hB, hn0, hv0, he0, hR, ⟨a1, c1, rfl⟩, a2, c2, rfl⟩ := proc_rpr HT.out q HQ.out
    simp only [Value.slice.injEq] at hve
    obtain ⟨rfl, hzz, rfl⟩ := hve
    have n1 := HE2.out.cl hn0
    have v1 := HE2.out.cl hv0
    have e1 := HE2.out.cl he0
    have HVL := Lib.hid (fun W (hW : Ext w W) => valuesP_calls _ t q i W (rpr_lasts _ _ _ _ hR hW) (stOk_valid hv HQ.out) hin)
    have hel := ((valid_small hv).2 q HQ.out).2.1
    have HVLT := Lib.hid (vals_low t q i t[q]!.events.length)
    have HVHT := Lib.hid (vals_high t q i t[q]!.events.length)
    have HVI := Lib.hid (fun k (hk : k ≤ t[q]!.events.length) => valF_in HV.out HQ.out HIN.out hk)
    generalize t[q]!.name = nm at *
    generalize t[q]!.vars.length = nv at *
    generalize t[q]!.events.length = ne at *
    go_wp2_with fail
    refine (HVL.out _ HE2.out).mono ?_
    rintro e w3 ⟨u, rfl, hR3, hX3⟩
    obtain ⟨Gb, Go, Gc, rfl, hGb, hG2, _⟩ := hR3.shape (Nat.succ_pos _)
    have HIU := Lib.hid hR3.ints
    have HCV : Hid (∀ k, k < (valsTo t q i (ne + 1)).length → w3.cell? ⟨Gb, Go + k, none⟩ = some (.int .i64 (valsTo t q i (ne + 1))[k]!)) := Lib.hid (fun k hk => by
      rw [hR3.cell k (by rw [valsTo_len] at hk; omega), List.getElem?_map, List.getElem?_eq_getElem hk, getElem!_pos _ k hk]; rfl)
    have HE3 := Lib.hid (HE2.out.trans' hX3)
    have hszw := HE3.out.sz
    clear hR3 hX3 hGb hG2 n1 v1 e1 t0 hn0 hv0 he0 hzz hR hin hv
    have HLO2 : Hid (lo = lowF (fun j => (valsTo t q i (ne + 1))[j]!) ne) := Lib.hid (by rw [HVLT.out]; exact HLO.out.symm.trans (if_pos trivial))
    have HHI2 : Hid (hi = highF (fun j => (valsTo t q i (ne + 1))[j]!) ne) := Lib.hid (by rw [HVHT.out]; exact HHI.out.symm.trans (if_pos trivial))
    have HMI := Lib.hid (fun W (hW : Ext w3 W) => minP_calls _ _ W (HIU.out.ext hW) ne (valsTo_len _ _ _ _) (by omega))
    have HMA := Lib.hid (fun W (hW : Ext w3 W) => maxP_calls _ _ W (HIU.out.ext hW) ne (valsTo_len _ _ _ _) (by omega))
    rw [← HLO2.out] at HMI
    rw [← HHI2.out] at HMA
    clear hel
    go_wp2_with fail
    refine (HMI.out _ (Ext.rf _)).mono ?_
    rintro e w4 ⟨rfl, hX4⟩
    have HX4 := Lib.hid hX4
    clear hX4
    go_wp2_with fail
    refine (HMA.out _ HX4.out).mono ?_
    rintro e w5 ⟨rfl, hX5⟩
    have HX5 := Lib.hid (HX4.out.trans' hX5)
    clear hX5
    go_wp2
    refine bodyPost_ret (v := .tuple #[.int .i64 lo, .int .i64 hi, .int .i64 0]) (by simp [results, Try.results11, go_sem]) rfl ?_
    exact ⟨rfl, HE3.out.trans' HX5.out⟩
  case neg =>
    obtain rfl : lo = 0 := HLO.out.symm.trans (if_neg hE0)
    obtain rfl : hi = 0 := HHI.out.symm.trans (if_neg hE0)
    have d1 : (E != 0) = true := by simp [hE0]
    clear hE0
    go_wp2
    refine bodyPost_ret (v := .tuple #[.int .i64 0, .int .i64 0, .int .i64 E]) (by simp [results, Try.results11, go_sem]) rfl ?_
    exact ⟨rfl, HE2.out⟩

end Go.Proofs.Ytfcpnggdpaeldaa

/-
  The changes, and unit steps of a variable: the program's Changes and Unit.
-/
namespace Go.Proofs.Ytfcpnggdpaeldaa
open Go.RowKit
set_option linter.unusedVariables false

set_option maxHeartbeats 4000000 in
set_option maxRecDepth 100000 in
theorem changesP_calls (v : Value) (t : Tr) (p : Int) (s : ByteArray) (w : World) (h : TrAt w v t) (hs : LooseTr t) :
    Calls Try.prog 12 #[.agg #[v], .int .i64 p, .string s] w fun e w' =>
      IntsRes w w' e (fndE t p s) (if fndE t p s = 0 then chgF (valF t p.toNat (fndI t p s).toNat) t[p.toNat]!.events.length else []) := by
  obtain ⟨ii, hii, iz0, iz1, iz2⟩ := info_parts info_cints
  have HT := Lib.hid h
  have HFC := Lib.hid (fun W (hW : Ext w W) => findV_calls v t p s W (h.ext hW) hs)
  have HOK : Hid (fndE t p s = 0 → validT t = true ∧ (0 ≤ p ∧ p < (t.length : Int)) ∧ 0 ≤ idxV t[p.toNat]! s ∧ fndI t p s = idxV t[p.toNat]! s) := Lib.hid (fun he => by
    have hi : fndI t p s = idxV t[p.toNat]! s := by unfold fndI; rw [if_pos he]
    unfold fndE at he
    split at he
    · rename_i h1
      split at he
      · rename_i h2
        split at he
        · cases he
        · exact ⟨h1, h2, by omega, hi⟩
      · cases he
    · cases he)
  obtain ⟨ta, tc, rfl, htc⟩ := h.sh
  have hn1 := hs.1
  have HX0 := Lib.hid (heap_alloc_new w (.cells #[.slice ta t.length tc] 24))
  have HE1 := Lib.hid ((Ext.rf w).al (.cells #[.slice ta t.length tc] 24))
  obtain ⟨E, hE⟩ : ∃ E, fndE t p s = E := ⟨_, rfl⟩
  obtain ⟨I, hI⟩ : ∃ I, fndI t p s = I := ⟨_, rfl⟩
  rw [hE, hI] at HFC HOK
  have HFE := Lib.hid hE
  have HFI := Lib.hid hI
  obtain ⟨R, hR⟩ : ∃ R, (if fndE t p s = 0 then chgF (valF t p.toNat (fndI t p s).toNat) t[p.toNat]!.events.length else []) = R := ⟨_, rfl⟩
  rw [hR, hE]
  rw [hE, hI] at hR
  have HR := Lib.hid hR
  clear hR
  generalize hln : t.length = n at *
  have HL := Lib.hid hln
  clear h hs hE hI hln
  go_enter Try.func12, Try.ntmps12
  go_wp2_with fail
  refine (HFC.out _ HE1.out).mono ?_
  rintro e w2 ⟨rfl, hX⟩
  have HE2 := Lib.hid (HE1.out.trans' hX)
  have HY0 := Lib.hid (hX.hp HX0.out)
  clear hX
  have t0 := cellOf HY0.out 0
  simp only [List.getElem?_toArray, List.getElem?_cons_zero] at t0
  by_cases hE0 : E = 0
  case pos =>
    subst hE0
    obtain ⟨hv, ⟨hp0, hpn⟩, hi0, hI0⟩ := HOK.out rfl
    obtain ⟨q, rfl⟩ : ∃ q : Nat, p = (q : Int) := ⟨p.toNat, by omega⟩
    rw [Int.toNat_natCast] at hi0 hI0
    simp only [Int.toNat_natCast] at *
    have hqn : q < n := by omega
    obtain ⟨i, rfl⟩ : ∃ i : Nat, I = (i : Int) := ⟨I.toNat, by omega⟩
    have hin : i < t[q]!.vars.length := by have := (idxV_range t[q]! s).2; rw [← hI0] at this; omega
    have HV := Lib.hid hv
    have HI0 := Lib.hid hI0
    clear hI0 hi0
    have HIN := Lib.hid hin
    have HQ := Lib.hid (show q < t.length from by rw [HL.out]; exact hqn)
    obtain ⟨B, O, C, vv, ve, hve, hlC, hB, hn0, hv0, he0, hR, ⟨a1, c1, rfl⟩, a2, c2, rfl⟩ := proc_rpr HT.out q HQ.out
    simp only [Value.slice.injEq] at hve
    obtain ⟨rfl, hzz, rfl⟩ := hve
    have n1 := HE2.out.cl hn0
    have v1 := HE2.out.cl hv0
    have e1 := HE2.out.cl he0
    have HVL := Lib.hid (fun W (hW : Ext w W) => valuesP_calls _ t q i W (rpr_lasts _ _ _ _ hR hW) (stOk_valid hv HQ.out) hin)
    have hel := ((valid_small hv).2 q HQ.out).2.1
    have HVLT := Lib.hid (vals_low t q i t[q]!.events.length)
    have HVHT := Lib.hid (vals_high t q i t[q]!.events.length)
    have HVI := Lib.hid (fun k (hk : k ≤ t[q]!.events.length) => valF_in HV.out HQ.out HIN.out hk)
    generalize t[q]!.name = nm at *
    generalize t[q]!.vars.length = nv at *
    generalize t[q]!.events.length = ne at *
    go_wp2_with fail
    refine (HVL.out _ HE2.out).mono ?_
    rintro e w3 ⟨u, rfl, hR3, hX3⟩
    obtain ⟨Gb, Go, Gc, rfl, hGb, hG2, _⟩ := hR3.shape (Nat.succ_pos _)
    have HIU := Lib.hid hR3.ints
    have HCV : Hid (∀ k, k < (valsTo t q i (ne + 1)).length → w3.cell? ⟨Gb, Go + k, none⟩ = some (.int .i64 (valsTo t q i (ne + 1))[k]!)) := Lib.hid (fun k hk => by
      rw [hR3.cell k (by rw [valsTo_len] at hk; omega), List.getElem?_map, List.getElem?_eq_getElem hk, getElem!_pos _ k hk]; rfl)
    have HE3 := Lib.hid (HE2.out.trans' hX3)
    have hszw := HE3.out.sz
    clear hR3 hX3 hGb hG2 n1 v1 e1 t0 hn0 hv0 he0 hzz hR hin hv
    have HR2 : Hid (R = chgF (valF t q i) ne) := Lib.hid (HR.out.symm.trans (if_pos trivial))
    have HAT := Lib.hid (fun k (hk : k < ne + 1) => (show (valsTo t q i (ne + 1))[k]! = valF t q i k from valsTo_at hk))
    have HVLN := Lib.hid (valsTo_len t q i (ne + 1))
    have hsz3 : w3.heap.size = w3.heap.size := rfl
    go_wp2
    go_loopg [10, 12] ne (fun g s10 s12 wr => ∃ k : Nat, 1 ≤ k ∧ k ≤ ne + 1 ∧ ne + 1 - k ≤ g ∧ s12 = .int .i64 k ∧ Aside (Row wr w3.heap.size 3 1 s10 (chgF (valF t q i) (k - 1)).length ((chgF (valF t q i) (k - 1)).map (Value.int .i64))) ∧ Aside (Ext w3 wr))
    case atStart => exact ⟨1, by omega, by omega, by omega, rfl, (show Row _ _ _ _ _ _ _ from by rw [Nat.sub_self, chgF_zero]; exact Row.mkNil _ _ _ _), Ext.rf _⟩
    case round =>
      obtain ⟨k, hk1, hk, hg, rfl, HRW, HEK⟩ := hrel
      have HEW := Lib.hid (HE3.out.trans' HEK.out)
      by_cases hlt : k < ne + 1
      · obtain ⟨j, rfl⟩ : ∃ j, k = j + 1 := ⟨k - 1, by omega⟩
        have hltz : ((j + 1 : Nat) : Int) < ((ne + 1 : Nat) : Int) := by omega
        have hc0 := HEK.out.cl (HCV.out (j + 1) (by rw [HVLN.out]; exact hlt))
        have hc1 := HEK.out.cl (HCV.out j (by rw [HVLN.out]; omega))
        rw [HAT.out _ (by omega)] at hc0 hc1
        have HY := Lib.hid (@chgF_yes (valF t q i) j)
        have HN := Lib.hid (@chgF_no (valF t q i) j)
        have hlc := chgF_len (valF t q i) j
        have HJ : Hid ((j + 1) - 1 = j) := Lib.hid (Nat.add_sub_cancel _ _)
        rw [HJ.out] at HRW
        generalize valF t q i (j + 1) = y at *
        generalize valF t q i j = x at *
        generalize hcl : (chgF (valF t q i) j).length = cl at *
        have HCL := Lib.hid hcl
        have e0 : ((j : Int) + 1).toNat = j + 1 := by omega
        have e3 : (j : Int) + 1 - 1 = (j : Int) := by omega
        have hjz : (0 : Int) ≤ (j : Int) := by omega
        have hjz1 : (0 : Int) ≤ (j : Int) + 1 := by omega
        have hjn : (j : Int) < (ne : Int) + 1 := by omega
        have hltz' : (j : Int) + 1 < (ne : Int) + 1 := by omega
        have hszr := HEK.out.sz
        clear hcl
        by_cases hyx : y = x
        · have d1 : (y != x) = false := by simp [hyx]
          have HY2 := Lib.hid (HN.out d1)
          clear hyx
          go_wp2
          go_quiet (fail)
          go_wp2
          go_roundg (ne + 1 - (j + 1 + 1))
          case measure => omega
          case rel =>
            refine ⟨j + 1 + 1, by omega, by omega, by omega, by go_num, (show Row _ _ _ _ _ _ _ from ?_), (show Ext _ _ from HEK.out.drN _)⟩
            rw [Nat.add_sub_cancel, HY2.out, HCL.out]
            exact HRW.out.ext ((Ext.rf _).drN _)
        · have d1 : (y != x) = true := by simp [hyx]
          have HY2 := Lib.hid (HY.out d1)
          clear hyx
          go_wp2
          go_quiet (fail)
          have HRD := Lib.hid (HRW.out.ext ((Ext.rf wr).drN nq))
          have HED := Lib.hid (HEK.out.drN nq)
          have hszd := HED.out.sz
          generalize wr.drewN nq = wd at *
          clear hc0 hc1
          go_wp2_with ((at_builtin; go_loud (refine wpList_append_one rfl _ _ 30 rfl w3.heap.size 3 ii (.int .i64 0) 1 8 Try.underlying30 hii iz0 iz1 iz2 rfl (by decide) _ cl _ rfl (HRD.out.al _) wd.heap.size 1 [.int .i64 ((j : Int) + 1)] rfl rfl ⟨_, heap_alloc_new _ _⟩ (by simp [Value.oneCell']) (by unfold maxLen; omega) (by omega) (by simp; omega) ?_; intro v8 w8 hown8 hgrow8 hblk8; have HOWN := Lib.hid hown8; have HX8 := Lib.hid ((HED.out.al _).gr hgrow8 (fun q hq => (HRD.out.lt q hq).1)); clear hown8 hgrow8 hblk8)))
          go_roundg (ne + 1 - (j + 1 + 1))
          case measure => omega
          case rel =>
            refine ⟨j + 1 + 1, by omega, by omega, by omega, by go_num, (show Row _ _ _ _ _ _ _ from ?_), (show Ext _ _ from HX8.out)⟩
            rw [Nat.add_sub_cancel, HY2.out, List.length_append, HCL.out, List.map_append]
            exact HOWN.out
      · have hltz : ¬ (k : Int) < ((ne + 1 : Nat) : Int) := by omega
        obtain rfl : k = ne + 1 := by omega
        have HQQ := HRW.out
        rw [Nat.add_sub_cancel, ← HR2.out] at HQQ
        have HQ3 := Lib.hid HQQ
        clear HQQ
        go_wp2
        go_ret2
        exact ⟨_, rfl, HQ3.out.mono (by have := HE3.out.sz; omega), HEW.out⟩
  case neg =>
    obtain rfl : R = [] := HR.out.symm.trans (if_neg hE0)
    have d1 : (E != 0) = true := by simp [hE0]
    clear hE0
    go_wp2
    go_ret2
    exact IntsRes.none HE2.out

set_option maxHeartbeats 4000000 in
set_option maxRecDepth 100000 in
theorem unitP_calls (v : Value) (t : Tr) (p : Int) (s : ByteArray) (w : World) (h : TrAt w v t) (hs : LooseTr t) :
    Calls Try.prog 13 #[.agg #[v], .int .i64 p, .string s] w fun e w' =>
      e = .returned (.tuple #[.bool (if fndE t p s = 0 then unitF (valF t p.toNat (fndI t p s).toNat) t[p.toNat]!.events.length else false), .int .i64 (fndE t p s)]) ∧ Ext w w' := by
  have HT := Lib.hid h
  have HFC := Lib.hid (fun W (hW : Ext w W) => findV_calls v t p s W (h.ext hW) hs)
  have HOK : Hid (fndE t p s = 0 → validT t = true ∧ (0 ≤ p ∧ p < (t.length : Int)) ∧ 0 ≤ idxV t[p.toNat]! s ∧ fndI t p s = idxV t[p.toNat]! s) := Lib.hid (fun he => by
    have hi : fndI t p s = idxV t[p.toNat]! s := by unfold fndI; rw [if_pos he]
    unfold fndE at he
    split at he
    · rename_i h1
      split at he
      · rename_i h2
        split at he
        · cases he
        · exact ⟨h1, h2, by omega, hi⟩
      · cases he
    · cases he)
  obtain ⟨ta, tc, rfl, htc⟩ := h.sh
  have hn1 := hs.1
  have HX0 := Lib.hid (heap_alloc_new w (.cells #[.slice ta t.length tc] 24))
  have HE1 := Lib.hid ((Ext.rf w).al (.cells #[.slice ta t.length tc] 24))
  obtain ⟨E, hE⟩ : ∃ E, fndE t p s = E := ⟨_, rfl⟩
  obtain ⟨I, hI⟩ : ∃ I, fndI t p s = I := ⟨_, rfl⟩
  rw [hE, hI] at HFC HOK
  have HFE := Lib.hid hE
  have HFI := Lib.hid hI
  obtain ⟨R, hR⟩ : ∃ R, (if fndE t p s = 0 then unitF (valF t p.toNat (fndI t p s).toNat) t[p.toNat]!.events.length else false) = R := ⟨_, rfl⟩
  rw [hR, hE]
  rw [hE, hI] at hR
  have HR := Lib.hid hR
  clear hR
  generalize hln : t.length = n at *
  have HL := Lib.hid hln
  clear h hs hE hI hln
  go_enter Try.func13, Try.ntmps13
  go_wp2_with fail
  refine (HFC.out _ HE1.out).mono ?_
  rintro e w2 ⟨rfl, hX⟩
  have HE2 := Lib.hid (HE1.out.trans' hX)
  have HY0 := Lib.hid (hX.hp HX0.out)
  clear hX
  have t0 := cellOf HY0.out 0
  simp only [List.getElem?_toArray, List.getElem?_cons_zero] at t0
  by_cases hE0 : E = 0
  case pos =>
    subst hE0
    obtain ⟨hv, ⟨hp0, hpn⟩, hi0, hI0⟩ := HOK.out rfl
    obtain ⟨q, rfl⟩ : ∃ q : Nat, p = (q : Int) := ⟨p.toNat, by omega⟩
    rw [Int.toNat_natCast] at hi0 hI0
    simp only [Int.toNat_natCast] at *
    have hqn : q < n := by omega
    obtain ⟨i, rfl⟩ : ∃ i : Nat, I = (i : Int) := ⟨I.toNat, by omega⟩
    have hin : i < t[q]!.vars.length := by have := (idxV_range t[q]! s).2; rw [← hI0] at this; omega
    have HV := Lib.hid hv
    have HI0 := Lib.hid hI0
    clear hI0 hi0
    have HIN := Lib.hid hin
    have HQ := Lib.hid (show q < t.length from by rw [HL.out]; exact hqn)
    obtain ⟨B, O, C, vv, ve, hve, hlC, hB, hn0, hv0, he0, hR, ⟨a1, c1, rfl⟩, a2, c2, rfl⟩ := proc_rpr HT.out q HQ.out
    simp only [Value.slice.injEq] at hve
    obtain ⟨rfl, hzz, rfl⟩ := hve
    have n1 := HE2.out.cl hn0
    have v1 := HE2.out.cl hv0
    have e1 := HE2.out.cl he0
    have HVL := Lib.hid (fun W (hW : Ext w W) => valuesP_calls _ t q i W (rpr_lasts _ _ _ _ hR hW) (stOk_valid hv HQ.out) hin)
    have hel := ((valid_small hv).2 q HQ.out).2.1
    have HVLT := Lib.hid (vals_low t q i t[q]!.events.length)
    have HVHT := Lib.hid (vals_high t q i t[q]!.events.length)
    have HVI := Lib.hid (fun k (hk : k ≤ t[q]!.events.length) => valF_in HV.out HQ.out HIN.out hk)
    generalize t[q]!.name = nm at *
    generalize t[q]!.vars.length = nv at *
    generalize t[q]!.events.length = ne at *
    go_wp2_with fail
    refine (HVL.out _ HE2.out).mono ?_
    rintro e w3 ⟨u, rfl, hR3, hX3⟩
    obtain ⟨Gb, Go, Gc, rfl, hGb, hG2, _⟩ := hR3.shape (Nat.succ_pos _)
    have HIU := Lib.hid hR3.ints
    have HCV : Hid (∀ k, k < (valsTo t q i (ne + 1)).length → w3.cell? ⟨Gb, Go + k, none⟩ = some (.int .i64 (valsTo t q i (ne + 1))[k]!)) := Lib.hid (fun k hk => by
      rw [hR3.cell k (by rw [valsTo_len] at hk; omega), List.getElem?_map, List.getElem?_eq_getElem hk, getElem!_pos _ k hk]; rfl)
    have HE3 := Lib.hid (HE2.out.trans' hX3)
    have hszw := HE3.out.sz
    clear hR3 hX3 hGb hG2 n1 v1 e1 t0 hn0 hv0 he0 hzz hR hin hv
    have HR2 : Hid (R = unitF (valF t q i) ne) := Lib.hid (HR.out.symm.trans (if_pos trivial))
    have HAT := Lib.hid (fun k (hk : k < ne + 1) => (show (valsTo t q i (ne + 1))[k]! = valF t q i k from valsTo_at hk))
    have HVLN := Lib.hid (valsTo_len t q i (ne + 1))
    go_wp2
    go_loopg [11] ne (fun g s11 wr => ∃ k : Nat, 1 ≤ k ∧ k ≤ ne + 1 ∧ ne + 1 - k ≤ g ∧ s11 = .int .i64 k ∧ Aside (unitF (valF t q i) (k - 1) = true) ∧ Aside (Ext w3 wr))
    case atStart => exact ⟨1, by omega, by omega, by omega, rfl, (show Aside _ from unitF_zero _), Ext.rf _⟩
    case round =>
      obtain ⟨k, hk1, hk, hg, rfl, HU, HEK⟩ := hrel
      have HEW := Lib.hid (HE3.out.trans' HEK.out)
      by_cases hlt : k < ne + 1
      · obtain ⟨j, rfl⟩ : ∃ j, k = j + 1 := ⟨k - 1, by omega⟩
        have hltz : ((j + 1 : Nat) : Int) < ((ne + 1 : Nat) : Int) := by omega
        have hc0 := HEK.out.cl (HCV.out (j + 1) (by rw [HVLN.out]; exact hlt))
        have hc1 := HEK.out.cl (HCV.out j (by rw [HVLN.out]; omega))
        rw [HAT.out _ (by omega)] at hc0 hc1
        have hr0 := HVI.out (j + 1) (by omega)
        have hr1 := HVI.out j (by omega)
        have HY := Lib.hid (unitF_succ (valF t q i) j)
        have HN := Lib.hid (fun h => unitF_no (f := valF t q i) (k := j) (n := ne) (by omega) h)
        have HJ : Hid ((j + 1) - 1 = j) := Lib.hid (Nat.add_sub_cancel _ _)
        have HU2 := Lib.hid HU.out
        rw [HJ.out] at HU2
        generalize valF t q i (j + 1) = y at *
        generalize valF t q i j = x at *
        have e0 : ((j : Int) + 1).toNat = j + 1 := by omega
        have e3 : (j : Int) + 1 - 1 = (j : Int) := by omega
        have hjz : (0 : Int) ≤ (j : Int) := by omega
        have hjz1 : (0 : Int) ≤ (j : Int) + 1 := by omega
        have hjn : (j : Int) < (ne : Int) + 1 := by omega
        have hltz' : (j : Int) + 1 < (ne : Int) + 1 := by omega
        have hwr : IntKind.i64.wrap (y - x) = y - x := IntWalk.i64_in _ (by omega)
        obtain ⟨z, hz⟩ : ∃ z, y - x = z := ⟨_, rfl⟩
        have HZ := Lib.hid hz
        rw [hz] at hwr
        by_cases h1 : z < -1
        · have d1 : decide (z < -1) = true := decide_eq_true h1
          have HF := Lib.hid (HN.out (by rw [HZ.out, decide_eq_false (show ¬ -1 ≤ z by omega)]; rfl))
          obtain rfl : R = false := by rw [HR2.out, HF.out]
          clear h1 hr0 hr1
          go_wp2
          go_quiet (fail)
          go_wp2
          go_ret2
          exact ⟨rfl, HEW.out.drN _⟩
        · have d1 : decide (z < -1) = false := decide_eq_false h1
          by_cases h2 : 1 < z
          · have d2 : decide (1 < z) = true := decide_eq_true h2
            have HF := Lib.hid (HN.out (by rw [HZ.out, decide_eq_false (show ¬ z ≤ 1 by omega), Bool.and_false]))
            obtain rfl : R = false := by rw [HR2.out, HF.out]
            clear h1 h2 hr0 hr1
            go_wp2
            go_quiet (fail)
            go_wp2
            go_ret2
            exact ⟨rfl, HEW.out.drN _⟩
          · have d2 : decide (1 < z) = false := decide_eq_false h2
            have HY2 : Hid (unitF (valF t q i) (j + 1) = true) := Lib.hid (by rw [HY.out, HU2.out, HZ.out, decide_eq_true (show -1 ≤ z by omega), decide_eq_true (show z ≤ 1 by omega)]; rfl)
            clear h1 h2 hr0 hr1
            go_wp2
            go_quiet (fail)
            go_wp2
            go_roundg (ne + 1 - (j + 1 + 1))
            case measure => omega
            case rel =>
              refine ⟨j + 1 + 1, by omega, by omega, by omega, by go_num, (show Aside _ from ?_), (show Ext _ _ from HEK.out.drN _)⟩
              rw [Nat.add_sub_cancel]; exact HY2.out
      · have hltz : ¬ (k : Int) < ((ne + 1 : Nat) : Int) := by omega
        obtain rfl : k = ne + 1 := by omega
        have HQ3 := Lib.hid HU.out
        rw [Nat.add_sub_cancel, ← HR2.out] at HQ3
        obtain rfl : R = true := HQ3.out
        go_wp2
        go_ret2
        exact ⟨rfl, HEW.out⟩
  case neg =>
    obtain rfl : R = false := HR.out.symm.trans (if_neg hE0)
    have d1 : (E != 0) = true := by simp [hE0]
    clear hE0
    go_wp2
    go_ret2
    exact ⟨rfl, HE2.out⟩

end Go.Proofs.Ytfcpnggdpaeldaa
