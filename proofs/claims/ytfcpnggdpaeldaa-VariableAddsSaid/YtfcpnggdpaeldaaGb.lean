import Derived.Test.YtfcpnggdpaeldaaGa
import Derived.Test.YtfcpnggdpaeldaaProg
import Derived.BigQuiet
import Derived.Deep.QuietTactic
import Derived.Deep.LoopGhost
import Derived.Shelf.Abstract
import Derived.Deep.DeepCutAuto
import Derived.Deep.DrawnRows
import Derived.RangeFuncNested
import Derived.RangeFuncBound
import Derived.RangeFuncCalls
import Derived.RangeFuncLeaves
import Derived.Shelf.RegionOpen
import Derived.OwnWalkIn
import Derived.TacticsInMore
import Derived.LoopNIn
import Derived.LoopIn
import Derived.Sort.LoopGhostIn
import Derived.Sort.CutIn
import Derived.BigRegion
import Derived.IntWalk
import Derived.Laws.EntriesVeiled
import Derived.Maps.OwnIn
import Derived.DeepKeys4
import Derived.WideKeyPair
/-
  The first event of a kind with a number, and an event by its name: the reference's Find and At.
-/
namespace Go.Proofs.Ytfcpnggdpaeldaa
open Go.RowKit
set_option linter.unusedVariables false
attribute [local go_sem ↓] Go.wp_at_zero Go.wp_at_succ

abbrev idO (a b : Int) : Obj := .cells #[.int .i64 a, .int .i64 b] 87
/-- The value of an event's name; (0, 0) for none. -/
def eidA : Option Eid → Int
  | none => 0
  | some x => x.1
def eidB : Option Eid → Int
  | none => 0
  | some x => (x.2 : Int) + 1
theorem id_set {w : World} {K : Nat} {z0 z1 : Value} {fr : Nat × Nat} (h : w.heap[K]? = some (.cells #[z0, z1] 87 fr)) (a b : Value) :
    ((w.setCell ⟨K, 0, none⟩ a).setCell ⟨K, 1, none⟩ b).heap[K]? = some (.cells #[a, b] 87 fr) := by
  obtain ⟨hlt, hk⟩ := Array.getElem?_eq_some_iff.1 h
  have h1 : (w.setCell ⟨K, 0, none⟩ a).heap[K]? = some (.cells #[a, z1] 87 fr) := by
    show (w.heap.modify K _)[K]? = _
    rw [Array.getElem?_eq_getElem (by rw [Array.size_modify]; exact hlt), Array.getElem_modify_self, hk]
    rfl
  obtain ⟨hlt1, hk1⟩ := Array.getElem?_eq_some_iff.1 h1
  show ((w.setCell ⟨K, 0, none⟩ a).heap.modify K _)[K]? = _
  rw [Array.getElem?_eq_getElem (by rw [Array.size_modify]; exact hlt1), Array.getElem_modify_self, hk1]
  rfl
theorem id_ext {w W : World} {K : Nat} (h : Ext w W) (hK : w.heap.size ≤ K) (a b : Value) : Ext w ((W.setCell ⟨K, 0, none⟩ a).setCell ⟨K, 1, none⟩ b) :=
  (h.st (p := ⟨K, 0, none⟩) hK a).st (p := ⟨K, 1, none⟩) hK b

set_option maxHeartbeats 4000000 in
set_option maxRecDepth 100000 in
theorem findR_calls (v : Value) (t : Tr) (kd m : Int) (w : World) (h : TrAt w v t) (hs : SmallTr t) :
    Calls Try.prog 82 #[.agg #[v], .int .i64 kd, .int .i64 m] w fun e w' => e = .returned (.agg #[.int .i64 (eidA (findE t kd m)), .int .i64 (eidB (findE t kd m))]) ∧ Ext w w' := by
  have HT := Lib.hid h
  have HS := Lib.hid hs
  obtain ⟨ta, tc, rfl, htc⟩ := h.sh
  have hn1 := hs.1
  generalize hfe : findE t kd m = fe
  have HFE := Lib.hid hfe
  generalize hln : t.length = N at *
  have HL := Lib.hid hln
  have HX0 := Lib.hid (((Ext.rf _).al (idO 0 0)).hp (heap_alloc_new w (.cells #[.slice ta N tc] 24)))
  have HX1 := Lib.hid (heap_new_eq (w := w.alloc (.cells #[.slice ta N tc] 24)) (o := idO 0 0) (b := w.heap.size + 1) (by simp))
  have HE2 : Hid (Ext w ((w.alloc (.cells #[.slice ta N tc] 24)).alloc (idO 0 0))) := Lib.hid (((Ext.rf w).al _).al _)
  clear h hs hfe hln
  go_enter Try.func82, Try.ntmps82
  go_wp2
  generalize hw2 : (w.alloc (.cells #[.slice ta N tc] 24)).alloc (idO 0 0) = w2 at *
  clear hw2
  go_loopg [7] N (fun g s7 wr => ∃ p : Nat, p ≤ N ∧ N - p ≤ g ∧ s7 = .int .i64 p ∧ Aside ((idsTo t p 0).find? (hit t kd m) = none) ∧ Aside (Ext w2 wr))
  case atStart => exact ⟨0, Nat.zero_le _, by omega, rfl, (show Aside _ from rfl), (show Ext _ _ from Ext.rf _)⟩
  case round =>
    obtain ⟨p, hp, hg, rfl, A, HEK⟩ := hrel
    have HEW := Lib.hid (HE2.out.trans' HEK.out)
    have HXA := Lib.hid (HEK.out.hp HX0.out)
    have HXB := Lib.hid (HEK.out.hp HX1.out)
    have a0 := cellOf HXA.out 0
    simp only [List.getElem?_toArray, List.getElem?_cons_zero] at a0
    by_cases hlt : p < N
    · have hltz : (p : Int) < (N : Int) := by omega
      have hpz : (0 : Int) ≤ (p : Int) := by omega
      obtain ⟨B, O, C, vv, ve, hve, hlC, hB, hn0, hv0, he0, hV, hE0⟩ := proc_at HT.out p (by rw [HL.out]; exact hlt)
      simp only [Value.slice.injEq] at hve
      obtain ⟨rfl, hzz, rfl⟩ := hve
      obtain ⟨ea, ec, rfl, hec⟩ := hE0.sh
      have hen := (HS.out.2 p (by rw [HL.out]; exact hlt)).2.1
      have HE0 := Lib.hid hE0
      have HHE0 := Lib.hid he0
      have HPL := Lib.hid (show p < t.length from by rw [HL.out]; exact hlt)
      have HNX := Lib.hid (idsTo_next t p)
      generalize hx : t[p]! = x at *
      generalize hne : x.events.length = ne at *
      have HX := Lib.hid hx
      have HNE := Lib.hid hne
      clear hn0 hv0 hV hE0 hzz hx hne he0
      go_wp2
      clear a0
      obtain ⟨wo, rfl⟩ : ∃ x, x = wr := ⟨_, rfl⟩
      go_loopg [8] ne (fun g s8 wr => ∃ i : Nat, i ≤ ne ∧ ne - i ≤ g ∧ s8 = .int .i64 i ∧ Aside ((idsTo t p i).find? (hit t kd m) = none) ∧ Aside (Ext w2 wr))
      case atStart => exact ⟨0, Nat.zero_le _, by omega, rfl, A, HEK⟩
      case round =>
        obtain ⟨i, hi, hg2, rfl, A2, HEL⟩ := hrel
        have HEX := Lib.hid (HE2.out.trans' HEL.out)
        have HXC := Lib.hid (HEL.out.hp HX0.out)
        have HXD := Lib.hid (HEL.out.hp HX1.out)
        have a0 := cellOf HXC.out 0
        simp only [List.getElem?_toArray, List.getElem?_cons_zero] at a0
        have he1 := HEX.out.cl HHE0.out
        by_cases hlti : i < ne
        · have hltz2 : (i : Int) < (ne : Int) := by omega
          have hiz : (0 : Int) ≤ (i : Int) := by omega
          obtain ⟨EB, EO, EC, va, hee, hlE, hEB, k0, k1, k2, k3, k4, hA⟩ := event_at HE0.out i (by rw [HNE.out]; exact hlti)
          simp only [Value.slice.injEq] at hee
          obtain ⟨rfl, hzz, rfl⟩ := hee
          obtain ⟨ua, uc, rfl, huc⟩ := hA.sh
          have m0 := HEX.out.cl k0
          have m1 := HEX.out.cl k1
          have m2 := HEX.out.cl k2
          have m3 := HEX.out.cl k3
          have m4 := HEX.out.cl k4
          have HIN : Hid (Inn t (p, i)) := Lib.hid ⟨HPL.out, by show i < t[p]!.events.length; rw [HX.out, HNE.out]; exact hlti⟩
          have HHIT : Hid (hit t kd m (p, i) = (decide (x.events[i]!.kind = kd) && decide (x.events[i]!.msg = m))) := Lib.hid (by simp only [hit, show ev t (p, i) = x.events[i]! from by show t[p]!.events[i]! = _; rw [HX.out]])
          have HSN := Lib.hid (idsTo_succ t p i)
          have HPF := Lib.hid (idsTo_ids (i := i + 1) HPL.out (by rw [HX.out, HNE.out]; omega))
          generalize x.events[i]! = y at *
          generalize y.asg.length = na at *
          clear k0 k1 k2 k3 k4 hzz hA
          have HBE := Lib.hid (heap_alloc_new wr (.cells #[.int .i64 y.kind, .int .i64 y.peer, .int .i64 y.msg, .int .i64 y.time, .slice ua na uc] 55))
          have HXE := Lib.hid (((Ext.rf wr).al (.cells #[.int .i64 y.kind, .int .i64 y.peer, .int .i64 y.msg, .int .i64 y.time, .slice ua na uc] 55)).hp HXD.out)
          have HEY := Lib.hid (HEX.out.al (.cells #[.int .i64 y.kind, .int .i64 y.peer, .int .i64 y.msg, .int .i64 y.time, .slice ua na uc] 55))
          have HEZ := Lib.hid (HEL.out.al (.cells #[.int .i64 y.kind, .int .i64 y.peer, .int .i64 y.msg, .int .i64 y.time, .slice ua na uc] 55))
          obtain ⟨b1, hb1⟩ : ∃ b, (y.kind == kd) = b := ⟨_, rfl⟩
          obtain ⟨b2, hb2⟩ : ∃ b, (y.msg == m) = b := ⟨_, rfl⟩
          have HHB : Hid (hit t kd m (p, i) = (b1 && b2)) := Lib.hid (by rw [HHIT.out, ← hb1, ← hb2]; rfl)
          clear HHIT
          cases b1 with
          | true =>
            cases b2 with
            | true =>
              obtain rfl : fe = some (p, i) := by
                rw [← HFE.out]
                obtain ⟨post, hpost⟩ := HPF.out
                unfold findE firstIn
                rw [← hpost, HSN.out, List.find?_append, List.find?_append, A2.out, List.find?_cons, HHB.out]
                simp
              have q0 := cellOf HXE.out 0
              have q1 := cellOf HXE.out 1
              have f0 := freeOf HXE.out 0
              have f1 := freeOf HXE.out 1
              simp only [List.getElem?_toArray, List.getElem?_cons_zero, List.getElem?_cons_succ] at q0 q1
              go_wp2
              clear q0 q1 f0 f1
              have r0 := cellOf (id_set HXE.out (.int .i64 p) (.int .i64 ((i : Int) + 1))) 0
              have r1 := cellOf (id_set HXE.out (.int .i64 p) (.int .i64 ((i : Int) + 1))) 1
              simp only [List.getElem?_toArray, List.getElem?_cons_zero, List.getElem?_cons_succ] at r0 r1
              refine bodyPost_ret (v := .agg #[.int .i64 p, .int .i64 ((i : Int) + 1)]) (by simp [results, Try.results82, go_sem, r0, r1]) rfl ?_
              exact ⟨rfl, id_ext HEY.out (by omega) _ _⟩
            | false =>
              go_wp2
              go_roundg (ne - (i + 1))
              case measure => omega
              case rel => exact ⟨i + 1, by omega, by omega, by go_num, (show (idsTo t p (i + 1)).find? (hit t kd m) = none from by rw [HSN.out, List.find?_append, A2.out]; simp [HHB.out]), (show Ext _ _ from HEZ.out)⟩
          | false =>
            go_wp2
            go_roundg (ne - (i + 1))
            case measure => omega
            case rel => exact ⟨i + 1, by omega, by omega, by go_num, (show (idsTo t p (i + 1)).find? (hit t kd m) = none from by rw [HSN.out, List.find?_append, A2.out]; simp [HHB.out]), (show Ext _ _ from HEZ.out)⟩
        · have hltz2 : ¬ (i : Int) < (ne : Int) := by omega
          obtain rfl : i = ne := by omega
          go_wp2
          go_roundg (N - (p + 1))
          case measure => omega
          case rel => exact ⟨p + 1, by omega, by omega, by go_num, (show (idsTo t (p + 1) 0).find? (hit t kd m) = none from by rw [← HNX.out]; exact A2.out), HEL⟩
    · have hltz : ¬ (p : Int) < (N : Int) := by omega
      obtain rfl : p = N := by omega
      obtain rfl : fe = none := by rw [← HFE.out]; unfold findE firstIn ids; rw [HL.out]; exact A.out
      have q0 := cellOf HXB.out 0
      have q1 := cellOf HXB.out 1
      have f0 := freeOf HXB.out 0
      have f1 := freeOf HXB.out 1
      simp only [List.getElem?_toArray, List.getElem?_cons_zero, List.getElem?_cons_succ] at q0 q1
      go_wp2
      clear q0 q1 f0 f1
      have r0 := cellOf (id_set HXB.out (.int .i64 0) (.int .i64 0)) 0
      have r1 := cellOf (id_set HXB.out (.int .i64 0) (.int .i64 0)) 1
      simp only [List.getElem?_toArray, List.getElem?_cons_zero, List.getElem?_cons_succ] at r0 r1
      exact bodyPost_ret (v := .agg #[.int .i64 0, .int .i64 0]) (by simp [results, Try.results82, go_sem, r0, r1]) rfl ⟨rfl, id_ext HEW.out (by omega) _ _⟩

end Go.Proofs.Ytfcpnggdpaeldaa

/-
  The events of a trace, one after the other: the program's iterator.
-/
namespace Go.Proofs.Ytfcpnggdpaeldaa
open Go.RowKit
set_option linter.unusedVariables false
open Go.Shelf
attribute [local go_sem] Oper.semAt_some

/-- What a round is handed: an event's name, and the slice of its assignments. -/
abbrev EvA (t : Tr) (w : World) := { x : Eid × Value // Inn t x.1 ∧ Sl RAsg 2 w x.2 (ev t x.1).asg }
/-- Its two values. -/
abbrev encE (t : Tr) (w : World) (x : EvA t w) : Array Value :=
  #[.agg #[.int .i64 (x.1.1.1 : Int), .int .i64 ((x.1.1.2 : Int) + 1)], .agg #[.int .i64 (ev t x.1.1).kind, .int .i64 (ev t x.1.1).peer, .int .i64 (ev t x.1.1).msg, .int .i64 (ev t x.1.1).time, x.1.2]]
/-- The names that have come. -/
def nms {t : Tr} {w : World} (l : List (EvA t w)) : List Eid := l.map fun x => x.1.1
theorem nms_snoc {t : Tr} {w : World} (l : List (EvA t w)) (x : EvA t w) : nms (l ++ [x]) = nms l ++ [x.1.1] := by simp [nms]
theorem nms_len {t : Tr} {w : World} (l : List (EvA t w)) : (nms l).length = l.length := by simp [nms]

abbrev prT (s : ByteArray) (v u : Value) : Obj := .cells #[.string s, v, u] 47
abbrev evO (a b c d : Int) (v : Value) : Obj := .cells #[.int .i64 a, .int .i64 b, .int .i64 c, .int .i64 d, v] 55

set_option maxRecDepth 100000 in
set_option maxHeartbeats 4000000 in
theorem events1_in (n : Nat) (hn : 1 ≤ n) (l Bn n₀ : Nat) (v : Value) (t : Tr) (w : World) (hT : TrAt w v t) (hs : SmallTr t) (hn₀ : n₀ = w.heap.size) (J Jx : List (EvA t w) → World → Prop)
    (W : World) (hW : Below n₀ w W) (hJ : AbidesFrom W.heap.size J)
    (hY : ∀ pre x W1, J pre W1 → pre.length < (ids t).length → YieldAt Fence.wide (n - 1) Try.prog l (encE t w x) W1 fun e W' =>
      (e = .returned (.bool true) ∧ J (pre ++ [x]) W' ∧ Below n₀ W1 W') ∨ (e = .returned (.bool false) ∧ Jx (pre ++ [x]) W'))
    (hBn : W.cell? ⟨Bn, 0, none⟩ = some v) (h0 : J [] W) :
    CallsIn Fence.wide n Try.prog 101 #[.func (.yield l) #[] #[], .pointer (some ⟨Bn, 0, none⟩)] W fun e W' => (∃ v, e = .returned v) ∧
      ((∃ xs, nms xs = ids t ∧ J xs W') ∨ (∃ pre, nms pre <+: ids t ∧ Jx pre W')) := by
  have HT := Lib.hid hT
  have HS := Lib.hid hs
  have HW := Lib.hid hW
  have HJ := Lib.hid hJ
  have HY := Lib.hid hY
  have H0 := Lib.hid h0
  have HN := Lib.hid hn₀
  obtain ⟨ta, tc, rfl, htc⟩ := hT.sh
  have hn1 := hs.1
  have HNS : Hid (Below w.heap.size w W) := Lib.hid (hn₀ ▸ hW)
  generalize hln : t.length = N at *
  have HL := Lib.hid hln
  clear hT hs hW hJ hY h0 hn₀ hln
  refine callsIn_of_wp Try.func101 rfl trivial ?_ rfl
  simp only [Try.ntmps101, List.size_toArray, List.length_cons, List.length_nil, Nat.reduceAdd, Nat.reduceSub, Array.replicate_succ, Array.replicate_zero, List.push_toArray, List.append_toArray, List.nil_append, List.cons_append]
  gi_wp2
  gi_loopg [10] N (fun g s10 wr => ∃ p : Nat, p ≤ N ∧ N - p ≤ g ∧ s10 = .int .i64 p ∧ Aside (∃ pre, nms pre = idsTo t p 0 ∧ J pre wr) ∧ Aside (Below n₀ W wr))
  case atStart => exact ⟨0, Nat.zero_le _, by omega, rfl, (show Aside _ from ⟨[], rfl, H0.out⟩), (show Below _ _ _ from Below.refl _ _)⟩
  case round =>
    obtain ⟨p, hp, hg, rfl, HPre, HB⟩ := hrel
    by_cases hlt : p < N
    · have hltz : (p : Int) < (N : Int) := by omega
      have hpz : (0 : Int) ≤ (p : Int) := by omega
      obtain ⟨B, O, C, vv, ve, hve, hlC, hB, hn0, hv0, he0, hV, hE0⟩ := proc_at HT.out p (by rw [HL.out]; exact hlt)
      simp only [Value.slice.injEq] at hve
      obtain ⟨rfl, hzz, rfl⟩ := hve
      obtain ⟨xa, xc, rfl, hvc⟩ := hV.sh
      obtain ⟨ea, ec, rfl, hec⟩ := hE0.sh
      have hen := (HS.out.2 p (by rw [HL.out]; exact hlt)).2.1
      have HE0 := Lib.hid hE0
      have HBW : Hid (Below w.heap.size w wr) := Lib.hid (HNS.out.trans (HN.out ▸ HB.out))
      have hn1 := (HBW.out.cell (p := ⟨B, O + p * 3, none⟩) hB).trans hn0
      have hv1 := (HBW.out.cell (p := ⟨B, O + p * 3 + 1, none⟩) hB).trans hv0
      have he1 := (HBW.out.cell (p := ⟨B, O + p * 3 + 2, none⟩) hB).trans he0
      have HPL := Lib.hid (show p < t.length from by rw [HL.out]; exact hlt)
      generalize hx : t[p]! = x at *
      generalize hnv : x.vars.length = nv at *
      generalize hne : x.events.length = ne at *
      have HX := Lib.hid hx
      have HNE := Lib.hid hne
      clear hn0 hv0 he0 hV hE0 hzz hx hnv hne
      gi_wp2
      obtain ⟨wo, rfl⟩ : ∃ x, x = wr := ⟨_, rfl⟩
      have HBX := Lib.hid (heap_alloc_new wo (prT x.name (.slice xa nv xc) (.slice ea ne ec)))
      gi_loopg [18] ne (fun g s18 wr => ∃ i : Nat, i ≤ ne ∧ ne - i ≤ g ∧ s18 = .int .i64 i ∧ Aside (∃ pre, nms pre = idsTo t p i ∧ J pre wr) ∧ Aside (Below n₀ W wr ∧ wo.heap.size < wr.heap.size))
      case atStart =>
        refine ⟨0, Nat.zero_le _, by omega, rfl, (show Aside _ from ?_), (show Aside _ from ?_)⟩
        · obtain ⟨pre, h1, h2⟩ := HPre.out
          exact ⟨pre, h1, HJ.out pre _ _ none h2 (World.grownBy_alloc _ _ none) (fun r e => by cases e)⟩
        · exact ⟨HB.out.alloc (by have := HW.out.size; have := HB.out.size; have := HN.out; omega) _, by simp⟩
      case round =>
        obtain ⟨i, hi, hg2, rfl, HPre2, HB2⟩ := hrel
        by_cases hlti : i < ne
        · have hltz2 : (i : Int) < (ne : Int) := by omega
          have hiz : (0 : Int) ≤ (i : Int) := by omega
          obtain ⟨EB, EO, EC, va, hee, hlE, hEB, k0, k1, k2, k3, k4, hA⟩ := event_at HE0.out i (by rw [HNE.out]; exact hlti)
          simp only [Value.slice.injEq] at hee
          obtain ⟨rfl, hzz, rfl⟩ := hee
          obtain ⟨ua, uc, rfl, huc⟩ := hA.sh
          have HBV : Hid (Below w.heap.size w wr) := Lib.hid (HNS.out.trans (HN.out ▸ HB2.out.1))
          have m0 := (HBV.out.cell (p := ⟨EB, EO + i * 5, none⟩) hEB).trans k0
          have m1 := (HBV.out.cell (p := ⟨EB, EO + i * 5 + 1, none⟩) hEB).trans k1
          have m2 := (HBV.out.cell (p := ⟨EB, EO + i * 5 + 2, none⟩) hEB).trans k2
          have m3 := (HBV.out.cell (p := ⟨EB, EO + i * 5 + 3, none⟩) hEB).trans k3
          have m4 := (HBV.out.cell (p := ⟨EB, EO + i * 5 + 4, none⟩) hEB).trans k4
          have hin : Inn t (p, i) := ⟨HPL.out, by show i < t[p]!.events.length; rw [HX.out, HNE.out]; exact hlti⟩
          have hEVE : ev t (p, i) = x.events[i]! := by show t[p]!.events[i]! = _; rw [HX.out]
          have HHY : Hid (∃ pre, nms pre = idsTo t p i ∧ YieldAt Fence.wide (n - 1) Try.prog l (encE t w ⟨((p, i), .slice ua x.events[i]!.asg.length uc), hin, by rw [hEVE]; exact hA⟩) (wr.alloc (evO x.events[i]!.kind x.events[i]!.peer x.events[i]!.msg x.events[i]!.time (.slice ua x.events[i]!.asg.length uc))) fun e W' =>
              (e = .returned (.bool true) ∧ (∃ pre', nms pre' = idsTo t p (i + 1) ∧ J pre' W') ∧ Below n₀ (wr.alloc (evO x.events[i]!.kind x.events[i]!.peer x.events[i]!.msg x.events[i]!.time (.slice ua x.events[i]!.asg.length uc))) W') ∨ (e = .returned (.bool false) ∧ ∃ pre', nms pre' <+: ids t ∧ Jx pre' W')) := Lib.hid (by
            obtain ⟨pre, h1, h2⟩ := HPre2.out
            refine ⟨pre, h1, ?_⟩
            have hpf : nms (pre ++ [⟨((p, i), .slice ua x.events[i]!.asg.length uc), hin, by rw [hEVE]; exact hA⟩]) <+: ids t := by rw [nms_snoc, h1, ← idsTo_succ]; exact idsTo_ids HPL.out (by rw [HX.out, HNE.out]; omega)
            refine (HY.out pre ⟨((p, i), .slice ua x.events[i]!.asg.length uc), hin, by rw [hEVE]; exact hA⟩ _ (HJ.out pre _ _ none h2 (World.grownBy_alloc _ _ none) (fun r e => by cases e)) ?_).mono ?_
            · have := hpf.length_le; rw [nms_len] at this; simp at this; omega
            · rintro e W' (⟨rfl, hj, hk⟩ | ⟨rfl, hj⟩)
              · exact .inl ⟨rfl, ⟨_, by rw [nms_snoc, h1, ← idsTo_succ], hj⟩, hk⟩
              · exact .inr ⟨rfl, _, hpf, hj⟩)
          obtain ⟨pre, _, fn, tmps, assign, body, hy, hR⟩ := HHY.out
          simp only [encE, hEVE] at hy
          generalize hev : x.events[i]! = y at *
          generalize y.asg.length = na at *
          clear HHY hEVE k0 k1 k2 k3 k4 hzz hev
          have HR := Lib.hid hR
          clear hR hin hA
          gi_wp2
          refine HR.out.mono ?_
          rintro e W3 (⟨rfl, hJ3, hk3⟩ | ⟨rfl, hJx3⟩)
          · gi_wp2
            gi_roundg (ne - (i + 1))
            case measure => omega
            case rel =>
              refine ⟨i + 1, by omega, by omega, by go_num, (show Aside _ from hJ3), (show Aside _ from ⟨HB2.out.1.trans ((Below.alloc (Below.refl n₀ wr) (by have := HW.out.size; have := HB2.out.1.size; have := HN.out; omega) _).trans hk3), ?_⟩)⟩
              have := hk3.size; have := HB2.out.2; simp at *; omega
          · gi_wp2
            refine bodyPost_ret (results_none rfl _ _ _) rfl ?_
            exact ⟨⟨_, rfl⟩, .inr hJx3⟩
        · have hltz2 : ¬ (i : Int) < (ne : Int) := by omega
          obtain rfl : i = ne := by omega
          gi_wp2
          gi_roundg (N - (p + 1))
          case measure => omega
          case rel =>
            refine ⟨p + 1, by omega, by omega, by go_num, (show Aside _ from ?_), (show Below _ _ _ from HB2.out.1)⟩
            obtain ⟨pre, h1, h2⟩ := HPre2.out
            exact ⟨pre, by rw [h1, ← idsTo_next, HX.out, HNE.out], h2⟩
    · have hltz : ¬ (p : Int) < (N : Int) := by omega
      obtain rfl : p = N := by omega
      gi_wp2
      go_end0
      obtain ⟨pre, h1, h2⟩ := HPre.out
      exact ⟨⟨_, rfl⟩, .inl ⟨pre, by rw [h1]; unfold ids; rw [HL.out], h2⟩⟩


theorem events_in (n : Nat) (v : Value) (w : World) : CallsIn Fence.wide n Try.prog 89 #[.agg #[v]] w fun e w' =>
    e = .returned (.func (.func 101) #[] #[.pointer (some ⟨w.heap.size, 0, none⟩)]) ∧ w' = w.alloc (.cells #[v] 24) := by
  refine callsIn_of_wp Try.func89 rfl trivial ?_ rfl
  simp only [Try.ntmps89, List.size_toArray, List.length_cons, List.length_nil, Nat.reduceAdd, Nat.reduceSub, Array.replicate_succ, Array.replicate_zero, List.push_toArray, List.append_toArray, List.nil_append, List.cons_append]
  gi_wp2
  go_ret
  exact ⟨rfl, rfl⟩

theorem enters_101 : ∀ args w, (callFunc 101 args).run Try.prog w = .ok (.enter 101 args) w := enters_of Try.func101 (by kernel_rfl) rfl

/-- The events of a trace, in their order: all; or the first few, where a round has said 'no more'. -/
theorem events_stops (n : Nat) (hn : 1 ≤ n) (Bn : Nat) (v : Value) (t : Tr) (w w0 : World) (hT : TrAt w v t) (hs : SmallTr t) (h0 : Below w.heap.size w w0) (hBl : Bn < w0.heap.size) (hBn : w0.cell? ⟨Bn, 0, none⟩ = some v) :
    SeqStopsK Fence.wide n Try.prog 101 #[.pointer (some ⟨Bn, 0, none⟩)] (encE t w) (Below w.heap.size) (fun xs => nms xs = ids t) (fun pre => nms pre <+: ids t) (ids t).length w0 := fun l J Jx W hW hJ _ hY hJ0 =>
  events1_in n hn l Bn w.heap.size v t w hT hs rfl J Jx W (h0.trans (hW.mono h0.size)) hJ hY ((hW.cell (p := ⟨Bn, 0, none⟩) hBl).trans hBn) hJ0

end Go.Proofs.Ytfcpnggdpaeldaa

/-
  The program's table of messages: plain facts.
-/
namespace Go.Proofs.Ytfcpnggdpaeldaa
open Go.RowKit
set_option linter.unusedVariables false
open Go.Shelf
attribute [local go_sem] Oper.semAt_some

theorem heap_kept {W W' : World} {row : Option Nat} {k : Nat} {cs : Array Value} {T : TypeId} {fr : Nat × Nat} (h : W.heap[k]? = some (.cells cs T fr)) (hg : W.grownBy W' row) (hr : ∀ r, row = some r → ∃ o : Obj, W.heap[r]? = some o ∧ o.isCells = false) : W'.heap[k]? = some (.cells cs T fr) := by
  refine grownKeep hg ?_ h
  intro e
  obtain ⟨o, ho, hc⟩ := hr k e
  rw [h] at ho
  cases ho
  cases hc
/-- Blocks laid one behind the other. -/
theorem allocs_at (os : List Obj) : ∀ (w : World) (i : Nat) (o : Obj), os[i]? = some o → (os.foldl World.alloc w).heap[w.heap.size + i]? = some o := by
  induction os with
  | nil => intro w i o h; simp at h
  | cons a os ih =>
    intro w i o h
    have hx : ∀ (os : List Obj) (w : World), Ext w (os.foldl World.alloc w) := by
      intro os
      induction os with
      | nil => intro w; exact Ext.rf w
      | cons a os ih => intro w; exact ((Ext.rf w).al a).trans' (ih _)
    cases i with
    | zero =>
      simp only [List.getElem?_cons_zero, Option.some.injEq] at h
      subst h
      exact (hx os (w.alloc a)).hp (heap_alloc_new w a)
    | succ i =>
      have := ih (w.alloc a) i o (by simpa using h)
      rw [World.size_alloc] at this
      rw [show w.heap.size + (i + 1) = w.heap.size + 1 + i from by omega]
      exact this

/-- The program's table: for each number the events that send and receive it, of those that have come. -/
def LettA (cs : Array Value) (t : Tr) (pre : List Eid) : Prop := cs.size = 800 ∧
  ∀ m : Nat, m ≤ 199 → cs[m * 4]? = some (.int .i64 (eidA (firstIn pre t 2 m))) ∧ cs[m * 4 + 1]? = some (.int .i64 (eidB (firstIn pre t 2 m))) ∧
    cs[m * 4 + 2]? = some (.int .i64 (eidA (firstIn pre t 3 m))) ∧ cs[m * 4 + 3]? = some (.int .i64 (eidB (firstIn pre t 3 m)))
def Lett (W : World) (b : Nat) (t : Tr) (pre : List Eid) : Prop := ∃ cs, W.heap[b]? = some (.cells cs 143) ∧ LettA cs t pre
theorem Lett.ext {W W' : World} {b : Nat} {t : Tr} {pre : List Eid} (h : Lett W b t pre) (x : Ext W W') : Lett W' b t pre := by
  obtain ⟨cs, h1, h2⟩ := h; exact ⟨cs, x.hp h1, h2⟩
theorem Lett.kept {W W' : World} {row : Option Nat} {b : Nat} {t : Tr} {pre : List Eid} (h : Lett W b t pre) (hg : W.grownBy W' row) (hr : ∀ r, row = some r → ∃ o : Obj, W.heap[r]? = some o ∧ o.isCells = false) : Lett W' b t pre := by
  obtain ⟨cs, h1, h2⟩ := h; exact ⟨cs, heap_kept h1 hg hr, h2⟩
theorem zero_letters : Try.zeroCells143 = Array.replicate 800 (Value.int .i64 0) := by kernel_rfl
theorem LettA.start (t : Tr) : LettA Try.zeroCells143 t [] := by
  rw [zero_letters]
  refine ⟨by simp, fun m hm => ?_⟩
  simp only [firstIn, List.find?_nil, eidA, eidB, Array.getElem?_replicate]
  refine ⟨?_, ?_, ?_, ?_⟩ <;> rw [if_pos (by omega)]
theorem firstIn_other {pre : List Eid} {t : Tr} {k m : Int} {x : Eid} (h : ¬ ((ev t x).kind = k ∧ (ev t x).msg = m)) : firstIn (pre ++ [x]) t k m = firstIn pre t k m := by
  rw [firstIn_snoc, if_neg h]; simp
theorem firstIn_this {pre : List Eid} {t : Tr} {k m : Int} {x : Eid} (h : (ev t x).kind = k ∧ (ev t x).msg = m) (hn : firstIn pre t k m = none) : firstIn (pre ++ [x]) t k m = some x := by
  rw [firstIn_snoc, if_pos h, hn]; rfl
theorem LettA.local {cs : Array Value} {t : Tr} {pre : List Eid} {x : Eid} (h : LettA cs t pre) (hk : (ev t x).kind = 1) : LettA cs t (pre ++ [x]) := by
  refine ⟨h.1, fun m hm => ?_⟩
  rw [firstIn_other (by rw [hk]; intro e; exact absurd e.1 (by decide)), firstIn_other (by rw [hk]; intro e; exact absurd e.1 (by decide))]
  exact h.2 m hm
theorem LettA.send {cs : Array Value} {t : Tr} {pre : List Eid} {x : Eid} {m : Nat} (h : LettA cs t pre) (hk : (ev t x).kind = 2) (hm : (ev t x).msg = m) (hm9 : m ≤ 199) (hn : firstIn pre t 2 m = none) :
    LettA ((cs.setIfInBounds (m * 4) (.int .i64 x.1)).setIfInBounds (m * 4 + 1) (.int .i64 ((x.2 : Int) + 1))) t (pre ++ [x]) := by
  refine ⟨by simp [h.1], fun j hj => ?_⟩
  have hsz := h.1
  obtain ⟨h1, h2, h3, h4⟩ := h.2 j hj
  rw [firstIn_other (k := 3) (by rw [hk]; intro e; exact absurd e.1 (by decide))]
  by_cases e : j = m
  · subst e
    rw [firstIn_this ⟨hk, hm⟩ hn]
    refine ⟨?_, ?_, ?_, ?_⟩
    · rw [Array.getElem?_setIfInBounds_ne (by omega), Array.getElem?_setIfInBounds_self_of_lt (by omega)]; rfl
    · rw [Array.getElem?_setIfInBounds_self_of_lt (by simp; omega)]; rfl
    · rw [Array.getElem?_setIfInBounds_ne (by omega), Array.getElem?_setIfInBounds_ne (by omega)]; exact h3
    · rw [Array.getElem?_setIfInBounds_ne (by omega), Array.getElem?_setIfInBounds_ne (by omega)]; exact h4
  · rw [firstIn_other (by rw [hm]; intro e2; exact e (by have := e2.2; omega))]
    refine ⟨?_, ?_, ?_, ?_⟩ <;> rw [Array.getElem?_setIfInBounds_ne (by omega), Array.getElem?_setIfInBounds_ne (by omega)]
    · exact h1
    · exact h2
    · exact h3
    · exact h4
theorem LettA.recv {cs : Array Value} {t : Tr} {pre : List Eid} {x : Eid} {m : Nat} (h : LettA cs t pre) (hk : (ev t x).kind = 3) (hm : (ev t x).msg = m) (hm9 : m ≤ 199) (hn : firstIn pre t 3 m = none) :
    LettA ((cs.setIfInBounds (m * 4 + 2) (.int .i64 x.1)).setIfInBounds (m * 4 + 3) (.int .i64 ((x.2 : Int) + 1))) t (pre ++ [x]) := by
  refine ⟨by simp [h.1], fun j hj => ?_⟩
  have hsz := h.1
  obtain ⟨h1, h2, h3, h4⟩ := h.2 j hj
  rw [firstIn_other (k := 2) (by rw [hk]; intro e; exact absurd e.1 (by decide))]
  by_cases e : j = m
  · subst e
    rw [firstIn_this ⟨hk, hm⟩ hn]
    refine ⟨?_, ?_, ?_, ?_⟩
    · rw [Array.getElem?_setIfInBounds_ne (by omega), Array.getElem?_setIfInBounds_ne (by omega)]; exact h1
    · rw [Array.getElem?_setIfInBounds_ne (by omega), Array.getElem?_setIfInBounds_ne (by omega)]; exact h2
    · rw [Array.getElem?_setIfInBounds_ne (by omega), Array.getElem?_setIfInBounds_self_of_lt (by omega)]; rfl
    · rw [Array.getElem?_setIfInBounds_self_of_lt (by simp; omega)]; rfl
  · rw [firstIn_other (by rw [hm]; intro e2; exact e (by have := e2.2; omega))]
    refine ⟨?_, ?_, ?_, ?_⟩ <;> rw [Array.getElem?_setIfInBounds_ne (by omega), Array.getElem?_setIfInBounds_ne (by omega)]
    · exact h1
    · exact h2
    · exact h3
    · exact h4

/-- What a message fault's search hands back. -/
def MsgOut (t : Tr) (w w' : World) (e : Ending) : Prop := ∃ (pv : Option Addr) (a b E : Int), e = .returned (.tuple #[.pointer pv, .agg #[.int .i64 a, .int .i64 b], .int .i64 E]) ∧ (E = 0 ↔ pairB t = true) ∧ Ext w w' ∧
  (E = 0 → ∃ B, pv = some ⟨B, 0, none⟩ ∧ Lett w' B t (ids t))


end Go.Proofs.Ytfcpnggdpaeldaa

/-
  An event by its name: the reference's At.
-/
namespace Go.Proofs.Ytfcpnggdpaeldaa
open Go.RowKit
set_option linter.unusedVariables false
attribute [local go_sem ↓] Go.wp_at_zero Go.wp_at_succ

abbrev e5 (a b c d : Value) (v : Value) : Obj := .cells #[a, b, c, d, v] 55
theorem e5_set {w : World} {K : Nat} {z0 z1 z2 z3 z4 : Value} (h : w.heap[K]? = some (e5 z0 z1 z2 z3 z4)) (a b c d v : Value) :
    (((((w.setCell ⟨K, 0, none⟩ a).setCell ⟨K, 1, none⟩ b).setCell ⟨K, 2, none⟩ c).setCell ⟨K, 3, none⟩ d).setCell ⟨K, 4, none⟩ v).heap[K]? = some (e5 a b c d v) := by
  have h0 : (w.setCell ⟨K, 0, none⟩ a).heap[K]? = some (e5 a z1 z2 z3 z4) := by rw [heap_setCell_same h]; simp
  have h1 : ((w.setCell ⟨K, 0, none⟩ a).setCell ⟨K, 1, none⟩ b).heap[K]? = some (e5 a b z2 z3 z4) := by rw [heap_setCell_same h0]; simp
  have h2 : (((w.setCell ⟨K, 0, none⟩ a).setCell ⟨K, 1, none⟩ b).setCell ⟨K, 2, none⟩ c).heap[K]? = some (e5 a b c z3 z4) := by rw [heap_setCell_same h1]; simp
  have h3 : ((((w.setCell ⟨K, 0, none⟩ a).setCell ⟨K, 1, none⟩ b).setCell ⟨K, 2, none⟩ c).setCell ⟨K, 3, none⟩ d).heap[K]? = some (e5 a b c d z4) := by rw [heap_setCell_same h2]; simp
  rw [heap_setCell_same h3]; simp
theorem e5_ext {w W : World} {K : Nat} (h : Ext w W) (hK : w.heap.size ≤ K) (a b c d v : Value) : Ext w (((((W.setCell ⟨K, 0, none⟩ a).setCell ⟨K, 1, none⟩ b).setCell ⟨K, 2, none⟩ c).setCell ⟨K, 3, none⟩ d).setCell ⟨K, 4, none⟩ v) :=
  ((((h.st (p := ⟨K, 0, none⟩) hK a).st (p := ⟨K, 1, none⟩) hK b).st (p := ⟨K, 2, none⟩) hK c).st (p := ⟨K, 3, none⟩) hK d).st (p := ⟨K, 4, none⟩) hK v
/-- An event handed back by value. -/
def EvOut (w w' : World) (e : Ending) (y : Ev) : Prop := ∃ a c, e = .returned (.agg #[.int .i64 y.kind, .int .i64 y.peer, .int .i64 y.msg, .int .i64 y.time, .slice a y.asg.length c]) ∧ Ext w w'

set_option maxHeartbeats 4000000 in
set_option maxRecDepth 100000 in
theorem atR_calls (v : Value) (t : Tr) (p i : Nat) (w : World) (h : TrAt w v t) (hs : SmallTr t) (hx : Inn t (p, i)) :
    Calls Try.prog 85 #[.agg #[v], .agg #[.int .i64 p, .int .i64 ((i : Int) + 1)]] w fun e w' => EvOut w w' e (ev t (p, i)) := by
  obtain ⟨hp, hi⟩ := hx
  simp only at hp hi
  show Calls _ _ _ _ fun e w' => EvOut w w' e t[p]!.events[i]!
  obtain ⟨B, O, C, vv, ve, rfl, hlC, hB, hn0, hv0, he0, hV, hE0⟩ := proc_at h p hp
  obtain ⟨EB, EO, EC, va, rfl, hlE, hEB, k0, k1, k2, k3, k4, ha⟩ := event_at hE0 i hi
  obtain ⟨ua, uc, rfl, huc⟩ := ha.sh
  have hn := hs.1
  have hen := (hs.2 p hp).2.1
  generalize hxx : t[p]! = x at *
  generalize hev : x.events[i]! = y at *
  generalize hln : t.length = n at *
  generalize hne : x.events.length = ne at *
  generalize hna : y.asg.length = na at *
  have HNA := Lib.hid hna
  have hpz : (0 : Int) ≤ (p : Int) := by omega
  have hpi : (p : Int) < (n : Int) := by omega
  have hiz : (0 : Int) ≤ (i : Int) := by omega
  have hii : (i : Int) < (ne : Int) := by omega
  have hE3 : Ext w (((w.alloc (.cells #[.slice (some ⟨B, O, none⟩) n C] 24)).alloc (.cells #[.int .i64 p, .int .i64 ((i : Int) + 1)] 87)).alloc (e5 (.int .i64 0) (.int .i64 0) (.int .i64 0) (.int .i64 0) (.slice none 0 0))) := (((Ext.rf w).al _).al _).al _
  have HX0 := Lib.hid ((((Ext.rf _).al (.cells #[.int .i64 p, .int .i64 ((i : Int) + 1)] 87)).al (e5 (.int .i64 0) (.int .i64 0) (.int .i64 0) (.int .i64 0) (.slice none 0 0))).hp (heap_alloc_new w (.cells #[.slice (some ⟨B, O, none⟩) n C] 24)))
  have HX1 := Lib.hid (((Ext.rf _).al (e5 (.int .i64 0) (.int .i64 0) (.int .i64 0) (.int .i64 0) (.slice none 0 0))).hp (heap_new_eq (w := w.alloc (.cells #[.slice (some ⟨B, O, none⟩) n C] 24)) (o := .cells #[.int .i64 p, .int .i64 ((i : Int) + 1)] 87) (b := w.heap.size + 1) (by simp)))
  have HX2 := Lib.hid (heap_new_eq (w := (w.alloc (.cells #[.slice (some ⟨B, O, none⟩) n C] 24)).alloc (.cells #[.int .i64 p, .int .i64 ((i : Int) + 1)] 87)) (o := e5 (.int .i64 0) (.int .i64 0) (.int .i64 0) (.int .i64 0) (.slice none 0 0)) (b := w.heap.size + 1 + 1) (by simp))
  have HE3 := Lib.hid hE3
  have he1 := hE3.cl he0
  have m0 := hE3.cl k0
  have m1 := hE3.cl k1
  have m2 := hE3.cl k2
  have m3 := hE3.cl k3
  have m4 := hE3.cl k4
  clear hn0 hv0 he0 hV hE0 h hs ha hE3 hxx hev hln hne hna k0 k1 k2 k3 k4
  go_enter Try.func85, Try.ntmps85
  go_wp2
  generalize hw3 : ((w.alloc (.cells #[.slice (some ⟨B, O, none⟩) n C] 24)).alloc (.cells #[.int .i64 p, .int .i64 ((i : Int) + 1)] 87)).alloc (e5 (.int .i64 0) (.int .i64 0) (.int .i64 0) (.int .i64 0) (.slice none 0 0)) = w3 at *
  clear hw3
  have t0 := cellOf HX0.out 0
  have j0 := cellOf HX1.out 0
  have j1 := cellOf HX1.out 1
  simp only [List.getElem?_toArray, List.getElem?_cons_zero, List.getElem?_cons_succ] at t0 j0 j1
  have z0 := cellOf HX2.out 0
  have z1 := cellOf HX2.out 1
  have z2 := cellOf HX2.out 2
  have z3 := cellOf HX2.out 3
  have z4 := cellOf HX2.out 4
  simp only [List.getElem?_toArray, List.getElem?_cons_zero, List.getElem?_cons_succ] at z0 z1 z2 z3 z4
  have g0 := freeOf HX2.out 0
  have g1 := freeOf HX2.out 1
  have g2 := freeOf HX2.out 2
  have g3 := freeOf HX2.out 3
  have g4 := freeOf HX2.out 4
  have w1 : IntKind.i64.wrap ((i : Int) + 1 - 1) = (i : Int) := by rw [IntWalk.i64_in _ (by omega)]; omega
  have w2 : IntKind.i64.wrap (i : Int) = (i : Int) := IntWalk.i64_in _ (by omega)
  go_region
  go_wp2
  clear w1 w2
  have r := e5_set HX2.out (.int .i64 y.kind) (.int .i64 y.peer) (.int .i64 y.msg) (.int .i64 y.time) (.slice ua na uc)
  have HR := Lib.hid r
  clear r t0 j0 j1 z0 z1 z2 z3 z4 g0 g1 g2 g3 g4
  have r0 := cellOf HR.out 0
  have r1 := cellOf HR.out 1
  have r2 := cellOf HR.out 2
  have r3 := cellOf HR.out 3
  have r4 := cellOf HR.out 4
  simp only [List.getElem?_toArray, List.getElem?_cons_zero, List.getElem?_cons_succ] at r0 r1 r2 r3 r4
  refine bodyPost_ret (v := .agg #[.int .i64 y.kind, .int .i64 y.peer, .int .i64 y.msg, .int .i64 y.time, .slice ua na uc]) (by simp [results, Try.results85, go_sem, r0, r1, r2, r3, r4]) rfl ?_
  exact ⟨ua, uc, by rw [HNA.out], e5_ext HE3.out.dr (by omega) _ _ _ _ _⟩

end Go.Proofs.Ytfcpnggdpaeldaa

/-
  The events directly before an event: the reference's Directly.
-/
namespace Go.Proofs.Ytfcpnggdpaeldaa
open Go.RowKit
set_option linter.unusedVariables false
attribute [local go_sem ↓] Go.wp_at_zero Go.wp_at_succ

/-- The two cells of an event's name. -/
def eidC (x : Eid) : List Value := [.int .i64 x.1, .int .i64 ((x.2 : Int) + 1)]
theorem eidC_len (l : List Eid) : (l.flatMap eidC).length = l.length * 2 := by
  induction l with
  | nil => rfl
  | cons a l ih => simp [eidC, ih]; omega
/-- A list of names that the call has made. -/
def EidsOut (w w' : World) (e : Ending) (l : List Eid) : Prop := ∃ v, e = .returned v ∧ Row w' w.heap.size 87 2 v l.length (l.flatMap eidC) ∧ Ext w w'
theorem info_eid : (Try.prog.info? 87).map (fun i => (i.zero, i.size, i.bytes)) = some (some (.agg #[.int .i64 0, .int .i64 0]), 2, 16) := by kernel_rfl

set_option maxHeartbeats 4000000 in
set_option maxRecDepth 100000 in
theorem directlyR_calls (v : Value) (t : Tr) (p i : Nat) (w : World) (h : TrAt w v t) (hs : SmallTr t) (hx : Inn t (p, i)) (hsd : (ev t (p, i)).kind = 3 → ∃ s, findE t 2 (ev t (p, i)).msg = some s) :
    Calls Try.prog 86 #[.agg #[v], .agg #[.int .i64 p, .int .i64 ((i : Int) + 1)]] w fun e w' => EidsOut w w' e (bef t (p, i)) := by
  obtain ⟨ix, hix⟩ : ∃ x : Int, (i : Int) + 1 = x := ⟨_, rfl⟩
  rw [hix]
  obtain ⟨ie, hie, iz0, iz1, iz2⟩ := info_parts info_eid
  have hi6 : i < 1000000 := by have := (hs.2 p hx.1).2.1; have := hx.2; simp only at this; omega
  have HAT : Hid (∀ W, Ext w W → Calls Try.prog 85 #[.agg #[v], .agg #[.int .i64 p, .int .i64 ix]] W fun e w' => EvOut W w' e (ev t (p, i))) := Lib.hid (fun W hW => hix ▸ atR_calls v t p i W (h.ext hW) hs hx)
  have HFI := Lib.hid (fun W (hW : Ext w W) m => findR_calls v t 2 m W (h.ext hW) hs)
  obtain ⟨ta, tc, rfl, htc⟩ := h.sh
  generalize hy : ev t (p, i) = y at *
  generalize hln : t.length = n at *
  have HSD := Lib.hid hsd
  have HY := Lib.hid hy
  have hb1 : 1 ≤ ix := by omega
  have hb2 : ix ≤ 1000000 := by omega
  have HIX := Lib.hid hix
  have HX0 := Lib.hid (((Ext.rf _).al (.cells #[.int .i64 p, .int .i64 ix] 87)).hp (heap_alloc_new w (.cells #[.slice ta n tc] 24)))
  have HX1 := Lib.hid (heap_new_eq (w := w.alloc (.cells #[.slice ta n tc] 24)) (o := .cells #[.int .i64 p, .int .i64 ix] 87) (b := w.heap.size + 1) (by simp))
  have HE2 : Hid (Ext w ((w.alloc (.cells #[.slice ta n tc] 24)).alloc (.cells #[.int .i64 p, .int .i64 ix] 87))) := Lib.hid (((Ext.rf w).al _).al _)
  clear h hs hx hsd hy hln hix hi6
  obtain ⟨bt, hbt⟩ : ∃ b, decide (1 < ix) = b := ⟨_, rfl⟩
  go_enter Try.func86, Try.ntmps86
  go_upto_if 9 with (fail)
  generalize hw2 : (w.alloc (.cells #[.slice ta n tc] 24)).alloc (.cells #[.int .i64 p, .int .i64 ix] 87) = w2 at *
  clear hw2
  have HBT := Lib.hid hbt
  clear hbt
  go_cut [5] (fun s5 wx => ∃ L : List Eid, Aside (L = if 0 < i then [(p, i - 1)] else []) ∧ Aside (Row wx w.heap.size 87 2 s5 L.length (L.flatMap eidC)) ∧ Aside (Ext w2 wx))
  case first =>
    cases bt with
    | false =>
      have HI := Lib.hid (show ¬ 0 < i from by have h9 : ¬ 1 < ix := of_decide_eq_false HBT.out; have := HIX.out; omega)
      go_wp2
      go_meet
      exact ⟨[], (show _ = _ from by rw [if_neg HI.out]), Row.mkNil _ _ _ _, Ext.rf _⟩
    | true =>
      have HI := Lib.hid (show 0 < i from by have h9 : 1 < ix := of_decide_eq_true HBT.out; have := HIX.out; omega)
      have j0 := cellOf HX1.out 0
      have j1 := cellOf HX1.out 1
      simp only [List.getElem?_toArray, List.getElem?_cons_zero, List.getElem?_cons_succ] at j0 j1
      have hsz := HE2.out.sz
      go_wp2_with ((at_builtin; go_loud (refine wpList_append_one rfl _ _ 101 rfl w.heap.size 87 ie (.agg #[.int .i64 0, .int .i64 0]) 2 16 Try.underlying101 hie iz0 iz1 iz2 rfl (by decide) _ 0 [] rfl (Row.mkNil _ _ _ _) w2.heap.size 1 [.int .i64 p, .int .i64 (ix - 1)] rfl rfl ⟨_, heap_alloc_new _ _⟩ (by simp [Value.oneCell']) (by unfold maxLen; omega) (by omega) (by simp; omega) ?_; intro v5 w5 hown5 hgrow5 hblk5; have HOWN := Lib.hid hown5; have HGR := Lib.hid (show (w2.alloc (.cells #[.int .i64 p, .int .i64 (ix - 1)] 87)).grownBy w5 none from hgrow5); clear hown5 hgrow5 hblk5)))
      go_meet
      refine ⟨[(p, i - 1)], (show _ = _ from by rw [if_pos HI.out]), (show Row _ _ _ _ _ _ _ from ?_), ((Ext.rf w2).al _).gr HGR.out (by simp)⟩
      have := HOWN.out
      have e : ix - 1 = ((i - 1 : Nat) : Int) + 1 := by have := HIX.out; have := HI.out; omega
      rw [e] at this
      simpa [eidC] using this
  case rest =>
    obtain ⟨L, HL, HR, HE⟩ := hcut
    have HEW := Lib.hid (HE2.out.trans' HE.out)
    have HXA := Lib.hid (HE.out.hp HX0.out)
    have HXB := Lib.hid (HE.out.hp HX1.out)
    have t0 := cellOf HXA.out 0
    have j0 := cellOf HXB.out 0
    have j1 := cellOf HXB.out 1
    simp only [List.getElem?_toArray, List.getElem?_cons_zero, List.getElem?_cons_succ] at t0 j0 j1
    go_wp2_with fail
    refine (HAT.out _ HEW.out).mono ?_
    rintro e w3 ⟨ua, uc, rfl, hE3⟩
    generalize y.asg.length = na
    have HE3 := Lib.hid hE3
    have HXA3 := Lib.hid (hE3.hp HXA.out)
    have HR3 := Lib.hid (HR.out.ext hE3)
    clear hE3 t0 j0 j1
    obtain ⟨kd, hkd⟩ : ∃ k, y.kind = k := ⟨_, rfl⟩
    obtain ⟨ms, hms⟩ : ∃ k, y.msg = k := ⟨_, rfl⟩
    rw [hkd, hms]
    have HKD := Lib.hid hkd
    have HMS := Lib.hid hms
    clear hkd hms
    have HB4 := Lib.hid (heap_alloc_new w3 (e5 (.int .i64 kd) (.int .i64 y.peer) (.int .i64 ms) (.int .i64 y.time) (.slice ua na uc)))
    have HXA4 := Lib.hid (((Ext.rf w3).al (e5 (.int .i64 kd) (.int .i64 y.peer) (.int .i64 ms) (.int .i64 y.time) (.slice ua na uc))).hp HXA3.out)
    have HE4 := Lib.hid ((HEW.out.trans' HE3.out).al (e5 (.int .i64 kd) (.int .i64 y.peer) (.int .i64 ms) (.int .i64 y.time) (.slice ua na uc)))
    have HR4 := Lib.hid (HR3.out.al (e5 (.int .i64 kd) (.int .i64 y.peer) (.int .i64 ms) (.int .i64 y.time) (.slice ua na uc)))
    have HBEF : Hid (bef t (p, i) = L ++ (if kd = 3 then (findE t 2 ms).toList else [])) := Lib.hid (by
      unfold bef; rw [HY.out, HKD.out, HMS.out, HL.out])
    by_cases h3 : kd = 3
    · obtain ⟨s, hs⟩ := HSD.out (HKD.out.trans h3)
      rw [HMS.out] at hs
      have c3 : (kd == 3) = true := by simp [h3]
      have HB2 : Hid (bef t (p, i) = L ++ [s]) := Lib.hid (by rw [HBEF.out, if_pos h3, hs]; rfl)
      have HFS : Hid (∀ W, Ext w W → Calls Try.prog 82 #[.agg #[.slice ta n tc], .int .i64 2, .int .i64 ms] W fun e w' => e = .returned (.agg #[.int .i64 s.1, .int .i64 ((s.2 : Int) + 1)]) ∧ Ext W w') := Lib.hid (fun W hW => by have := HFI.out W hW ms; rw [hs] at this; exact this)
      clear h3 hs
      obtain ⟨s1, hs1⟩ : ∃ z : Int, (s.1 : Int) = z := ⟨_, rfl⟩
      obtain ⟨s2, hs2⟩ : ∃ z : Int, (s.2 : Int) + 1 = z := ⟨_, rfl⟩
      rw [hs1, hs2] at HFS
      have HS12 := Lib.hid (And.intro hs1 hs2)
      clear hs1 hs2
      have t3 := cellOf HXA3.out 0
      simp only [List.getElem?_toArray, List.getElem?_cons_zero] at t3
      have q3 : w.heap.size < w3.heap.size := (Array.getElem?_eq_some_iff.1 HXA3.out).1
      have q3n : w.heap.size ≠ w3.heap.size := by omega
      go_wp2_with fail
      clear t3
      refine (HFS.out _ HE4.out).mono ?_
      rintro e w5 ⟨rfl, hE5⟩
      have HE5 := Lib.hid (HE4.out.trans' hE5)
      have HR5 := Lib.hid (HR4.out.ext hE5)
      have hsz5 := HE5.out.sz
      clear hE5
      have hLn : L.length ≤ 1 := by rw [HL.out]; split <;> simp
      generalize hLL : L.length = ln at *
      have HLL := Lib.hid hLL
      clear hLL
      go_wp2_with ((at_builtin; go_loud (refine wpList_append_one rfl _ _ 101 rfl w.heap.size 87 ie (.agg #[.int .i64 0, .int .i64 0]) 2 16 Try.underlying101 hie iz0 iz1 iz2 rfl (by decide) _ ln _ rfl (HR5.out.al _) w5.heap.size 1 [.int .i64 s1, .int .i64 s2] rfl rfl ⟨_, heap_alloc_new _ _⟩ (by simp [Value.oneCell']) (by unfold maxLen; omega) (by omega) (by simp; omega) ?_; intro v6 w6 hown6 hgrow6 hblk6; have HOWN := Lib.hid hown6; have HE6 := Lib.hid (show Ext w w6 from (HE5.out.al (.cells #[.int .i64 s1, .int .i64 s2] 87)).gr hgrow6 (fun q hq => (HR5.out.lt q hq).1)); clear hown6 hgrow6 hblk6)))
      go_ret
      refine ⟨_, rfl, ?_, HE6.out⟩
      rw [HB2.out, List.length_append, List.flatMap_append, HLL.out]
      have := HOWN.out
      rw [← HS12.out.1, ← HS12.out.2] at this
      simpa [eidC] using this
    · have c3 : (kd == 3) = false := by simp [h3]
      have HB2 : Hid (bef t (p, i) = L) := Lib.hid (by rw [HBEF.out, if_neg h3, List.append_nil])
      clear h3
      go_wp2
      go_ret
      exact ⟨_, rfl, by rw [HB2.out]; exact HR4.out, HE4.out⟩

end Go.Proofs.Ytfcpnggdpaeldaa

/-
  A map from events' names to yes or no that the call has made, in a round of a range over a function; and an append there.
-/
namespace Go.Proofs.Ytfcpnggdpaeldaa
open Go.RowKit
set_option linter.unusedVariables false
open Go.Maps

theorem laid_prog : laidOutB Try.prog = true := by kernel_rfl
theorem eid_law : WideMaps.KeyLaw Try.prog 87 := deep_law_laid laid_prog (m := 3) (by omega) (of_decide_eq_true (by kernel_rfl)) (by kernel_rfl) (by kernel_rfl)
theorem eid_keyed : Keyed Try.prog 87 := Keyed.of_law eid_law
/-- The key that a name is read as. -/
def ekey (x : Eid) : Lit := .string (keyBytes [.int .i64 x.1, .int .i64 ((x.2 : Int) + 1)])
theorem wf_i64 {z : Int} (h0 : 0 ≤ z) (h1 : z ≤ 1000000) : (Lit.int .i64 z).wf = true := by
  simp [Lit.wf, IntKind.min, IntKind.max, IntKind.signed, IntKind.bits]; omega
theorem eid_cells : Try.prog.cellsOf 87 = 2 := by kernel_rfl
theorem int_cells : Try.prog.cellsOf 3 = 1 := by kernel_rfl
theorem eid_kt : Try.prog.keyType 87 = true := by kernel_rfl
theorem two_types : 2 ≤ Try.prog.types.size := of_decide_eq_true (by kernel_rfl)
theorem ekey_of {x : Eid} (h1 : x.1 < 1000000) (h2 : x.2 < 1000000) : keyOf Try.prog 87 (.agg #[.int .i64 x.1, .int .i64 ((x.2 : Int) + 1)]) = some (ekey x) := by
  have wa : (Lit.int .i64 (x.1 : Int)).wf = true := wf_i64 (by omega) (by omega)
  have wb : (Lit.int .i64 ((x.2 : Int) + 1)).wf = true := wf_i64 (by omega) (by omega)
  obtain ⟨m, hm⟩ : ∃ m, Try.prog.types.size = m + 2 := ⟨Try.prog.types.size - 2, by have := two_types; omega⟩
  unfold keyOf ekey
  simp only [Try.underlying87]
  rw [if_pos (by rw [eid_kt]; simp [Value.formed, Try.underlying87, eid_cells]), hm]
  simp [Program.keyLits, Try.underlying87, Try.underlying3, eid_cells, int_cells, Value.cells, wa, wb]
theorem ekey_inj {x y : Eid} (hx1 : x.1 < 1000000) (hx2 : x.2 < 1000000) (hy1 : y.1 < 1000000) (hy2 : y.2 < 1000000) (h : ekey x = ekey y) : x = y := by
  have := eid_keyed.inj (ekey_of hx1 hx2) (h ▸ ekey_of hy1 hy2)
  obtain ⟨a, b⟩ := x
  obtain ⟨c, d⟩ := y
  simp at this
  simp only [Prod.mk.injEq]
  omega
theorem plain_bool_inv {P : Program} {e : TypeId} (he : P.underlying e = some .bool) {v : Value} {c : Bool} {ps : List MemPlace} (h : plainElem (H := Unit) P e v = some (.lit (.bool c), ps)) : v = .bool c := by
  unfold plainElem at h
  rw [he] at h
  cases v <;> simp at h
  rw [h.1]
theorem zero_bool1 (w : World) : (zeroValue 4).run Try.prog w = .ok (.bool false) w := by kernel_rfl

/-- Block b says of each event whether it is in S; n stores were made. -/
def EMap (w : World) (b n : Nat) (t : Tr) (S : List Eid) : Prop :=
  ∃ D : DataW Unit, w.ownsMap Try.prog 87 (plainElem Try.prog 4) b n D ∧ IsMap D ∧ ∀ y, Inn t y → D.atKey (ekey y) (.lit (.bool false)) = .lit (.bool (decide (y ∈ S)))
theorem EMap.made (w : World) (t : Tr) : EMap (w.alloc (.map #[] 0)) w.heap.size 0 t [] :=
  ⟨.map [], World.ownsMap_made _ _ _ _, isMap_empty, fun y _ => by simp; rfl⟩
theorem EMap.ext {w w' : World} {b n : Nat} {t : Tr} {S : List Eid} (h : EMap w b n t S) (x : Ext w w') : EMap w' b n t S := by
  obtain ⟨D, ⟨es, clock, hb, r⟩, h2⟩ := h
  exact ⟨D, ⟨es, clock, x.hp hb, r⟩, h2⟩
theorem EMap.lt {w : World} {b n : Nat} {t : Tr} {S : List Eid} (h : EMap w b n t S) : b < w.heap.size := by obtain ⟨D, h, _⟩ := h; exact h.lt
theorem inn_small {t : Tr} (hs : SmallTr t) {x : Eid} (hx : Inn t x) : x.1 < 1000000 ∧ x.2 < 1000000 := by
  have h1 := hs.1
  have h2 := (hs.2 x.1 hx.1).2.1
  have h3 := hx.1
  have h4 := hx.2
  omega

section
variable {F : Fence} {nF : Nat} {w : World} {ops : Array Oper} {rest : List Oper} {o : Oper} {a : Act} {Q : Exit → Act → World → Prop}
theorem wpListIn_look_e (hg : o.guard = none) (m x : Operand) (hop : o.op = Op.lookup 145 m x false) (b n : Nat) (t : Tr) (S : List Eid) (hown : EMap w b n t S) (hs : SmallTr t)
    (y : Eid) (hy : Inn t y) (hm : a.eval m = .map (some b)) (hx : a.eval x = .agg #[.int .i64 y.1, .int .i64 ((y.2 : Int) + 1)])
    (hK : wpListIn F nF Try.prog ops Q rest (a.put o.dst (.bool (decide (y ∈ S)))) w) :
    wpListIn F nF Try.prog ops Q (o :: rest) a w := by
  refine wpListIn_plain hg fun K' hK' => ?_
  obtain ⟨D, h, _, hD⟩ := hown
  obtain ⟨v, ps, hr, hv⟩ := h.lookup eid_keyed Try.underlying145 (zero_bool1 w) (plainElem_bool Try.underlying4 false) (ekey_of (inn_small hs hy).1 (inn_small hs hy).2)
  rw [hD y hy] at hv
  obtain rfl := plain_bool_inv Try.underlying4 hv
  have hrun : (Instr.lookup 145 (.map (some b)) (.agg #[.int .i64 y.1, .int .i64 ((y.2 : Int) + 1)]) false).run Try.prog w = .ok (.bool (decide (y ∈ S))) w := by rw [hr]
  unfold Oper.wpIn
  refine ⟨by simp [Oper.about, hop], ?_⟩
  rw [Oper.semAt_plain F _ _ (by rw [hop]; intro c hc'; cases hc')]
  simp [execOp, hop, hm, hx, hrun, Result.andThen]
  exact hK' _ _ (by simpa using hK)

theorem wpListIn_put_e (hg : o.guard = none) (m x v : Operand) (hop : o.op = Op.mapUpdate 145 m x v) (b n : Nat) (t : Tr) (S : List Eid) (hown : EMap w b n t S) (hs : SmallTr t) (hn : n < maxLen)
    (y : Eid) (hy : Inn t y) (hm : a.eval m = .map (some b)) (hx : a.eval x = .agg #[.int .i64 y.1, .int .i64 ((y.2 : Int) + 1)]) (hv : a.eval v = .bool true)
    (hK : ∀ w', EMap w' b (n + 1) t (y :: S) → w.grownBy w' (some b) → wpListIn F nF Try.prog ops Q rest (a.put o.dst undef) w') :
    wpListIn F nF Try.prog ops Q (o :: rest) a w := by
  obtain ⟨D, h, hi, hD⟩ := hown
  refine wpListIn_mapUpdate_own w hg m x v 145 hop 87 4 eid_keyed Try.underlying145 _ b n D hm h hn _ _ (ekey y) hx hv (ekey_of (inn_small hs hy).1 (inn_small hs hy).2) (.lit (.bool true)) [] (plainElem_bool Try.underlying4 true) ?_
  intro w' h' hg'
  refine hK w' ⟨_, h', hi.put _ _, fun z hz => ?_⟩ hg'
  by_cases e : z = y
  · subst e
    rw [atKey_put_same hi (by trivial)]
    simp
  · rw [atKey_put_other (fun e2 => e (ekey_inj (inn_small hs hz).1 (inn_small hs hz).2 (inn_small hs hy).1 (inn_small hs hy).2 e2)), hD z hz]
    simp [e]

theorem wpListIn_append_rowI {P : Program} (hgd : o.guard = none) (s x : Operand) (t : TypeId)
    (ho : o.op = .call { callee := .builtin .append, args := #[s, x], argTypes := #[t, t] })
    (base : Nat) (e : TypeId) (i : TypeInfo) (z : Value) (size bytes : Nat) (ht : P.underlying t = some (.slice e)) (hi : P.info? e = some i) (hz : i.zero = some z)
    (hsize : i.size = size) (hby : i.bytes = bytes) (hzs : z.cells.size = size) (hsz : 0 < size)
    (v : Value) (n : Nat) (xs : List Value) (hs : a.eval s = v) (hown : Row w base e size v n xs)
    (k c : Nat) (news : List Value) (hx : a.eval x = .slice (some ⟨k, 0, none⟩) 1 c) (hl : news.length = size) (hnews : ∃ fr, w.heap[k]? = some (.cells news.toArray e fr)) (h1 : ∀ u ∈ news, u.oneCell' = true)
    (h63 : n + 1 ≤ maxLen) (hbytes : (n + 1) * bytes ≤ 140737488355328) (hbase : base ≤ w.heap.size)
    (h : ∀ v' w', Row w' base e size v' (n + 1) (xs ++ news) → w.grownBy w' v.ownBlock → (v'.ownBlock = v.ownBlock ∨ ∃ k, v'.ownBlock = some k ∧ w.heap.size ≤ k) → wpListIn F nF P ops Q rest (a.put o.dst v') w') : wpListIn F nF P ops Q (o :: rest) a w := by
  refine wpListIn_plain hgd fun K' hK' => ?_
  obtain ⟨v', w', hr, h2, h3, h4⟩ := run_append_row (P := P) w base t o.type e i z size bytes ht hi hz hsize hby hzs hsz v n xs hown (some ⟨k, 0, none⟩) 1 c news (by omega)
    (fun _ => ⟨_, rfl, fun j u hj => by
      obtain ⟨fr, hf⟩ := hnews
      have := (List.getElem?_eq_some_iff.1 hj)
      simp [Addr.add_lit, World.cell?, hf, hj]⟩) h1 h63 hbytes hbase
  unfold Oper.wpIn
  refine ⟨by simp [Oper.about, ho, resolve, Target.leads, Sem.run_pure], ?_⟩
  rw [Oper.semAt_plain F _ _ (by rw [ho]; intro c hc'; cases hc')]
  unfold execOp
  simp only [ho, resolve, invoke, builtin, Sem.run_bind, Sem.run_pure, Result.andThen_ok, List.map_toArray, List.map_cons, List.map_nil, hs, hx, hr]
  exact hK' _ _ (h v' w' h2 h3 h4)
end

/-- A row without its last element. -/
theorem Row.init {w : World} {base : Nat} {e : TypeId} {size n cap : Nat} {ad : Option Addr} {xs : List Value} (h : Row w base e size (.slice ad (n + 1) cap) (n + 1) xs) : Row w base e size (.slice ad n cap) n (xs.take (n * size)) := by
  obtain ⟨hl, h⟩ := h
  refine ⟨by rw [List.length_take, hl, Nat.add_mul]; omega, ?_⟩
  rcases h with ⟨h, h0⟩ | ⟨g, off, cap', cur, hv, h2, h3, h4, h5, h6, h7⟩
  · omega
  · simp only [Value.slice.injEq] at hv
    obtain ⟨rfl, _, rfl⟩ := hv
    refine .inr ⟨g, off, cap, cur, rfl, h2, h3, by omega, h5, h6, ?_⟩
    rw [← h7, List.take_take, Nat.min_eq_left (Nat.mul_le_mul_right _ (by omega))]

end Go.Proofs.Ytfcpnggdpaeldaa

/-
  A range over a function that makes what it hands over while it runs: what a round reads is told of the round's own world, and what a round must keep may depend on the element. No program is named here.
-/
namespace Go.Proofs.Ytfcpnggdpaeldaa
open Go.RowKit
set_option linter.unusedVariables false

/-- What the iterator itself may turn between two rounds: blocks from B on, as Tn lets it where 'pre' has come. -/
def AbidesT {α : Type} (B : Nat) (Tn : List α → Nat → Prop) (J : List α → World → Prop) : Prop :=
  ∀ pre W W' row, J pre W → W.grownBy W' row → (∀ r, row = some r → B ≤ r ∧ Tn pre r) → J pre W'
/-- The promise of an iterator that is called at whatever loop l: a round is told 'Rd pre x W1', and owes 'Kp x W1 W''. -/
def SeqStopsR {α : Type} (F : Fence) (n : Nat) (P : Program) (g : Nat) (lb : Array Value) (encs : α → Array Value) (Rd : List α → α → World → Prop) (Kp : α → World → World → Prop) (Tn : List α → Nat → Prop) (S Sp : List α → Prop) (w : World) : Prop :=
  ∀ (l : Nat) (J Jx : List α → World → Prop) (W : World), Below w.heap.size w W → AbidesT W.heap.size Tn J →
    (∀ pre x W1, J pre W1 → Rd pre x W1 → YieldAt F (n - 1) P l (encs x) W1 fun e W' =>
      (e = .returned (.bool true) ∧ J (pre ++ [x]) W' ∧ Kp x W1 W') ∨ (e = .returned (.bool false) ∧ Jx (pre ++ [x]) W')) →
    J [] W →
    CallsIn F n P g (#[.func (.yield l) #[] #[]] ++ lb) W fun e W' => (∃ v, e = .returned v) ∧ ((∃ xs, S xs ∧ J xs W') ∨ (∃ pre, Sp pre ∧ Jx pre W'))

variable {F : Fence} {n : Nat} {P : Program} {w : World}

/-- The range over such an iterator. -/
theorem wpIn_rangeFunc_R {α : Type} {g : Operand} {ps : Array Tmp} {assign body : Code} {Q : Exit → Act → World → Prop} {a : Act}
    (hro : F.round = none) (h1 : 1 ≤ n) {gf : Nat} {lb : Array Value} (hg : a.eval g = .func (.func gf) #[] lb) (hFg : F.fn gf) (eg : ∀ args w, (callFunc gf args).run P w = .ok (.enter gf args) w)
    {encs : α → Array Value} {Rd : List α → α → World → Prop} {Kp : α → World → World → Prop} {Tn : List α → Nat → Prop} {S Sp : List α → Prop} {w0 : World} (hseq : SeqStopsR F (n - 1) P gf lb encs Rd Kp Tn S Sp w0)
    (hKt : ∀ {x A B C}, Kp x A B → Kp x B C → Kp x A C) (hKb : ∀ x (W : World) (l : Nat) (o o' : Obj), w.heap.size ≤ l → W.heap[l]? = some o → o.isCells = false → Kp x W (W.putObj l o')) (hb0 : Below w0.heap.size w0 w) (hps : ∀ x, (encs x).size = ps.size)
    (I : List α → World → Prop) (Ix : Code → List α → World → Prop) (hI : OwnFrom w.heap.size I) (hIT : AbidesT (w.heap.size + 2) Tn I) (hIx : ∀ c, OwnFrom w.heap.size (Ix c)) (h0 : I [] w) (Ax : List α → α → Act → World → Prop) (hAx : ∀ pre x a', OwnFrom w.heap.size (fun (_ : Unit) W => Ax pre x a' W))
    (hassign : ∀ (l : Nat) (pre : List α) (x : α) (W : World) (K : Act → World → Prop), I pre W → Rd pre x W → (∀ a' W', KeepsFrom w.heap.size W W' → Kp x W W' → I pre W' → Ax pre x a' W' → K a' W') →
      assign.wpIn (F.inRound l) (n - 1 - 1) P (Exit.then K (fun _ _ _ => False)) { tmps := (ps.zip (encs x)).foldl (fun t (p, v) => t.setIfInBounds p v) a.tmps, defers := [] } W)
    (hbody : ∀ (l : Nat) (pre : List α) (x : α) (a' : Act) (W : World), w.heap.size ≤ l → (∃ r, W.heap[l]? = some (.loop r)) → I pre W → Ax pre x a' W → body.wpIn (F.inRound l) (n - 1 - 1) P (ownPostG w.heap.size (Kp x) I Ix (pre ++ [x]) W) a' W)
    (hdone : ∀ (D : Nat) (xs : List α) (W : World), w.heap.size ≤ D → S xs → I xs W → W.heap[D]? = some (.deferred (some [])) → Q .normal { a with defers := { target := .collected D, args := #[] } :: a.defers } W)
    (hstop : ∀ (D : Nat) (c : Code) (pre : List α) (W : World), w.heap.size ≤ D → Sp pre → Ix c pre W → W.heap[D]? = some (.deferred (some [])) → c.wpIn F n P Q { a with defers := { target := .collected D, args := #[] } :: a.defers } W) :
    (Code.rangeFunc g ps assign body).wpIn F n P Q a w := by
  refine wpIn_rangeFunc fun fn hfn => ?_
  rw [hro]
  -- the loop's record in each of its states
  obtain ⟨R, hR⟩ : ∃ R : LoopState → Option Code → Loop, R = fun st pe => { state := st, pending := pe, fn, tmps := a.tmps, params := ps, assign, body, defers := w.heap.size } := ⟨_, rfl⟩
  have hRp : ∀ st pe, (R st pe).params = ps := fun _ _ => by rw [hR]
  obtain ⟨V, hV⟩ : ∃ V, (w.alloc (.deferred (some []))).alloc (.loop (R .ready none)) = V := ⟨_, rfl⟩
  have vl : V.heap[w.heap.size + 1]? = some (.loop (R .ready none)) := by rw [← hV]; exact heap_new_eq (by simp)
  have vk : V.heap[w.heap.size]? = some (.deferred (some [])) := by rw [← hV]; exact ((Ext.rf _).al _).hp (heap_alloc_new w _)
  have vI : I [] V := by rw [← hV]; exact hI.alloc _ (hI.alloc _ h0)
  have vb : Below w0.heap.size w0 V := by rw [← hV]; exact hb0.trans ((((Ext.rf w).al _).al _).mono hb0.size)
  have vs : V.heap.size = w.heap.size + 2 := by rw [← hV]; simp
  refine ⟨w.heap.size + 1, [{ target := .collected w.heap.size, args := #[] }], V, { target := .fn (.func gf) lb, args := #[.func (.yield (w.heap.size + 1)) #[] #[]] }, V, gf,
    #[.func (.yield (w.heap.size + 1)) #[] #[]] ++ lb, V, by rw [← hV, hR]; exact run_enterLoop_outer _ _ _ _ _, by simp only [resolve, hg]; simp [go_sem], fun f' hf' => by simp [Target.leads] at hf'; subst hf'; exact hFg, by simp [invoke, go_sem, eg], fun _ => h1, ?_⟩
  have putI : ∀ {pre : List α} {W : World} {o o' : Obj}, I pre W → W.heap[w.heap.size + 1]? = some o → o.isCells = false → I pre (W.putObj (w.heap.size + 1) o') := fun hi hl ho => hI.putObj _ hi (by omega) hl ho
  refine (hseq (w.heap.size + 1)
    (fun pre W => I pre W ∧ W.heap[w.heap.size + 1]? = some (.loop (R .ready none)) ∧ W.heap[w.heap.size]? = some (.deferred (some [])))
    (fun pre W => ∃ c, Ix c pre W ∧ W.heap[w.heap.size + 1]? = some (.loop (R .done (some c))) ∧ W.heap[w.heap.size]? = some (.deferred (some []))) V vb
    (fun s A B row hs hg' hr => ⟨hIT s A B row hs.1 hg' (fun r e => ⟨by have := (hr r e).1; omega, (hr r e).2⟩),
      (hg'.block _ (Array.getElem?_eq_some_iff.1 hs.2.1).1 (fun e => by have := (hr _ e.symm).1; omega)).trans hs.2.1, (hg'.block _ (Array.getElem?_eq_some_iff.1 hs.2.2).1 (fun e => by have := (hr _ e.symm).1; omega)).trans hs.2.2⟩)
    ?round ⟨vI, vl, vk⟩).mono ?behind
  case behind =>
    rintro e W2 ⟨⟨v, rfl⟩, (⟨xs, hS, hi, hl, hk⟩ | ⟨pre, hSp, c, hi, hl, hk⟩)⟩
    · have he := run_endLoop (P := P) hl (by rw [hR]; simp)
      rw [hR] at he
      exact ⟨none, _, he, hdone _ xs _ (Nat.le_refl _) hS (putI hi hl rfl) ((World.putObj_heap_other (by omega)).trans hk)⟩
    · have he := run_endLoop (P := P) hl (by rw [hR]; simp)
      rw [hR] at he
      exact ⟨some c, _, he, hstop _ c pre _ (Nat.le_refl _) hSp ((hIx c).putObj _ hi (by omega) hl rfl) ((World.putObj_heap_other (by omega)).trans hk)⟩
  case round =>
    rintro pre x W0 ⟨hi0, hl0, hk0⟩ hrd
    have hy := run_yield (P := P) (args := encs x) hl0 (by rw [hRp]; exact hps x)
    rw [hR] at hy
    refine ⟨fn, _, assign, body, hy, roundIn_of_wpIn hfn (hassign _ pre x W0 _ hi0 hrd fun a' W hkf hkp hi hax => ?_)⟩
    have hl := hkf.same _ _ (by omega) hl0 rfl
    have hk := hkf.same _ _ (Nat.le_refl _) hk0 rfl
    refine ⟨_, run_beginRound hl (by rw [hR]), ?_⟩
    have bl : (W.putObj (w.heap.size + 1) (.loop { R .ready none with state := .busy })).heap[w.heap.size + 1]? = some (.loop { R .ready none with state := .busy }) := World.putObj_heap_same (Array.getElem?_eq_some_iff.1 hl).1
    have bk : (W.putObj (w.heap.size + 1) (.loop { R .ready none with state := .busy })).heap[w.heap.size]? = some (.deferred (some [])) := (World.putObj_heap_other (by omega)).trans hk
    have bp : Kp x W (W.putObj (w.heap.size + 1) (.loop { R .ready none with state := .busy })) := hKb x _ _ _ _ (by omega) hl rfl
    refine wpIn_mono (hbody _ pre x a' _ (by omega) ⟨_, bl⟩ (putI hi hl rfl) ((hAx pre x a').putObj (s := ()) _ hax (by omega) hl rfl)) ?_
    -- the round's end: the record is ready again, or done with a way out
    have fin : ∀ (j : Option Code) (W3 : World), KeepsFrom w.heap.size (W.putObj (w.heap.size + 1) (.loop { R .ready none with state := .busy })) W3 →
        (Instr.endRound (w.heap.size + 1) j).run P W3 = .ok (.bool j.isNone) (W3.putObj (w.heap.size + 1) (.loop (R (if j.isNone then .ready else .done) j))) ∧
        W3.heap[w.heap.size + 1]? = some (.loop { R .ready none with state := .busy }) ∧
        (W3.putObj (w.heap.size + 1) (.loop (R (if j.isNone then .ready else .done) j))).heap[w.heap.size + 1]? = some (.loop (R (if j.isNone then .ready else .done) j)) ∧
        (W3.putObj (w.heap.size + 1) (.loop (R (if j.isNone then .ready else .done) j))).heap[w.heap.size]? = some (.deferred (some [])) := fun j W3 k3 => by
      have l3 := k3.same _ _ (by omega) bl rfl
      have he := run_endRound (P := P) j l3
      rw [hR] at he ⊢
      rw [hR] at l3
      exact ⟨he, l3, World.putObj_heap_same (Array.getElem?_eq_some_iff.1 l3).1, (World.putObj_heap_other (by omega)).trans (k3.same _ _ (Nat.le_refl _) bk rfl)⟩
    have out : ∀ (c : Code) (W3 : World), KeepsFrom w.heap.size (W.putObj (w.heap.size + 1) (.loop { R .ready none with state := .busy })) W3 → Ix c (pre ++ [x]) W3 →
        ∃ c', Ix c' (pre ++ [x]) (W3.putObj (w.heap.size + 1) (.loop (R .done (some c)))) ∧ (W3.putObj (w.heap.size + 1) (.loop (R .done (some c)))).heap[w.heap.size + 1]? = some (.loop (R .done (some c'))) ∧ (W3.putObj (w.heap.size + 1) (.loop (R .done (some c)))).heap[w.heap.size]? = some (.deferred (some [])) := fun c W3 k3 hx => by
      obtain ⟨_, l3, l4, k4⟩ := fin (some c) W3 k3
      exact ⟨c, (hIx c).putObj _ hx (by omega) l3 rfl, l4, k4⟩
    intro e a3 W3 hp
    cases e with
    | normal =>
      obtain ⟨k3, p3, i3⟩ := hp
      obtain ⟨hr, l3, l4, k4⟩ := fin none W3 k3
      exact ⟨_, _, hr, .inl ⟨rfl, ⟨putI i3 l3 rfl, l4, k4⟩, hKt hkp (hKt (hKt bp p3) (hKb x _ _ _ _ (by omega) l3 rfl))⟩⟩
    | ret => exact ⟨_, _, (fin (some .ret) W3 hp.1).1, .inr ⟨rfl, out .ret W3 hp.1 hp.2⟩⟩
    | exit id => exact ⟨_, _, (fin (some (.exit id)) W3 hp.1).1, .inr ⟨rfl, out (.exit id) W3 hp.1 hp.2⟩⟩
    | goto t => exact ⟨_, _, (fin (some (.goto t)) W3 hp.1).1, .inr ⟨rfl, out (.goto t) W3 hp.1 hp.2⟩⟩
    | panic ch => exact hp.elim
    | outgrown => exact hp.elim

end Go.Proofs.Ytfcpnggdpaeldaa

/-
  A region that draws its order within a round of a range over a function: it may be walked as it is walked elsewhere, where it defers nothing. No program is named here.
-/
namespace Go.Proofs.Ytfcpnggdpaeldaa
open Go.RowKit
set_option linter.unusedVariables false

section
variable {P : Program} {ops : Array Oper} {Q : Exit → Act → World → Prop} {md : Region.Mode} {l n : Nat}

theorem wpIn_of_wp {o : Oper} {a : Act} {w : World} {K : Act → World → Prop} (hd : ∀ c, o.op ≠ .defer c) (h : o.wp P a w K Q) : o.wpIn (Fence.wide.inRound l) n P a w K Q := by
  unfold Oper.wp at h
  unfold Oper.wpIn
  refine ⟨fun _ _ => trivial, ?_⟩
  rw [show (Fence.wide.inRound l).round = some l from rfl, Oper.semAt_some l a.eval o hd]
  generalize (execOp a.eval o).run P w = r at *
  cases r with
  | ok x w' =>
    cases x <;> simp only [Oper.uponIn, Oper.upon] at h ⊢
    case value v => exact h
    case skip => exact h
    case defer d => exact h
    case enter f args => exact ⟨(by intro e; cases e), CallsIn.inRound l (callsIn_wide.2 h)⟩
    case row row args =>
      refine ⟨(by intro e; cases e), fun c cs hr => ?_⟩
      obtain ⟨v, w', hR, hs⟩ := h c cs
      exact ⟨v, w', hR, stepsIn_wide.2 hs⟩
  | halt x w' => cases x <;> simp only [Oper.uponIn, Oper.upon] at h ⊢ <;> exact h

theorem wpAnyIn_of_wpAny (hl : ¬ LetsOut Q) (hd : ∀ (i : Nat) (o : Oper) c, ops[i]? = some o → o.op ≠ .defer c) : ∀ (fuel : Nat) (listed : Array Bool) (a : Act) (w : World), wpAny P md ops Q fuel listed a w → wpAnyIn (Fence.wide.inRound l) n P md ops Q fuel listed a w := by
  intro fuel
  induction fuel with
  | zero => intro listed a w h; exact h
  | succ fuel ih =>
    intro listed a w h
    refine ⟨h.1, fun i hi => ?_⟩
    have h1 := h.2 i hi
    unfold wpOp at h1
    unfold wpOpIn
    cases ho : ops[i]? with
    | none => rw [ho] at h1; exact ih _ _ _ h1
    | some o =>
      rw [ho] at h1
      simp only at h1 ⊢
      split
      · rename_i hw
        rw [if_pos hw] at h1
        rcases h1 with h1 | h1
        · exact Oper.wpIn_mono (fun a w h => ih _ a w h) (wpIn_of_wp (fun c => hd i o c ho) h1)
        · exact absurd h1.2 hl
      · rename_i hw
        rw [if_neg hw] at h1
        exact ⟨fun _ _ => trivial, ih _ _ _ h1⟩

/-- No operation defers a call. -/
def noDefer (ops : Array Oper) : Bool := ops.all fun o => match o.op with | .defer _ => false | _ => true
theorem noDefer_at (h : noDefer ops = true) : ∀ (i : Nat) (o : Oper) c, ops[i]? = some o → o.op ≠ .defer c := by
  intro i o c hi e
  obtain ⟨hlt, hx⟩ := Array.getElem?_eq_some_iff.1 hi
  have := (Array.all_eq_true.1 h) i hlt
  rw [hx, e] at this
  cases this

theorem region_round {id : Nat} {a : Act} {w : World} (hm : P.follows .mixedOrders = true) (hl : ¬ LetsOut Q) (hd : noDefer ops = true) (h : wpAny P .any ops Q ops.size (Array.replicate ops.size false) a w.drew) :
    (Code.region id ops true).wpIn (Fence.wide.inRound l) n P Q a w :=
  wpIn_region_any hm (wpAnyIn_of_wpAny hl (noDefer_at hd) _ _ _ _ h)
end

end Go.Proofs.Ytfcpnggdpaeldaa
