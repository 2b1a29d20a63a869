import Derived.Test.YtbpdbikphlhaiaaGreatDoorGa
import Derived.Test.YtbpdbikphlhaiaaGreatDoorProg
import Derived.Deep.QuietTactic
import Derived.BigQuiet
import Derived.Deep.LoopGhost
import Derived.Shelf.Abstract
import Derived.Deep.DeepCutAuto
import Derived.Deep.DrawnRows
import Derived.RangeFuncNested
import Derived.RangeFuncBound
import Derived.RangeFuncCalls
import Derived.RangeFuncLeaves
import Derived.Shelf.RegionOpen
import Derived.OwnWalkIn
import Derived.TacticsInMore
import Derived.LoopNIn
import Derived.LoopIn
import Derived.Sort.LoopGhostIn
import Derived.Sort.CutIn
import Derived.Laws.Closers25
namespace Go.Proofs.YtbpdbikphlhaiaaGreatDoor
open Go.RowKit
set_option linter.unusedVariables false
def Drawn (w w' : World) : Prop := ∃ n, w' = w.drewN n
end Go.Proofs.YtbpdbikphlhaiaaGreatDoor
namespace Go.Proofs.YtbpdbikphlhaiaaGreatDoor
open Go.RowKit
set_option linter.unusedVariables false
attribute [local go_sem ↓] Go.wp_at_zero Go.wp_at_succ
abbrev idO (a b : Int) : Obj := .cells #[.int .i64 a, .int .i64 b] 39
def eidA : Option Eid → Int
 | none => 0
 | some x => x.1
def eidB : Option Eid → Int
 | none => 0
 | some x => (x.2 : Int) + 1
theorem id_set {w : World} {K : Nat} {z0 z1 : Value} {fr : Nat × Nat} (h : w.heap[K]? = some (.cells #[z0, z1] 39 fr)) (a b : Value) :
  ((w.setCell ⟨K, 0, none⟩ a).setCell ⟨K, 1, none⟩ b).heap[K]? = some (.cells #[a, b] 39 fr) := by
 obtain ⟨hlt, hk⟩ := Array.getElem?_eq_some_iff.1 h
 have h1 : (w.setCell ⟨K, 0, none⟩ a).heap[K]? = some (.cells #[a, z1] 39 fr) := by
  show (w.heap.modify K _)[K]? = _
  rw [Array.getElem?_eq_getElem (by rw [Array.size_modify]; exact hlt), Array.getElem_modify_self, hk]
  rfl
 obtain ⟨hlt1, hk1⟩ := Array.getElem?_eq_some_iff.1 h1
 show ((w.setCell ⟨K, 0, none⟩ a).heap.modify K _)[K]? = _
 rw [Array.getElem?_eq_getElem (by rw [Array.size_modify]; exact hlt1), Array.getElem_modify_self, hk1]
 rfl
theorem id_ext {w W : World} {K : Nat} (h : Ext w W) (hK : w.heap.size ≤ K) (a b : Value) : Ext w ((W.setCell ⟨K, 0, none⟩ a).setCell ⟨K, 1, none⟩ b) :=
 (h.st (p := ⟨K, 0, none⟩) hK a).st (p := ⟨K, 1, none⟩) hK b
set_option maxHeartbeats 4000000 in
set_option maxRecDepth 100000 in
theorem findR_calls (v : Value) (t : Tr) (kd m : Int) (w : World) (h : TrAt w v t) (hs : SmallTr t) :
  Calls Tryz.prog 65 #[.agg #[v], .int .i64 kd, .int .i64 m] w fun e w' => e = .returned (.agg #[.int .i64 (eidA (findE t kd m)), .int .i64 (eidB (findE t kd m))]) ∧ Ext w w' := by
 have HT := Lib.hid h
 have HS := Lib.hid hs
 obtain ⟨ta, tc, rfl, htc⟩ := h.sh
 have hn1 := hs.1
 generalize hfe : findE t kd m = fe
 have HFE := Lib.hid hfe
 generalize hln : t.length = N at *
 have HL := Lib.hid hln
 have HX0 := Lib.hid (((Ext.rf _).al (idO 0 0)).hp (heap_alloc_new w (.cells #[.slice ta N tc] 24)))
 have HX1 := Lib.hid (heap_new_eq (w := w.alloc (.cells #[.slice ta N tc] 24)) (o := idO 0 0) (b := w.heap.size + 1) (by simp))
 have HE2 : Hid (Ext w ((w.alloc (.cells #[.slice ta N tc] 24)).alloc (idO 0 0))) := Lib.hid (((Ext.rf w).al _).al _)
 clear h hs hfe hln
 go_enter Tryz.func65, Tryz.ntmps65
 go_wp2
 generalize hw2 : (w.alloc (.cells #[.slice ta N tc] 24)).alloc (idO 0 0) = w2 at *
 clear hw2
 go_loopg [7] N (fun g s7 wr => ∃ p : Nat, p ≤ N ∧ N - p ≤ g ∧ s7 = .int .i64 p ∧ Aside ((idsTo t p 0).find? (hit t kd m) = none) ∧ Aside (Ext w2 wr))
 case atStart => exact ⟨0, Nat.zero_le _, by omega, rfl, (show Aside _ from rfl), (show Ext _ _ from Ext.rf _)⟩
 case round =>
  obtain ⟨p, hp, hg, rfl, A, HEK⟩ := hrel
  have HEW := Lib.hid (HE2.out.trans' HEK.out)
  have HXA := Lib.hid (HEK.out.hp HX0.out)
  have HXB := Lib.hid (HEK.out.hp HX1.out)
  have a0 := cellOf HXA.out 0
  simp only [List.getElem?_toArray, List.getElem?_cons_zero] at a0
  by_cases hlt : p < N
  ·have hltz : (p : Int) < (N : Int) := by omega
   have hpz : (0 : Int) ≤ (p : Int) := by omega
   obtain ⟨B, O, C, vv, ve, hve, hlC, hB, hn0, hv0, he0, hV, hE0⟩ := proc_at HT.out p (by rw [HL.out]; exact hlt)
   simp only [Value.slice.injEq] at hve
   obtain ⟨rfl, hzz, rfl⟩ := hve
   obtain ⟨ea, ec, rfl, hec⟩ := hE0.sh
   have hen := (HS.out.2 p (by rw [HL.out]; exact hlt)).2.1
   have HE0 := Lib.hid hE0
   have HHE0 := Lib.hid he0
   have HPL := Lib.hid (show p < t.length from by rw [HL.out]; exact hlt)
   have HNX := Lib.hid (idsTo_next t p)
   generalize hx : t[p]! = x at *
   generalize hne : x.events.length = ne at *
   have HX := Lib.hid hx
   have HNE := Lib.hid hne
   clear hn0 hv0 hV hE0 hzz hx hne he0
   go_wp2
   clear a0
   obtain ⟨wo, rfl⟩ : ∃ x, x = wr := ⟨_, rfl⟩
   go_loopg [8] ne (fun g s8 wr => ∃ i : Nat, i ≤ ne ∧ ne - i ≤ g ∧ s8 = .int .i64 i ∧ Aside ((idsTo t p i).find? (hit t kd m) = none) ∧ Aside (Ext w2 wr))
   case atStart => exact ⟨0, Nat.zero_le _, by omega, rfl, A, HEK⟩
   case round =>
    obtain ⟨i, hi, hg2, rfl, A2, HEL⟩ := hrel
    have HEX := Lib.hid (HE2.out.trans' HEL.out)
    have HXC := Lib.hid (HEL.out.hp HX0.out)
    have HXD := Lib.hid (HEL.out.hp HX1.out)
    have a0 := cellOf HXC.out 0
    simp only [List.getElem?_toArray, List.getElem?_cons_zero] at a0
    have he1 := HEX.out.cl HHE0.out
    by_cases hlti : i < ne
    ·have hltz2 : (i : Int) < (ne : Int) := by omega
     have hiz : (0 : Int) ≤ (i : Int) := by omega
     obtain ⟨EB, EO, EC, va, hee, hlE, hEB, k0, k1, k2, k3, k4, hA⟩ := event_at HE0.out i (by rw [HNE.out]; exact hlti)
     simp only [Value.slice.injEq] at hee
     obtain ⟨rfl, hzz, rfl⟩ := hee
     obtain ⟨ua, uc, rfl, huc⟩ := hA.sh
     have m0 := HEX.out.cl k0
     have m1 := HEX.out.cl k1
     have m2 := HEX.out.cl k2
     have m3 := HEX.out.cl k3
     have m4 := HEX.out.cl k4
     have HIN : Hid (Inn t (p, i)) := Lib.hid ⟨HPL.out, by show i < t[p]!.events.length; rw [HX.out, HNE.out]; exact hlti⟩
     have HHIT : Hid (hit t kd m (p, i) = (decide (x.events[i]!.kind = kd) && decide (x.events[i]!.msg = m))) := Lib.hid (by simp only [hit, show ev t (p, i) = x.events[i]! from by show t[p]!.events[i]! = _; rw [HX.out]])
     have HSN := Lib.hid (idsTo_succ t p i)
     have HPF := Lib.hid (idsTo_ids (i := i + 1) HPL.out (by rw [HX.out, HNE.out]; omega))
     generalize x.events[i]! = y at *
     generalize y.asg.length = na at *
     clear k0 k1 k2 k3 k4 hzz hA
     have HBE := Lib.hid (heap_alloc_new wr (.cells #[.int .i64 y.kind, .int .i64 y.peer, .int .i64 y.msg, .int .i64 y.time, .slice ua na uc] 58))
     have HXE := Lib.hid (((Ext.rf wr).al (.cells #[.int .i64 y.kind, .int .i64 y.peer, .int .i64 y.msg, .int .i64 y.time, .slice ua na uc] 58)).hp HXD.out)
     have HEY := Lib.hid (HEX.out.al (.cells #[.int .i64 y.kind, .int .i64 y.peer, .int .i64 y.msg, .int .i64 y.time, .slice ua na uc] 58))
     have HEZ := Lib.hid (HEL.out.al (.cells #[.int .i64 y.kind, .int .i64 y.peer, .int .i64 y.msg, .int .i64 y.time, .slice ua na uc] 58))
     obtain ⟨b1, hb1⟩ : ∃ b, (y.kind == kd) = b := ⟨_, rfl⟩
     obtain ⟨b2, hb2⟩ : ∃ b, (y.msg == m) = b := ⟨_, rfl⟩
     have HHB : Hid (hit t kd m (p, i) = (b1 && b2)) := Lib.hid (by rw [HHIT.out, ← hb1, ← hb2]; rfl)
     clear HHIT
     cases b1 with
     | true =>
       cases b2 with
       | true =>
         obtain rfl : fe = some (p, i) := by
          rw [← HFE.out]
          obtain ⟨post, hpost⟩ := HPF.out
          unfold findE firstIn
          rw [← hpost, HSN.out, List.find?_append, List.find?_append, A2.out, List.find?_cons, HHB.out]
          simp
         have q0 := cellOf HXE.out 0
         have q1 := cellOf HXE.out 1
         have f0 := freeOf HXE.out 0
         have f1 := freeOf HXE.out 1
         simp only [List.getElem?_toArray, List.getElem?_cons_zero, List.getElem?_cons_succ] at q0 q1
         go_wp2
         clear q0 q1 f0 f1
         have r0 := cellOf (id_set HXE.out (.int .i64 p) (.int .i64 ((i : Int) + 1))) 0
         have r1 := cellOf (id_set HXE.out (.int .i64 p) (.int .i64 ((i : Int) + 1))) 1
         simp only [List.getElem?_toArray, List.getElem?_cons_zero, List.getElem?_cons_succ] at r0 r1
         refine bodyPost_ret (v := .agg #[.int .i64 p, .int .i64 ((i : Int) + 1)]) (by simp [results, Tryz.results65, go_sem, r0, r1]) rfl ?_
         exact ⟨rfl, id_ext HEY.out (by omega) _ _⟩
       | false =>
         go_wp2
         go_roundg (ne - (i + 1))
         case measure => omega
         case rel => exact ⟨i + 1, by omega, by omega, by go_num, (show (idsTo t p (i + 1)).find? (hit t kd m) = none from by rw [HSN.out, List.find?_append, A2.out]; simp [HHB.out]), (show Ext _ _ from HEZ.out)⟩
     | false =>
       go_wp2
       go_roundg (ne - (i + 1))
       case measure => omega
       case rel => exact ⟨i + 1, by omega, by omega, by go_num, (show (idsTo t p (i + 1)).find? (hit t kd m) = none from by rw [HSN.out, List.find?_append, A2.out]; simp [HHB.out]), (show Ext _ _ from HEZ.out)⟩
    ·have hltz2 : ¬ (i : Int) < (ne : Int) := by omega
     obtain rfl : i = ne := by omega
     go_wp2
     go_roundg (N - (p + 1))
     case measure => omega
     case rel => exact ⟨p + 1, by omega, by omega, by go_num, (show (idsTo t (p + 1) 0).find? (hit t kd m) = none from by rw [← HNX.out]; exact A2.out), HEL⟩
  ·have hltz : ¬ (p : Int) < (N : Int) := by omega
   obtain rfl : p = N := by omega
   obtain rfl : fe = none := by rw [← HFE.out]; unfold findE firstIn ids; rw [HL.out]; exact A.out
   have q0 := cellOf HXB.out 0
   have q1 := cellOf HXB.out 1
   have f0 := freeOf HXB.out 0
   have f1 := freeOf HXB.out 1
   simp only [List.getElem?_toArray, List.getElem?_cons_zero, List.getElem?_cons_succ] at q0 q1
   go_wp2
   clear q0 q1 f0 f1
   have r0 := cellOf (id_set HXB.out (.int .i64 0) (.int .i64 0)) 0
   have r1 := cellOf (id_set HXB.out (.int .i64 0) (.int .i64 0)) 1
   simp only [List.getElem?_toArray, List.getElem?_cons_zero, List.getElem?_cons_succ] at r0 r1
   exact bodyPost_ret (v := .agg #[.int .i64 0, .int .i64 0]) (by simp [results, Tryz.results65, go_sem, r0, r1]) rfl ⟨rfl, id_ext HEW.out (by omega) _ _⟩
end Go.Proofs.YtbpdbikphlhaiaaGreatDoor
namespace Go.Proofs.YtbpdbikphlhaiaaGreatDoor
open Go.RowKit
set_option linter.unusedVariables false
open Go.Shelf
attribute [local go_sem] Oper.semAt_some
abbrev EvA (t : Tr) (w : World) := { x : Eid × Value // Inn t x.1 ∧ Sl RAsg 2 w x.2 (ev t x.1).asg }
abbrev encE (t : Tr) (w : World) (x : EvA t w) : Array Value :=
 #[.agg #[.int .i64 (x.1.1.1 : Int), .int .i64 ((x.1.1.2 : Int) + 1)], .agg #[.int .i64 (ev t x.1.1).kind, .int .i64 (ev t x.1.1).peer, .int .i64 (ev t x.1.1).msg, .int .i64 (ev t x.1.1).time, x.1.2]]
def nms {t : Tr} {w : World} (l : List (EvA t w)) : List Eid := l.map fun x => x.1.1
theorem nms_snoc {t : Tr} {w : World} (l : List (EvA t w)) (x : EvA t w) : nms (l ++ [x]) = nms l ++ [x.1.1] := by simp [nms]
theorem nms_len {t : Tr} {w : World} (l : List (EvA t w)) : (nms l).length = l.length := by simp [nms]
abbrev prT (s : ByteArray) (v u : Value) : Obj := .cells #[.string s, v, u] 54
abbrev evO (a b c d : Int) (v : Value) : Obj := .cells #[.int .i64 a, .int .i64 b, .int .i64 c, .int .i64 d, v] 58
set_option maxRecDepth 100000 in
set_option maxHeartbeats 4000000 in
theorem events1_in (n : Nat) (hn : 1 ≤ n) (l Bn n₀ : Nat) (v : Value) (t : Tr) (w : World) (hT : TrAt w v t) (hs : SmallTr t) (hn₀ : n₀ = w.heap.size) (J Jx : List (EvA t w) → World → Prop)
  (W : World) (hW : Below n₀ w W) (hJ : AbidesFrom W.heap.size J)
  (hY : ∀ pre x W1, J pre W1 → pre.length < (ids t).length → YieldAt Fence.wide (n - 1) Tryz.prog l (encE t w x) W1 fun e W' =>
   (e = .returned (.bool true) ∧ J (pre ++ [x]) W' ∧ Below n₀ W1 W') ∨ (e = .returned (.bool false) ∧ Jx (pre ++ [x]) W'))
  (hBn : W.cell? ⟨Bn, 0, none⟩ = some v) (h0 : J [] W) :
  CallsIn Fence.wide n Tryz.prog 97 #[.func (.yield l) #[] #[], .pointer (some ⟨Bn, 0, none⟩)] W fun e W' => (∃ v, e = .returned v) ∧
   ((∃ xs, nms xs = ids t ∧ J xs W') ∨ (∃ pre, nms pre <+: ids t ∧ Jx pre W')) := by
 have HT := Lib.hid hT
 have HS := Lib.hid hs
 have HW := Lib.hid hW
 have HJ := Lib.hid hJ
 have HY := Lib.hid hY
 have H0 := Lib.hid h0
 have HN := Lib.hid hn₀
 obtain ⟨ta, tc, rfl, htc⟩ := hT.sh
 have hn1 := hs.1
 have HNS : Hid (Below w.heap.size w W) := Lib.hid (hn₀ ▸ hW)
 generalize hln : t.length = N at *
 have HL := Lib.hid hln
 clear hT hs hW hJ hY h0 hn₀ hln
 refine callsIn_of_wp Tryz.func97 rfl trivial ?_ rfl
 simp only [Tryz.ntmps97, List.size_toArray, List.length_cons, List.length_nil, Nat.reduceAdd, Nat.reduceSub, Array.replicate_succ, Array.replicate_zero, List.push_toArray, List.append_toArray, List.nil_append, List.cons_append]
 gi_wp2
 gi_loopg [10] N (fun g s10 wr => ∃ p : Nat, p ≤ N ∧ N - p ≤ g ∧ s10 = .int .i64 p ∧ Aside (∃ pre, nms pre = idsTo t p 0 ∧ J pre wr) ∧ Aside (Below n₀ W wr))
 case atStart => exact ⟨0, Nat.zero_le _, by omega, rfl, (show Aside _ from ⟨[], rfl, H0.out⟩), (show Below _ _ _ from Below.refl _ _)⟩
 case round =>
  obtain ⟨p, hp, hg, rfl, HPre, HB⟩ := hrel
  by_cases hlt : p < N
  ·have hltz : (p : Int) < (N : Int) := by omega
   have hpz : (0 : Int) ≤ (p : Int) := by omega
   obtain ⟨B, O, C, vv, ve, hve, hlC, hB, hn0, hv0, he0, hV, hE0⟩ := proc_at HT.out p (by rw [HL.out]; exact hlt)
   simp only [Value.slice.injEq] at hve
   obtain ⟨rfl, hzz, rfl⟩ := hve
   obtain ⟨xa, xc, rfl, hvc⟩ := hV.sh
   obtain ⟨ea, ec, rfl, hec⟩ := hE0.sh
   have hen := (HS.out.2 p (by rw [HL.out]; exact hlt)).2.1
   have HE0 := Lib.hid hE0
   have HBW : Hid (Below w.heap.size w wr) := Lib.hid (HNS.out.trans (HN.out ▸ HB.out))
   have hn1 := (HBW.out.cell (p := ⟨B, O + p * 3, none⟩) hB).trans hn0
   have hv1 := (HBW.out.cell (p := ⟨B, O + p * 3 + 1, none⟩) hB).trans hv0
   have he1 := (HBW.out.cell (p := ⟨B, O + p * 3 + 2, none⟩) hB).trans he0
   have HPL := Lib.hid (show p < t.length from by rw [HL.out]; exact hlt)
   generalize hx : t[p]! = x at *
   generalize hnv : x.vars.length = nv at *
   generalize hne : x.events.length = ne at *
   have HX := Lib.hid hx
   have HNE := Lib.hid hne
   clear hn0 hv0 he0 hV hE0 hzz hx hnv hne
   gi_wp2
   obtain ⟨wo, rfl⟩ : ∃ x, x = wr := ⟨_, rfl⟩
   have HBX := Lib.hid (heap_alloc_new wo (prT x.name (.slice xa nv xc) (.slice ea ne ec)))
   gi_loopg [18] ne (fun g s18 wr => ∃ i : Nat, i ≤ ne ∧ ne - i ≤ g ∧ s18 = .int .i64 i ∧ Aside (∃ pre, nms pre = idsTo t p i ∧ J pre wr) ∧ Aside (Below n₀ W wr ∧ wo.heap.size < wr.heap.size))
   case atStart =>
    refine ⟨0, Nat.zero_le _, by omega, rfl, (show Aside _ from ?_), (show Aside _ from ?_)⟩
    ·obtain ⟨pre, h1, h2⟩ := HPre.out
     exact ⟨pre, h1, HJ.out pre _ _ none h2 (World.grownBy_alloc _ _ none) (fun r e => by cases e)⟩
    ·exact ⟨HB.out.alloc (by have := HW.out.size; have := HB.out.size; have := HN.out; omega) _, by simp⟩
   case round =>
    obtain ⟨i, hi, hg2, rfl, HPre2, HB2⟩ := hrel
    by_cases hlti : i < ne
    ·have hltz2 : (i : Int) < (ne : Int) := by omega
     have hiz : (0 : Int) ≤ (i : Int) := by omega
     obtain ⟨EB, EO, EC, va, hee, hlE, hEB, k0, k1, k2, k3, k4, hA⟩ := event_at HE0.out i (by rw [HNE.out]; exact hlti)
     simp only [Value.slice.injEq] at hee
     obtain ⟨rfl, hzz, rfl⟩ := hee
     obtain ⟨ua, uc, rfl, huc⟩ := hA.sh
     have HBV : Hid (Below w.heap.size w wr) := Lib.hid (HNS.out.trans (HN.out ▸ HB2.out.1))
     have m0 := (HBV.out.cell (p := ⟨EB, EO + i * 5, none⟩) hEB).trans k0
     have m1 := (HBV.out.cell (p := ⟨EB, EO + i * 5 + 1, none⟩) hEB).trans k1
     have m2 := (HBV.out.cell (p := ⟨EB, EO + i * 5 + 2, none⟩) hEB).trans k2
     have m3 := (HBV.out.cell (p := ⟨EB, EO + i * 5 + 3, none⟩) hEB).trans k3
     have m4 := (HBV.out.cell (p := ⟨EB, EO + i * 5 + 4, none⟩) hEB).trans k4
     have hin : Inn t (p, i) := ⟨HPL.out, by show i < t[p]!.events.length; rw [HX.out, HNE.out]; exact hlti⟩
     have hEVE : ev t (p, i) = x.events[i]! := by show t[p]!.events[i]! = _; rw [HX.out]
     have HHY : Hid (∃ pre, nms pre = idsTo t p i ∧ YieldAt Fence.wide (n - 1) Tryz.prog l (encE t w ⟨((p, i), .slice ua x.events[i]!.asg.length uc), hin, by rw [hEVE]; exact hA⟩) (wr.alloc (evO x.events[i]!.kind x.events[i]!.peer x.events[i]!.msg x.events[i]!.time (.slice ua x.events[i]!.asg.length uc))) fun e W' =>
       (e = .returned (.bool true) ∧ (∃ pre', nms pre' = idsTo t p (i + 1) ∧ J pre' W') ∧ Below n₀ (wr.alloc (evO x.events[i]!.kind x.events[i]!.peer x.events[i]!.msg x.events[i]!.time (.slice ua x.events[i]!.asg.length uc))) W') ∨ (e = .returned (.bool false) ∧ ∃ pre', nms pre' <+: ids t ∧ Jx pre' W')) := Lib.hid (by
      obtain ⟨pre, h1, h2⟩ := HPre2.out
      refine ⟨pre, h1, ?_⟩
      have hpf : nms (pre ++ [⟨((p, i), .slice ua x.events[i]!.asg.length uc), hin, by rw [hEVE]; exact hA⟩]) <+: ids t := by rw [nms_snoc, h1, ← idsTo_succ]; exact idsTo_ids HPL.out (by rw [HX.out, HNE.out]; omega)
      refine (HY.out pre ⟨((p, i), .slice ua x.events[i]!.asg.length uc), hin, by rw [hEVE]; exact hA⟩ _ (HJ.out pre _ _ none h2 (World.grownBy_alloc _ _ none) (fun r e => by cases e)) ?_).mono ?_
      ·have := hpf.length_le; rw [nms_len] at this; simp at this; omega
      ·rintro e W' (⟨rfl, hj, hk⟩ | ⟨rfl, hj⟩)
       ·exact .inl ⟨rfl, ⟨_, by rw [nms_snoc, h1, ← idsTo_succ], hj⟩, hk⟩
       ·exact .inr ⟨rfl, _, hpf, hj⟩)
     obtain ⟨pre, _, fn, tmps, assign, body, hy, hR⟩ := HHY.out
     simp only [encE, hEVE] at hy
     generalize hev : x.events[i]! = y at *
     generalize y.asg.length = na at *
     clear HHY hEVE k0 k1 k2 k3 k4 hzz hev
     have HR := Lib.hid hR
     clear hR hin hA
     gi_wp2
     refine HR.out.mono ?_
     rintro e W3 (⟨rfl, hJ3, hk3⟩ | ⟨rfl, hJx3⟩)
     ·gi_wp2
      gi_roundg (ne - (i + 1))
      case measure => omega
      case rel =>
       refine ⟨i + 1, by omega, by omega, by go_num, (show Aside _ from hJ3), (show Aside _ from ⟨HB2.out.1.trans ((Below.alloc (Below.refl n₀ wr) (by have := HW.out.size; have := HB2.out.1.size; have := HN.out; omega) _).trans hk3), ?_⟩)⟩
       have := hk3.size; have := HB2.out.2; simp at *; omega
     ·gi_wp2
      refine bodyPost_ret (results_none rfl _ _ _) rfl ?_
      exact ⟨⟨_, rfl⟩, .inr hJx3⟩
    ·have hltz2 : ¬ (i : Int) < (ne : Int) := by omega
     obtain rfl : i = ne := by omega
     gi_wp2
     gi_roundg (N - (p + 1))
     case measure => omega
     case rel =>
      refine ⟨p + 1, by omega, by omega, by go_num, (show Aside _ from ?_), (show Below _ _ _ from HB2.out.1)⟩
      obtain ⟨pre, h1, h2⟩ := HPre2.out
      exact ⟨pre, by rw [h1, ← idsTo_next, HX.out, HNE.out], h2⟩
  ·have hltz : ¬ (p : Int) < (N : Int) := by omega
   obtain rfl : p = N := by omega
   gi_wp2
   go_end0
   obtain ⟨pre, h1, h2⟩ := HPre.out
   exact ⟨⟨_, rfl⟩, .inl ⟨pre, by rw [h1]; unfold ids; rw [HL.out], h2⟩⟩
theorem events_in (n : Nat) (v : Value) (w : World) : CallsIn Fence.wide n Tryz.prog 79 #[.agg #[v]] w fun e w' =>
  e = .returned (.func (.func 97) #[] #[.pointer (some ⟨w.heap.size, 0, none⟩)]) ∧ w' = w.alloc (.cells #[v] 24) := by
 refine callsIn_of_wp Tryz.func79 rfl trivial ?_ rfl
 simp only [Tryz.ntmps79, List.size_toArray, List.length_cons, List.length_nil, Nat.reduceAdd, Nat.reduceSub, Array.replicate_succ, Array.replicate_zero, List.push_toArray, List.append_toArray, List.nil_append, List.cons_append]
 gi_wp2
 go_ret
 exact ⟨rfl, rfl⟩
theorem enters_97 : ∀ args w, (callFunc 97 args).run Tryz.prog w = .ok (.enter 97 args) w := enters_of Tryz.func97 (by kernel_rfl) rfl
theorem events_stops (n : Nat) (hn : 1 ≤ n) (Bn : Nat) (v : Value) (t : Tr) (w w0 : World) (hT : TrAt w v t) (hs : SmallTr t) (h0 : Below w.heap.size w w0) (hBl : Bn < w0.heap.size) (hBn : w0.cell? ⟨Bn, 0, none⟩ = some v) :
  SeqStopsK Fence.wide n Tryz.prog 97 #[.pointer (some ⟨Bn, 0, none⟩)] (encE t w) (Below w.heap.size) (fun xs => nms xs = ids t) (fun pre => nms pre <+: ids t) (ids t).length w0 := fun l J Jx W hW hJ _ hY hJ0 =>
 events1_in n hn l Bn w.heap.size v t w hT hs rfl J Jx W (h0.trans (hW.mono h0.size)) hJ hY ((hW.cell (p := ⟨Bn, 0, none⟩) hBl).trans hBn) hJ0
end Go.Proofs.YtbpdbikphlhaiaaGreatDoor
namespace Go.Proofs.YtbpdbikphlhaiaaGreatDoor
open Go.RowKit
set_option linter.unusedVariables false
open Go.Shelf
attribute [local go_sem] Oper.semAt_some
theorem heap_kept {W W' : World} {row : Option Nat} {k : Nat} {cs : Array Value} {T : TypeId} {fr : Nat × Nat} (h : W.heap[k]? = some (.cells cs T fr)) (hg : W.grownBy W' row) (hr : ∀ r, row = some r → ∃ o : Obj, W.heap[r]? = some o ∧ o.isCells = false) : W'.heap[k]? = some (.cells cs T fr) := by
 refine grownKeep hg ?_ h
 intro e
 obtain ⟨o, ho, hc⟩ := hr k e
 rw [h] at ho
 cases ho
 cases hc
theorem allocs_at (os : List Obj) : ∀ (w : World) (i : Nat) (o : Obj), os[i]? = some o → (os.foldl World.alloc w).heap[w.heap.size + i]? = some o := by
 induction os with
 | nil => intro w i o h; simp at h
 | cons a os ih =>
   intro w i o h
   have hx : ∀ (os : List Obj) (w : World), Ext w (os.foldl World.alloc w) := by
    intro os
    induction os with
    | nil => intro w; exact Ext.rf w
    | cons a os ih => intro w; exact ((Ext.rf w).al a).trans' (ih _)
   cases i with
   | zero =>
     simp only [List.getElem?_cons_zero, Option.some.injEq] at h
     subst h
     exact (hx os (w.alloc a)).hp (heap_alloc_new w a)
   | succ i =>
     have := ih (w.alloc a) i o (by simpa using h)
     rw [World.size_alloc] at this
     rw [show w.heap.size + (i + 1) = w.heap.size + 1 + i from by omega]
     exact this
def LettA (cs : Array Value) (t : Tr) (pre : List Eid) : Prop := cs.size = 800 ∧
 ∀ m : Nat, m ≤ 199 → cs[m * 4]? = some (.int .i64 (eidA (firstIn pre t 2 m))) ∧ cs[m * 4 + 1]? = some (.int .i64 (eidB (firstIn pre t 2 m))) ∧
  cs[m * 4 + 2]? = some (.int .i64 (eidA (firstIn pre t 3 m))) ∧ cs[m * 4 + 3]? = some (.int .i64 (eidB (firstIn pre t 3 m)))
def Lett (W : World) (b : Nat) (t : Tr) (pre : List Eid) : Prop := ∃ cs, W.heap[b]? = some (.cells cs 151) ∧ LettA cs t pre
theorem Lett.ext {W W' : World} {b : Nat} {t : Tr} {pre : List Eid} (h : Lett W b t pre) (x : Ext W W') : Lett W' b t pre := by
 obtain ⟨cs, h1, h2⟩ := h; exact ⟨cs, x.hp h1, h2⟩
theorem Lett.kept {W W' : World} {row : Option Nat} {b : Nat} {t : Tr} {pre : List Eid} (h : Lett W b t pre) (hg : W.grownBy W' row) (hr : ∀ r, row = some r → ∃ o : Obj, W.heap[r]? = some o ∧ o.isCells = false) : Lett W' b t pre := by
 obtain ⟨cs, h1, h2⟩ := h; exact ⟨cs, heap_kept h1 hg hr, h2⟩
theorem zero_letters : Tryz.zeroCells151 = Array.replicate 800 (Value.int .i64 0) := by kernel_rfl
theorem LettA.start (t : Tr) : LettA Tryz.zeroCells151 t [] := by
 rw [zero_letters]
 refine ⟨by simp, fun m hm => ?_⟩
 simp only [firstIn, List.find?_nil, eidA, eidB, Array.getElem?_replicate]
 refine ⟨?_, ?_, ?_, ?_⟩ <;> rw [if_pos (by omega)]
theorem firstIn_other {pre : List Eid} {t : Tr} {k m : Int} {x : Eid} (h : ¬ ((ev t x).kind = k ∧ (ev t x).msg = m)) : firstIn (pre ++ [x]) t k m = firstIn pre t k m := by
 rw [firstIn_snoc, if_neg h]; simp
theorem firstIn_this {pre : List Eid} {t : Tr} {k m : Int} {x : Eid} (h : (ev t x).kind = k ∧ (ev t x).msg = m) (hn : firstIn pre t k m = none) : firstIn (pre ++ [x]) t k m = some x := by
 rw [firstIn_snoc, if_pos h, hn]; rfl
theorem LettA.local {cs : Array Value} {t : Tr} {pre : List Eid} {x : Eid} (h : LettA cs t pre) (hk : (ev t x).kind = 1) : LettA cs t (pre ++ [x]) := by
 refine ⟨h.1, fun m hm => ?_⟩
 rw [firstIn_other (by rw [hk]; intro e; exact absurd e.1 (by decide)), firstIn_other (by rw [hk]; intro e; exact absurd e.1 (by decide))]
 exact h.2 m hm
theorem LettA.send {cs : Array Value} {t : Tr} {pre : List Eid} {x : Eid} {m : Nat} (h : LettA cs t pre) (hk : (ev t x).kind = 2) (hm : (ev t x).msg = m) (hm9 : m ≤ 199) (hn : firstIn pre t 2 m = none) :
  LettA ((cs.setIfInBounds (m * 4) (.int .i64 x.1)).setIfInBounds (m * 4 + 1) (.int .i64 ((x.2 : Int) + 1))) t (pre ++ [x]) := by
 refine ⟨by simp [h.1], fun j hj => ?_⟩
 have hsz := h.1
 obtain ⟨h1, h2, h3, h4⟩ := h.2 j hj
 rw [firstIn_other (k := 3) (by rw [hk]; intro e; exact absurd e.1 (by decide))]
 by_cases e : j = m
 ·subst e
  rw [firstIn_this ⟨hk, hm⟩ hn]
  refine ⟨?_, ?_, ?_, ?_⟩
  ·rw [Array.getElem?_setIfInBounds_ne (by omega), Array.getElem?_setIfInBounds_self_of_lt (by omega)]; rfl
  ·rw [Array.getElem?_setIfInBounds_self_of_lt (by simp; omega)]; rfl
  ·rw [Array.getElem?_setIfInBounds_ne (by omega), Array.getElem?_setIfInBounds_ne (by omega)]; exact h3
  ·rw [Array.getElem?_setIfInBounds_ne (by omega), Array.getElem?_setIfInBounds_ne (by omega)]; exact h4
 ·rw [firstIn_other (by rw [hm]; intro e2; exact e (by have := e2.2; omega))]
  refine ⟨?_, ?_, ?_, ?_⟩ <;> rw [Array.getElem?_setIfInBounds_ne (by omega), Array.getElem?_setIfInBounds_ne (by omega)]
  ·exact h1
  ·exact h2
  ·exact h3
  ·exact h4
theorem LettA.recv {cs : Array Value} {t : Tr} {pre : List Eid} {x : Eid} {m : Nat} (h : LettA cs t pre) (hk : (ev t x).kind = 3) (hm : (ev t x).msg = m) (hm9 : m ≤ 199) (hn : firstIn pre t 3 m = none) :
  LettA ((cs.setIfInBounds (m * 4 + 2) (.int .i64 x.1)).setIfInBounds (m * 4 + 3) (.int .i64 ((x.2 : Int) + 1))) t (pre ++ [x]) := by
 refine ⟨by simp [h.1], fun j hj => ?_⟩
 have hsz := h.1
 obtain ⟨h1, h2, h3, h4⟩ := h.2 j hj
 rw [firstIn_other (k := 2) (by rw [hk]; intro e; exact absurd e.1 (by decide))]
 by_cases e : j = m
 ·subst e
  rw [firstIn_this ⟨hk, hm⟩ hn]
  refine ⟨?_, ?_, ?_, ?_⟩
  ·rw [Array.getElem?_setIfInBounds_ne (by omega), Array.getElem?_setIfInBounds_ne (by omega)]; exact h1
  ·rw [Array.getElem?_setIfInBounds_ne (by omega), Array.getElem?_setIfInBounds_ne (by omega)]; exact h2
  ·rw [Array.getElem?_setIfInBounds_ne (by omega), Array.getElem?_setIfInBounds_self_of_lt (by omega)]; rfl
  ·rw [Array.getElem?_setIfInBounds_self_of_lt (by simp; omega)]; rfl
 ·rw [firstIn_other (by rw [hm]; intro e2; exact e (by have := e2.2; omega))]
  refine ⟨?_, ?_, ?_, ?_⟩ <;> rw [Array.getElem?_setIfInBounds_ne (by omega), Array.getElem?_setIfInBounds_ne (by omega)]
  ·exact h1
  ·exact h2
  ·exact h3
  ·exact h4
def MsgOut (t : Tr) (w w' : World) (e : Ending) : Prop := ∃ (pv : Option Addr) (a b E : Int), e = .returned (.tuple #[.pointer pv, .agg #[.int .i64 a, .int .i64 b], .int .i64 E]) ∧ (E = 0 ↔ pairB t = true) ∧ Ext w w' ∧
 (E = 0 → ∃ B, pv = some ⟨B, 0, none⟩ ∧ Lett w' B t (ids t))
end Go.Proofs.YtbpdbikphlhaiaaGreatDoor
namespace Go.Proofs.YtbpdbikphlhaiaaGreatDoor
open Go.RowKit
set_option linter.unusedVariables false
def exT : Tr := [⟨⟨#[97]⟩, [], [⟨2, 1, 1, 0, []⟩, ⟨1, 0, 0, 0, []⟩]⟩, ⟨⟨#[98]⟩, [], [⟨1, 0, 0, 0, []⟩, ⟨3, 0, 1, 0, []⟩]⟩]
def exA : List Value := [.int .i64 2, .int .i64 1, .int .i64 1, .int .i64 0, .slice none 0 0, .int .i64 1, .int .i64 0, .int .i64 0, .int .i64 0, .slice none 0 0]
def exB : List Value := [.int .i64 1, .int .i64 0, .int .i64 0, .int .i64 0, .slice none 0 0, .int .i64 3, .int .i64 0, .int .i64 1, .int .i64 0, .slice none 0 0]
def exC (n : Nat) : List Value := [.string ⟨#[97]⟩, .slice none 0 0, .slice (some ⟨n + 1, 0, none⟩) 2 2, .string ⟨#[98]⟩, .slice none 0 0, .slice (some ⟨n + 1 + 1, 0, none⟩) 2 2]
theorem sl_none {α : Type} [Inhabited α] (R : World → List Value → α → Prop) (k : Nat) (w : World) : Sl R k w (.slice none 0 0) [] := ⟨none, 0, rfl, Nat.le_refl _, fun h => absurd rfl h⟩
theorem two_at {n : Nat} (h : n < 2) : n = 0 ∨ n = 1 := by omega
theorem exT_at {W : World} {n : Nat} {e f : TypeId} (h1 : W.heap[n + 1]? = some (.cells exA.toArray e)) (h2 : W.heap[n + 2]? = some (.cells exB.toArray e)) (h3 : W.heap[n + 3]? = some (.cells (exC n).toArray f)) :
  TrAt W (.slice (some ⟨n + 1 + 1 + 1, 0, none⟩) 2 2) exT := by
 have a1 : Sl REv 5 W (.slice (some ⟨n + 1, 0, none⟩) 2 2) [⟨2, 1, 1, 0, []⟩, ⟨1, 0, 0, 0, []⟩] :=
  (cells_laid 5 2 h1 rfl).sl (R := REv) (l := ([⟨2, 1, 1, 0, []⟩, ⟨1, 0, 0, 0, []⟩] : List Ev)) (fun i hi => by
   rcases two_at hi with rfl | rfl
   ·exact ⟨_, rfl, sl_none _ _ _⟩
   ·exact ⟨_, rfl, sl_none _ _ _⟩)
 have a2 : Sl REv 5 W (.slice (some ⟨n + 1 + 1, 0, none⟩) 2 2) [⟨1, 0, 0, 0, []⟩, ⟨3, 0, 1, 0, []⟩] :=
  (cells_laid 5 2 h2 rfl).sl (R := REv) (l := ([⟨1, 0, 0, 0, []⟩, ⟨3, 0, 1, 0, []⟩] : List Ev)) (fun i hi => by
   rcases two_at hi with rfl | rfl
   ·exact ⟨_, rfl, sl_none _ _ _⟩
   ·exact ⟨_, rfl, sl_none _ _ _⟩)
 exact (cells_laid 3 2 h3 rfl).sl (R := RPr) (l := exT) (fun i hi => by
  rcases two_at hi with rfl | rfl
  ·exact ⟨_, _, rfl, sl_none _ _ _, a1⟩
  ·exact ⟨_, _, rfl, sl_none _ _ _, a2⟩)
set_option maxHeartbeats 2000000 in
theorem example_calls (w : World) : Calls Tryz.prog 16 #[] w fun e w' => ∃ v, e = .returned (.agg #[v]) ∧ TrAt w' v exT ∧ Ext w w' := by
 go_enter Tryz.func16, Tryz.ntmps16
 go_wp2
 have hb := fun i o => allocs_at [.cells #[.slice (some ⟨w.heap.size + 1 + 1 + 1, 0, none⟩) 2 2] 24, .cells (exA).toArray 58, .cells (exB).toArray 58, .cells (exC w.heap.size).toArray 54] w i o
 have h0 := cellOf (hb 0 _ rfl) 0
 have r0 := h0
 simp only [List.getElem?_toArray, List.getElem?_cons_zero, Nat.add_zero] at r0
 refine bodyPost_ret (v := .agg #[.slice (some ⟨w.heap.size + 1 + 1 + 1, 0, none⟩) 2 2]) (by simp [results, Tryz.results16, go_sem]) rfl ?_
 exact ⟨_, rfl, exT_at (hb 1 _ rfl) (hb 2 _ rfl) (hb 3 _ rfl), (by repeat (first | refine Ext.st ?_ (by first | exact Nat.le_refl _ | exact Nat.le_succ _ | assumption | omega) _ | refine Ext.al ?_ _ | refine Ext.dr ?_ | refine Ext.drN ?_ _ | exact Ext.rf _))⟩
end Go.Proofs.YtbpdbikphlhaiaaGreatDoor
namespace Go.Proofs.YtbpdbikphlhaiaaGreatDoor
open Go.RowKit
set_option linter.unusedVariables false
set_option maxHeartbeats 1000000 in
theorem letterP_calls (c : UInt8) (w : World) : Calls Tryz.prog 113 #[.int .u8 c.toNat] w fun e w' => e = .returned (.bool (letterB c)) ∧ w' = w := by
 have hb : letterB c = ((decide (97 ≤ (c.toNat : Int)) && decide ((c.toNat : Int) ≤ 122)) || (decide (65 ≤ (c.toNat : Int)) && decide ((c.toNat : Int) ≤ 90))) := by
  unfold letterB
  congr 1 <;> congr 1 <;> (rw [decide_eq_decide]; omega)
 have HB := Lib.hid hb
 generalize letterB c = b at *
 generalize hx : (c.toNat : Int) = x at *
 clear hb hx
 by_cases h1 : 97 ≤ x <;> by_cases h2 : x ≤ 122 <;> by_cases h3 : 65 ≤ x <;> by_cases h4 : x ≤ 90
 all_goals
  go_enter Tryz.func113, Tryz.ntmps113
  go_wp2
  go_ret
  refine ⟨?_, rfl⟩
  rw [HB.out]
  simp [h1, h2, h3, h4]
set_option maxHeartbeats 1000000 in
theorem letterR_calls (c : UInt8) (w : World) : Calls Tryz.prog 80 #[.int .u8 c.toNat] w fun e w' => e = .returned (.bool (letterB c)) ∧ w' = w := by
 have hb : letterB c = ((decide (97 ≤ (c.toNat : Int)) && decide ((c.toNat : Int) ≤ 122)) || (decide (65 ≤ (c.toNat : Int)) && decide ((c.toNat : Int) ≤ 90))) := by
  unfold letterB
  congr 1 <;> congr 1 <;> (rw [decide_eq_decide]; omega)
 have HB := Lib.hid hb
 generalize letterB c = b at *
 generalize hx : (c.toNat : Int) = x at *
 clear hb hx
 by_cases h1 : 97 ≤ x <;> by_cases h2 : x ≤ 122 <;> by_cases h3 : 65 ≤ x <;> by_cases h4 : x ≤ 90
 all_goals
  go_enter Tryz.func80, Tryz.ntmps80
  go_wp2
  go_ret
  refine ⟨?_, rfl⟩
  rw [HB.out]
  simp [h1, h2, h3, h4]
set_option maxHeartbeats 1000000 in
theorem digitP_calls (c : UInt8) (w : World) : Calls Tryz.prog 114 #[.int .u8 c.toNat] w fun e w' => e = .returned (.bool (digitB c)) ∧ w' = w := by
 have hb : digitB c = (decide (48 ≤ (c.toNat : Int)) && decide ((c.toNat : Int) ≤ 57)) := by
  unfold digitB
  congr 1 <;> (rw [decide_eq_decide]; omega)
 have HB := Lib.hid hb
 generalize digitB c = b at *
 generalize hx : (c.toNat : Int) = x at *
 clear hb hx
 by_cases h1 : 48 ≤ x <;> by_cases h2 : x ≤ 57
 all_goals
  go_enter Tryz.func114, Tryz.ntmps114
  go_wp2
  go_ret
  refine ⟨?_, rfl⟩
  rw [HB.out]
  simp [h1, h2]
set_option maxHeartbeats 1000000 in
theorem digitR_calls (c : UInt8) (w : World) : Calls Tryz.prog 81 #[.int .u8 c.toNat] w fun e w' => e = .returned (.bool (digitB c)) ∧ w' = w := by
 have hb : digitB c = (decide (48 ≤ (c.toNat : Int)) && decide ((c.toNat : Int) ≤ 57)) := by
  unfold digitB
  congr 1 <;> (rw [decide_eq_decide]; omega)
 have HB := Lib.hid hb
 generalize digitB c = b at *
 generalize hx : (c.toNat : Int) = x at *
 clear hb hx
 by_cases h1 : 48 ≤ x <;> by_cases h2 : x ≤ 57
 all_goals
  go_enter Tryz.func81, Tryz.ntmps81
  go_wp2
  go_ret
  refine ⟨?_, rfl⟩
  rw [HB.out]
  simp [h1, h2]
theorem inP_calls (x a b : Int) (w : World) : Calls Tryz.prog 82 #[.int .i64 x, .int .i64 a, .int .i64 b] w fun e w' => e = .returned (.bool (decide (a ≤ x) && decide (x ≤ b))) ∧ w' = w := by
 by_cases h1 : a ≤ x <;> by_cases h2 : x ≤ b
 all_goals
  go_enter Tryz.func82, Tryz.ntmps82
  go_wp2
  go_ret
  refine ⟨?_, rfl⟩
  simp [h1, h2]
theorem empty_of_size {s : ByteArray} (h : s.size = 0) : s = ByteArray.empty := by
 cases s with
 | mk d =>
   have h' : d.size = 0 := h
   have := Array.eq_empty_of_size_eq_zero h'
   rw [this]; rfl
theorem isEmpty_size (s : ByteArray) : s.toList.isEmpty = decide (s.size = 0) := by
 rw [← decide_eq_emptyBytes, decide_eq_decide]
 exact ⟨fun h => by rw [h]; rfl, empty_of_size⟩
theorem nameB_parts {s : ByteArray} : nameB s = true ↔ 1 ≤ s.size ∧ s.size ≤ 16 ∧ letterB s[0]! = true ∧ ∀ i, i < s.size → wordB s[i]! = true := by
 simp only [nameB, Bool.and_eq_true, decide_eq_true_eq, range_all]
set_option maxHeartbeats 2000000 in
theorem isNameP_calls (s : ByteArray) (w : World) : Calls Tryz.prog 98 #[.string s] w fun e w' => e = .returned (.bool (nameB s)) ∧ w' = w := by
 have hno : ¬ (1 ≤ s.size ∧ s.size ≤ 16 ∧ letterB s[0]! = true ∧ ∀ i, i < s.size → wordB s[i]! = true) → nameB s = false := fun h => by
  rw [Bool.eq_false_iff]; intro hv; exact h (nameB_parts.1 hv)
 have HNO := Lib.hid hno
 have HYES := Lib.hid (@nameB_parts s).2
 have hemp := isEmpty_size s
 generalize hnb : nameB s = nb at *
 have HNB := Lib.hid (show nb = nb from rfl)
 clear hno hnb
 by_cases h0 : s.size = 0
 ·have b0 : s.toList.isEmpty = true := by rw [hemp, h0]; rfl
  have d0 : decide ((s.size : Int) < 1) = true := decide_eq_true (by omega)
  have d0n : decide (s.size < 1) = true := decide_eq_true (by omega)
  have hnb : nb = false := HNO.out (fun h => by omega)
  subst hnb
  clear hemp h0
  go_enter Tryz.func98, Tryz.ntmps98
  go_wp2
  go_ret
  exact ⟨rfl, rfl⟩
 have b0 : s.toList.isEmpty = false := by rw [hemp]; simpa using h0
 have d0 : decide ((s.size : Int) < 1) = false := decide_eq_false (by omega)
 have d0n : decide (s.size < 1) = false := decide_eq_false (by omega)
 clear hemp
 by_cases h16 : 16 < s.size
 ·have b1 : decide (16 < (s.size : Int)) = true := by simp; omega
  have b1n : decide (16 < s.size) = true := by simp; omega
  have hnb : nb = false := HNO.out (fun h => by omega)
  subst hnb
  go_enter Tryz.func98, Tryz.ntmps98
  go_wp2
  go_ret
  exact ⟨rfl, rfl⟩
 have b1 : decide (16 < (s.size : Int)) = false := by simp; omega
 have b1n : decide (16 < s.size) = false := by simp; omega
 have hpos : 0 < s.size := by omega
 cases hl : letterB s[0] with
 | false =>
   have hnb : nb = false := HNO.out (fun h => by have := h.2.2.1; rw [getElem!_pos s 0 hpos, hl] at this; exact absurd this (by decide))
   subst hnb
   have HL := Lib.hid hl
   clear hl
   go_enter Tryz.func98, Tryz.ntmps98
   go_wp2_with fail
   refine (letterP_calls s[0] w).mono ?_
   rw [HL.out]
   rintro e w' ⟨rfl, rfl⟩
   go_wp2
   go_ret
   exact ⟨rfl, rfl⟩
 | true =>
   have HL := Lib.hid hl
   clear hl
   go_enter Tryz.func98, Tryz.ntmps98
   go_wp2_with fail
   refine (letterP_calls s[0] w).mono ?_
   rw [HL.out]
   rintro e w' ⟨rfl, rfl⟩
   have HW0 : Hid (wordB s[0]! = true) := Lib.hid (by rw [getElem!_pos s 0 hpos, wordB, HL.out]; rfl)
   have HL0 : Hid (letterB s[0]! = true) := Lib.hid (by rw [getElem!_pos s 0 hpos]; exact HL.out)
   go_wp2
   go_loopg [19] s.size (fun g s19 wr => ∃ k : Nat, k ≤ s.size ∧ s.size - k ≤ g ∧ s19 = .int .i64 k ∧ Aside (∀ j, j < k → wordB s[j]! = true) ∧ wr = w')
   case atStart => exact ⟨0, by omega, by omega, rfl, (fun j hj => (show j = 0 by omega) ▸ HW0.out), rfl⟩
   case round =>
    obtain ⟨k, hk, hg, rfl, A, rfl⟩ := hrel
    by_cases hlt : k < s.size
    ·have hltz : (k : Int) < (s.size : Int) := by omega
     have hkz : (0 : Int) ≤ (k : Int) := by omega
     have HGE := Lib.hid (getElem!_pos s k hlt)
     have HC1 := Lib.hid (letterP_calls s[k] wr)
     have HC2 := Lib.hid (digitP_calls s[k] wr)
     have HW := Lib.hid (show wordB s[k] = (letterB s[k] || digitB s[k] || decide (s[k].toNat = 95)) from rfl)
     cases h1 : letterB s[k] with
     | true =>
       rw [h1] at HC1 HW
       have HW := Lib.hid (show wordB s[k]! = true from by rw [HGE.out, HW.out]; simp)
       clear h1
       go_wp2_with fail
       refine HC1.out.mono ?_
       rintro e w2 ⟨rfl, rfl⟩
       go_wp2
       go_roundg (s.size - (k + 1))
       case measure => omega
       case rel =>
        refine ⟨k + 1, by omega, by omega, by go_num, (show Aside _ from fun j hj => ?_), rfl⟩
        by_cases e : j = k
        ·subst e; exact HW.out
        ·exact A.out j (by omega)
     | false =>
       rw [h1] at HC1 HW
       cases h2 : digitB s[k] with
       | true =>
         rw [h2] at HC2 HW
         have HW := Lib.hid (show wordB s[k]! = true from by rw [HGE.out, HW.out]; simp)
         clear h1 h2
         go_wp2_with fail
         refine HC1.out.mono ?_
         rintro e w2 ⟨rfl, rfl⟩
         go_wp2_with fail
         refine HC2.out.mono ?_
         rintro e w2 ⟨rfl, rfl⟩
         go_wp2
         go_roundg (s.size - (k + 1))
         case measure => omega
         case rel =>
          refine ⟨k + 1, by omega, by omega, by go_num, (show Aside _ from fun j hj => ?_), rfl⟩
          by_cases e : j = k
          ·subst e; exact HW.out
          ·exact A.out j (by omega)
       | false =>
         rw [h2] at HC2 HW
         by_cases h3 : s[k].toNat = 95
         ·have HW := Lib.hid (show wordB s[k]! = true from by rw [HGE.out, HW.out, h3]; simp)
          have c3 : ((s[k].toNat : Int) != 95) = false := by simp; omega
          clear h1 h2 h3
          go_wp2_with fail
          refine HC1.out.mono ?_
          rintro e w2 ⟨rfl, rfl⟩
          go_wp2_with fail
          refine HC2.out.mono ?_
          rintro e w2 ⟨rfl, rfl⟩
          go_wp2
          go_roundg (s.size - (k + 1))
          case measure => omega
          case rel =>
           refine ⟨k + 1, by omega, by omega, by go_num, (show Aside _ from fun j hj => ?_), rfl⟩
           by_cases e : j = k
           ·subst e; exact HW.out
           ·exact A.out j (by omega)
         ·have HW := Lib.hid (show wordB s[k]! = false from by rw [HGE.out, HW.out]; simpa using h3)
          have c3 : ((s[k].toNat : Int) != 95) = true := by simp; omega
          have hnb : nb = false := HNO.out (fun h => by have := h.2.2.2 k hlt; rw [HW.out] at this; exact absurd this (by decide))
          subst hnb
          clear h1 h2 h3
          go_wp2_with fail
          refine HC1.out.mono ?_
          rintro e w2 ⟨rfl, rfl⟩
          go_wp2_with fail
          refine HC2.out.mono ?_
          rintro e w2 ⟨rfl, rfl⟩
          go_wp2
          go_ret
          exact ⟨rfl, rfl⟩
    ·have hltz : ¬ (k : Int) < (s.size : Int) := by omega
     obtain rfl : nb = true := HYES.out ⟨by omega, by omega, HL0.out, fun i hi => A.out i (by omega)⟩
     go_wp2
     go_ret
     exact ⟨rfl, rfl⟩
set_option maxHeartbeats 2000000 in
theorem nameR_calls (s : ByteArray) (w : World) : Calls Tryz.prog 62 #[.string s] w fun e w' => e = .returned (.bool (nameB s)) ∧ w' = w := by
 have hno : ¬ (1 ≤ s.size ∧ s.size ≤ 16 ∧ letterB s[0]! = true ∧ ∀ i, i < s.size → wordB s[i]! = true) → nameB s = false := fun h => by
  rw [Bool.eq_false_iff]; intro hv; exact h (nameB_parts.1 hv)
 have HNO := Lib.hid hno
 have HYES := Lib.hid (@nameB_parts s).2
 have hemp := isEmpty_size s
 generalize hnb : nameB s = nb at *
 have HNB := Lib.hid (show nb = nb from rfl)
 clear hno hnb
 by_cases h0 : s.size = 0
 ·have b0 : s.toList.isEmpty = true := by rw [hemp, h0]; rfl
  have d0 : decide ((s.size : Int) < 1) = true := decide_eq_true (by omega)
  have d0n : decide (s.size < 1) = true := decide_eq_true (by omega)
  have hnb : nb = false := HNO.out (fun h => by omega)
  subst hnb
  clear hemp h0
  go_enter Tryz.func62, Tryz.ntmps62
  go_wp2
  go_ret
  exact ⟨rfl, rfl⟩
 have b0 : s.toList.isEmpty = false := by rw [hemp]; simpa using h0
 have d0 : decide ((s.size : Int) < 1) = false := decide_eq_false (by omega)
 have d0n : decide (s.size < 1) = false := decide_eq_false (by omega)
 clear hemp
 by_cases h16 : 16 < s.size
 ·have b1 : decide (16 < (s.size : Int)) = true := by simp; omega
  have b1n : decide (16 < s.size) = true := by simp; omega
  have hnb : nb = false := HNO.out (fun h => by omega)
  subst hnb
  go_enter Tryz.func62, Tryz.ntmps62
  go_wp2
  go_ret
  exact ⟨rfl, rfl⟩
 have b1 : decide (16 < (s.size : Int)) = false := by simp; omega
 have b1n : decide (16 < s.size) = false := by simp; omega
 have hpos : 0 < s.size := by omega
 cases hl : letterB s[0] with
 | false =>
   have hnb : nb = false := HNO.out (fun h => by have := h.2.2.1; rw [getElem!_pos s 0 hpos, hl] at this; exact absurd this (by decide))
   subst hnb
   have HL := Lib.hid hl
   clear hl
   go_enter Tryz.func62, Tryz.ntmps62
   go_wp2_with fail
   refine (letterR_calls s[0] w).mono ?_
   rw [HL.out]
   rintro e w' ⟨rfl, rfl⟩
   go_wp2
   go_ret
   exact ⟨rfl, rfl⟩
 | true =>
   have HL := Lib.hid hl
   clear hl
   go_enter Tryz.func62, Tryz.ntmps62
   go_wp2_with fail
   refine (letterR_calls s[0] w).mono ?_
   rw [HL.out]
   rintro e w' ⟨rfl, rfl⟩
   have HW0 : Hid (wordB s[0]! = true) := Lib.hid (by rw [getElem!_pos s 0 hpos, wordB, HL.out]; rfl)
   have HL0 : Hid (letterB s[0]! = true) := Lib.hid (by rw [getElem!_pos s 0 hpos]; exact HL.out)
   go_wp2
   go_loopg [3] s.size (fun g s19 wr => ∃ k : Nat, k ≤ s.size ∧ s.size - k ≤ g ∧ s19 = .int .i64 k ∧ Aside (∀ j, j < k → wordB s[j]! = true) ∧ wr = w')
   case atStart => exact ⟨1, by omega, by omega, rfl, (fun j hj => (show j = 0 by omega) ▸ HW0.out), rfl⟩
   case round =>
    obtain ⟨k, hk, hg, rfl, A, rfl⟩ := hrel
    by_cases hlt : k < s.size
    ·have hltz : (k : Int) < (s.size : Int) := by omega
     have hkz : (0 : Int) ≤ (k : Int) := by omega
     have HGE := Lib.hid (getElem!_pos s k hlt)
     have HC1 := Lib.hid (letterR_calls s[k] wr)
     have HC2 := Lib.hid (digitR_calls s[k] wr)
     have HW := Lib.hid (show wordB s[k] = (letterB s[k] || digitB s[k] || decide (s[k].toNat = 95)) from rfl)
     cases h1 : letterB s[k] with
     | true =>
       rw [h1] at HC1 HW
       have HW := Lib.hid (show wordB s[k]! = true from by rw [HGE.out, HW.out]; simp)
       clear h1
       go_wp2_with fail
       refine HC1.out.mono ?_
       rintro e w2 ⟨rfl, rfl⟩
       go_wp2
       go_roundg (s.size - (k + 1))
       case measure => omega
       case rel =>
        refine ⟨k + 1, by omega, by omega, by go_num, (show Aside _ from fun j hj => ?_), rfl⟩
        by_cases e : j = k
        ·subst e; exact HW.out
        ·exact A.out j (by omega)
     | false =>
       rw [h1] at HC1 HW
       cases h2 : digitB s[k] with
       | true =>
         rw [h2] at HC2 HW
         have HW := Lib.hid (show wordB s[k]! = true from by rw [HGE.out, HW.out]; simp)
         clear h1 h2
         go_wp2_with fail
         refine HC1.out.mono ?_
         rintro e w2 ⟨rfl, rfl⟩
         go_wp2_with fail
         refine HC2.out.mono ?_
         rintro e w2 ⟨rfl, rfl⟩
         go_wp2
         go_roundg (s.size - (k + 1))
         case measure => omega
         case rel =>
          refine ⟨k + 1, by omega, by omega, by go_num, (show Aside _ from fun j hj => ?_), rfl⟩
          by_cases e : j = k
          ·subst e; exact HW.out
          ·exact A.out j (by omega)
       | false =>
         rw [h2] at HC2 HW
         by_cases h3 : s[k].toNat = 95
         ·have HW := Lib.hid (show wordB s[k]! = true from by rw [HGE.out, HW.out, h3]; simp)
          have c3 : ((s[k].toNat : Int) != 95) = false := by simp; omega
          clear h1 h2 h3
          go_wp2_with fail
          refine HC1.out.mono ?_
          rintro e w2 ⟨rfl, rfl⟩
          go_wp2_with fail
          refine HC2.out.mono ?_
          rintro e w2 ⟨rfl, rfl⟩
          go_wp2
          go_roundg (s.size - (k + 1))
          case measure => omega
          case rel =>
           refine ⟨k + 1, by omega, by omega, by go_num, (show Aside _ from fun j hj => ?_), rfl⟩
           by_cases e : j = k
           ·subst e; exact HW.out
           ·exact A.out j (by omega)
         ·have HW := Lib.hid (show wordB s[k]! = false from by rw [HGE.out, HW.out]; simpa using h3)
          have c3 : ((s[k].toNat : Int) != 95) = true := by simp; omega
          have hnb : nb = false := HNO.out (fun h => by have := h.2.2.2 k hlt; rw [HW.out] at this; exact absurd this (by decide))
          subst hnb
          clear h1 h2 h3
          go_wp2_with fail
          refine HC1.out.mono ?_
          rintro e w2 ⟨rfl, rfl⟩
          go_wp2_with fail
          refine HC2.out.mono ?_
          rintro e w2 ⟨rfl, rfl⟩
          go_wp2
          go_ret
          exact ⟨rfl, rfl⟩
    ·have hltz : ¬ (k : Int) < (s.size : Int) := by omega
     obtain rfl : nb = true := HYES.out ⟨by omega, by omega, HL0.out, fun i hi => A.out i (by omega)⟩
     go_wp2
     go_ret
     exact ⟨rfl, rfl⟩
end Go.Proofs.YtbpdbikphlhaiaaGreatDoor
namespace Go.Proofs.YtbpdbikphlhaiaaGreatDoor
open Go.RowKit
set_option linter.unusedVariables false
set_option maxHeartbeats 400000 in
theorem indexFunc_procs {α : Type} [Inhabited α] (R : World → List Value → α → Prop) (hLasts : Lasts R) (g : Nat) (cb : Array Value) (eg : ∀ args w, (callFunc g args).run Tryz.prog w = .ok (.enter g args) w) (p : α → Bool) (v : Value) (l : List α) (w : World)
  (hv : Sl R 3 w v l) (hn : l.length ≤ 1000000) (hp : SaysOf Tryz.prog R encAgg g cb p l w) :
  Calls Tryz.prog 115 #[v, .func (.func g) #[] cb] w fun e w' => e = .returned (.int .i64 (firstAt p l)) ∧ Ext w w' := by
 obtain ⟨a, c, rfl, hlc, hv⟩ := hv
 have HLC := Lib.hid hlc; clear hlc
 have HV := Lib.hid hv; clear hv
 have HP := Lib.hid hp; clear hp
 have HT := Lib.hid hLasts; clear hLasts
 generalize hln : l.length = n at hn
 have HL := Lib.hid hln; clear hln
 go_enter Tryz.func115, Tryz.ntmps115
 go_wp2
 go_loopg [5, 8] n (fun m _ s8 wr => ∃ k : Nat, k ≤ n ∧ n - k ≤ m ∧ s8 = .int .i64 k ∧ Ext w wr ∧ Aside (∀ j, j < k → p l[j]! = false))
 case atStart => exact ⟨0, Nat.zero_le _, by omega, rfl, Below.refl _ _, (fun j hj => absurd hj (Nat.not_lt_zero _))⟩
 case round =>
  obtain ⟨k, hk, hm, rfl, he, A⟩ := hrel
  have HE := Lib.hid he; clear he
  by_cases hlt : k < n
  ·obtain ⟨b, off, rfl, hb, hc⟩ := HV.out (by intro e; have := HL.out; simp [e] at this; omega)
   obtain ⟨vs, hvs, hR, hcell⟩ := hc k (by rw [HL.out]; exact hlt)
   obtain ⟨c0, c1, c2, rfl⟩ : ∃ c0 c1 c2, vs = [c0, c1, c2] := by match vs, hvs with | [c0, c1, c2], _ => exact ⟨c0, c1, c2, rfl⟩
   have d0 : wr.cell? ⟨b, off + k * 3, none⟩ = some c0 := (HE.out.cell hb).trans (hcell 0 (by omega))
   have d1 : wr.cell? ⟨b, off + k * 3 + 1, none⟩ = some c1 := (HE.out.cell hb).trans (hcell 1 (by omega))
   have d2 : wr.cell? ⟨b, off + k * 3 + 2, none⟩ = some c2 := (HE.out.cell hb).trans (hcell 2 (by omega))
   have hltz : (k : Int) < (n : Int) := by omega
   clear hc hcell
   have hcall := HP.out _ (mem_at l k (by rw [HL.out]; exact hlt)) wr _ HE.out (HT.out _ _ _ _ hR HE.out)
   unfold encAgg at hcall
   generalize hy : l[k]! = y at hcall hR
   have B := Lib.hid hy
   clear hy hR hvs HV HT HP
   cases hq : p y with
   | true =>
     rw [hq] at hcall
     have HQ := Lib.hid hq; clear hq
     go_wp2_with (go_at_fn g; refine hcall.mono ?_; rintro e w' ⟨rfl, he'⟩)
     go_ret
     exact ⟨by rw [firstAt_hit p l k (by rw [HL.out]; omega) (by rw [B.out]; exact HQ.out) A.out]; rfl, HE.out.trans' he'⟩
   | false =>
     rw [hq] at hcall
     have HQ := Lib.hid hq; clear hq
     go_wp2_with (go_at_fn g; refine hcall.mono ?_; rintro e w' ⟨rfl, he'⟩)
     go_roundg (n - (k + 1))
     case measure => omega
     case rel =>
      refine ⟨k + 1, by omega, by omega, by go_num, HE.out.trans' he', (show Aside _ from fun j hj => ?_)⟩
      by_cases e : j = k
      ·subst e
       rw [B.out]; exact HQ.out
      ·exact A.out j (by omega)
  ·have hltz : ¬ (k : Int) < (n : Int) := by omega
   go_wp2
   go_ret
   exact ⟨by rw [firstAt_miss p l (fun j hj => A.out j (by rw [HL.out] at hj; omega))]; rfl, HE.out⟩
set_option maxHeartbeats 400000 in
theorem containsFunc_procs {α : Type} [Inhabited α] (R : World → List Value → α → Prop) (hLasts : Lasts R) (g : Nat) (cb : Array Value) (eg : ∀ args w, (callFunc g args).run Tryz.prog w = .ok (.enter g args) w) (p : α → Bool) (v : Value) (l : List α) (w : World)
  (hv : Sl R 3 w v l) (hn : l.length ≤ 1000000) (hp : SaysOf Tryz.prog R encAgg g cb p l w) :
  Calls Tryz.prog 99 #[v, .func (.func g) #[] cb] w fun e w' => e = .returned (.bool (l.any p)) ∧ Ext w w' := by
 have HI := Lib.hid (indexFunc_procs R hLasts g cb eg p v l w hv hn hp)
 clear hv hp eg hLasts
 rw [← firstAt_any]
 go_enter Tryz.func99, Tryz.ntmps99
 go_wp2_with (go_at_call 115; refine HI.out.mono ?_; rintro e w' ⟨rfl, he'⟩)
 go_ret
 exact ⟨rfl, he'⟩
set_option maxHeartbeats 400000 in
theorem indexFunc_vars {α : Type} [Inhabited α] (R : World → List Value → α → Prop) (hLasts : Lasts R) (g : Nat) (cb : Array Value) (eg : ∀ args w, (callFunc g args).run Tryz.prog w = .ok (.enter g args) w) (p : α → Bool) (v : Value) (l : List α) (w : World)
  (hv : Sl R 2 w v l) (hn : l.length ≤ 1000000) (hp : SaysOf Tryz.prog R encAgg g cb p l w) :
  Calls Tryz.prog 42 #[v, .func (.func g) #[] cb] w fun e w' => e = .returned (.int .i64 (firstAt p l)) ∧ Ext w w' := by
 obtain ⟨a, c, rfl, hlc, hv⟩ := hv
 have HLC := Lib.hid hlc; clear hlc
 have HV := Lib.hid hv; clear hv
 have HP := Lib.hid hp; clear hp
 have HT := Lib.hid hLasts; clear hLasts
 generalize hln : l.length = n at hn
 have HL := Lib.hid hln; clear hln
 go_enter Tryz.func42, Tryz.ntmps42
 go_wp2
 go_loopg [5, 8] n (fun m _ s8 wr => ∃ k : Nat, k ≤ n ∧ n - k ≤ m ∧ s8 = .int .i64 k ∧ Ext w wr ∧ Aside (∀ j, j < k → p l[j]! = false))
 case atStart => exact ⟨0, Nat.zero_le _, by omega, rfl, Below.refl _ _, (fun j hj => absurd hj (Nat.not_lt_zero _))⟩
 case round =>
  obtain ⟨k, hk, hm, rfl, he, A⟩ := hrel
  have HE := Lib.hid he; clear he
  by_cases hlt : k < n
  ·obtain ⟨b, off, rfl, hb, hc⟩ := HV.out (by intro e; have := HL.out; simp [e] at this; omega)
   obtain ⟨vs, hvs, hR, hcell⟩ := hc k (by rw [HL.out]; exact hlt)
   obtain ⟨c0, c1, rfl⟩ : ∃ c0 c1, vs = [c0, c1] := by match vs, hvs with | [c0, c1], _ => exact ⟨c0, c1, rfl⟩
   have d0 : wr.cell? ⟨b, off + k * 2, none⟩ = some c0 := (HE.out.cell hb).trans (hcell 0 (by omega))
   have d1 : wr.cell? ⟨b, off + k * 2 + 1, none⟩ = some c1 := (HE.out.cell hb).trans (hcell 1 (by omega))
   have hltz : (k : Int) < (n : Int) := by omega
   clear hc hcell
   have hcall := HP.out _ (mem_at l k (by rw [HL.out]; exact hlt)) wr _ HE.out (HT.out _ _ _ _ hR HE.out)
   unfold encAgg at hcall
   generalize hy : l[k]! = y at hcall hR
   have B := Lib.hid hy
   clear hy hR hvs HV HT HP
   cases hq : p y with
   | true =>
     rw [hq] at hcall
     have HQ := Lib.hid hq; clear hq
     go_wp2_with (go_at_fn g; refine hcall.mono ?_; rintro e w' ⟨rfl, he'⟩)
     go_ret
     exact ⟨by rw [firstAt_hit p l k (by rw [HL.out]; omega) (by rw [B.out]; exact HQ.out) A.out]; rfl, HE.out.trans' he'⟩
   | false =>
     rw [hq] at hcall
     have HQ := Lib.hid hq; clear hq
     go_wp2_with (go_at_fn g; refine hcall.mono ?_; rintro e w' ⟨rfl, he'⟩)
     go_roundg (n - (k + 1))
     case measure => omega
     case rel =>
      refine ⟨k + 1, by omega, by omega, by go_num, HE.out.trans' he', (show Aside _ from fun j hj => ?_)⟩
      by_cases e : j = k
      ·subst e
       rw [B.out]; exact HQ.out
      ·exact A.out j (by omega)
  ·have hltz : ¬ (k : Int) < (n : Int) := by omega
   go_wp2
   go_ret
   exact ⟨by rw [firstAt_miss p l (fun j hj => A.out j (by rw [HL.out] at hj; omega))]; rfl, HE.out⟩
set_option maxHeartbeats 400000 in
theorem containsFunc_vars {α : Type} [Inhabited α] (R : World → List Value → α → Prop) (hLasts : Lasts R) (g : Nat) (cb : Array Value) (eg : ∀ args w, (callFunc g args).run Tryz.prog w = .ok (.enter g args) w) (p : α → Bool) (v : Value) (l : List α) (w : World)
  (hv : Sl R 2 w v l) (hn : l.length ≤ 1000000) (hp : SaysOf Tryz.prog R encAgg g cb p l w) :
  Calls Tryz.prog 23 #[v, .func (.func g) #[] cb] w fun e w' => e = .returned (.bool (l.any p)) ∧ Ext w w' := by
 have HI := Lib.hid (indexFunc_vars R hLasts g cb eg p v l w hv hn hp)
 clear hv hp eg hLasts
 rw [← firstAt_any]
 go_enter Tryz.func23, Tryz.ntmps23
 go_wp2_with (go_at_call 42; refine HI.out.mono ?_; rintro e w' ⟨rfl, he'⟩)
 go_ret
 exact ⟨rfl, he'⟩
theorem enters_100 : ∀ args w, (callFunc 100 args).run Tryz.prog w = .ok (.enter 100 args) w := enters_of Tryz.func100 (by kernel_rfl) rfl
theorem enters_101 : ∀ args w, (callFunc 101 args).run Tryz.prog w = .ok (.enter 101 args) w := enters_of Tryz.func101 (by kernel_rfl) rfl
set_option maxHeartbeats 1000000 in
theorem procName_calls (vs : List Value) (x : Pr) (b : Nat) (s : ByteArray) (w : World) (hx : RPr w vs x) (hc : w.cell? ⟨b, 0, none⟩ = some (.string s)) :
  Calls Tryz.prog 100 #[.agg vs.toArray, .pointer (some ⟨b, 0, none⟩)] w fun e w' => e = .returned (.bool (x.name.toList == s.toList)) ∧ Ext w w' := by
 obtain ⟨vv, ve, rfl, _, _⟩ := hx
 have hbl := World.block_lt_of_cell? w _ hc
 have hbn : b ≠ w.heap.size := Nat.ne_of_lt hbl
 have hx0 := cell_new w #[.string x.name, vv, ve] 54 0 _ rfl
 go_enter Tryz.func100, Tryz.ntmps100
 go_wp2
 go_ret
 exact ⟨rfl, (by repeat (first | refine Ext.st ?_ (by first | exact Nat.le_refl _ | exact Nat.le_succ _ | assumption | omega) _ | refine Ext.al ?_ _ | refine Ext.dr ?_ | refine Ext.drN ?_ _ | exact Ext.rf _))⟩
set_option maxHeartbeats 1000000 in
theorem varName_calls (vs : List Value) (x : Vr) (b : Nat) (s : ByteArray) (w : World) (hx : RVr w vs x) (hc : w.cell? ⟨b, 0, none⟩ = some (.string s)) :
  Calls Tryz.prog 101 #[.agg vs.toArray, .pointer (some ⟨b, 0, none⟩)] w fun e w' => e = .returned (.bool (x.name.toList == s.toList)) ∧ Ext w w' := by
 have e : vs = [.string x.name, .int .i64 x.init] := hx
 subst e
 have hbl := World.block_lt_of_cell? w _ hc
 have hbn : b ≠ w.heap.size := Nat.ne_of_lt hbl
 have hx0 := cell_new w #[.string x.name, .int .i64 x.init] 62 0 _ rfl
 go_enter Tryz.func101, Tryz.ntmps101
 go_wp2
 go_ret
 exact ⟨rfl, (by repeat (first | refine Ext.st ?_ (by first | exact Nat.le_refl _ | exact Nat.le_succ _ | assumption | omega) _ | refine Ext.al ?_ _ | refine Ext.dr ?_ | refine Ext.drN ?_ _ | exact Ext.rf _))⟩
end Go.Proofs.YtbpdbikphlhaiaaGreatDoor
namespace Go.Proofs.YtbpdbikphlhaiaaGreatDoor
open Go.RowKit
set_option linter.unusedVariables false
attribute [local go_sem ↓] Go.wp_at_zero Go.wp_at_succ
set_option maxHeartbeats 4000000 in
set_option maxRecDepth 100000 in
theorem procFaultP_calls (v : Value) (t : Tr) (p : Nat) (w : World) (h : TrAt w v t) (hs : LooseTr t) (hp : p < t.length) :
  Calls Tryz.prog 83 #[.agg #[v], .int .i64 p] w fun e w' => ErrIff w w' e (headB t p) := by
 have HT := Lib.hid h
 obtain ⟨B, O, C, vv, ve, rfl, hlC, hB, hn0, hv0, he0, hV, hE0⟩ := proc_at h p hp
 obtain ⟨va, vc, rfl, hvc⟩ := hV.sh
 obtain ⟨ea, ec, rfl, hec⟩ := hE0.sh
 have hn := hs.1
 have hvn := (hs.2 p hp).1
 have HB := Lib.hid (@headB_parts t p)
 generalize hhb : headB t p = hb at *
 have HANY := Lib.hid (any_take t p (by omega) fun y => y.name.toList == t[p]!.name.toList)
 generalize hx : t[p]! = x at *
 generalize hln : t.length = n at *
 generalize hnv : x.vars.length = nv at *
 generalize hne : x.events.length = ne at *
 have HN := Lib.hid hln
 have HNV := Lib.hid hnv
 have HV := Lib.hid hV
 have HNM := Lib.hid (isNameP_calls x.name)
 have hpz : (0 : Int) ≤ (p : Int) := by omega
 have hpi : (p : Int) < (n : Int) := by omega
 have hpC : (p : Int) ≤ (C : Int) := by omega
 have hE1 : Ext w (w.alloc (.cells #[.slice (some ⟨B, O, none⟩) n C] 24)) := (Ext.rf w).al _
 have HX1 := Lib.hid (heap_new_eq (w := w.alloc (.cells #[.slice (some ⟨B, O, none⟩) n C] 24)) (o := .cells #[.string x.name, .slice va nv vc, .slice ea ne ec] 54) (b := w.heap.size + 1) (by simp))
 have HX0 := Lib.hid (((Ext.rf _).al (.cells #[.string x.name, .slice va nv vc, .slice ea ne ec] 54)).hp (heap_alloc_new w (.cells #[.slice (some ⟨B, O, none⟩) n C] 24)))
 have HE2 : Hid (Ext w ((w.alloc (.cells #[.slice (some ⟨B, O, none⟩) n C] 24)).alloc (.cells #[.string x.name, .slice va nv vc, .slice ea ne ec] 54))) := Lib.hid (((Ext.rf w).al _).al _)
 have hn1 := hE1.cl hn0
 have hv1 := hE1.cl hv0
 have he1 := hE1.cl he0
 have hT0 := cell_new w #[.slice (some ⟨B, O, none⟩) n C] 24 0 _ rfl
 clear hn0 hv0 he0 hV hE0 h hs hhb hE1 hx hln hnv hne
 cases hnm : nameB x.name with
 | false =>
   rw [hnm] at HNM
   obtain rfl : hb = false := by
    rw [Bool.eq_false_iff]; intro hbt; have := (HB.out.1 hbt).1; rw [hnm] at this; exact absurd this (by decide)
   clear hnm
   go_enter Tryz.func83, Tryz.ntmps83
   go_wp2_with fail
   refine (HNM.out _).mono ?_
   rintro e w2 ⟨rfl, rfl⟩
   go_wp2
   go_ret
   exact ⟨13, rfl, ⟨fun h => absurd h (by decide), fun h => absurd h (by decide)⟩, (by repeat (first | refine Ext.st ?_ (by first | exact Nat.le_refl _ | exact Nat.le_succ _ | assumption | omega) _ | refine Ext.al ?_ _ | refine Ext.dr ?_ | refine Ext.drN ?_ _ | exact Ext.rf _))⟩
 | true =>
   rw [hnm] at HNM
   have HNB := Lib.hid hnm
   have HCF := Lib.hid (fun W (hW : Ext w W) (hc : W.cell? ⟨w.heap.size + 1, 0, none⟩ = some (.string x.name)) => containsFunc_procs RPr rpr_lasts 100 #[.pointer (some ⟨w.heap.size + 1, 0, none⟩)] enters_100 (fun y => y.name.toList == x.name.toList) (.slice (some ⟨B, O, none⟩) p C) (t.take p) W ((HT.out.ext hW).take p (by rw [HN.out]; omega)) (by rw [List.length_take]; omega) (fun y hy W2 vs hW2 hR => procName_calls vs y _ x.name W2 hR (hW2.cl hc)))
   clear hnm
   cases hany : (t.take p).any (fun y => y.name.toList == x.name.toList) with
   | true =>
     rw [hany] at HCF
     obtain rfl : hb = false := by
      rw [Bool.eq_false_iff]; intro hbt
      rw [HANY.out, range_any] at hany
      obtain ⟨i, hi, hf⟩ := hany
      have := (HB.out.1 hbt).2.1 i hi
      rw [hf] at this; exact absurd this (by decide)
     clear hany
     go_enter Tryz.func83, Tryz.ntmps83
     go_wp2_with fail
     refine (HNM.out _).mono ?_
     rintro e w2 ⟨rfl, rfl⟩
     have x0 := cellOf HX1.out 0
     simp only [List.getElem?_toArray, List.getElem?_cons_zero] at x0
     have x1 := cellOf HX0.out 0
     simp only [List.getElem?_toArray, List.getElem?_cons_zero] at x1
     go_wp2_with fail
     refine (HCF.out _ HE2.out x0).mono ?_
     rintro e w3 ⟨rfl, hE3⟩
     have HE3 := Lib.hid (HE2.out.trans' hE3)
     clear hE3
     go_wp2
     go_ret
     exact ⟨13, rfl, ⟨fun h => absurd h (by decide), fun h => absurd h (by decide)⟩, HE3.out⟩
   | false =>
     rw [hany] at HCF
     have HNO := Lib.hid (show ∀ q, q < p → (t[q]!.name.toList == x.name.toList) = false from by
      rw [HANY.out, range_any_false] at hany; exact hany)
     clear hany
     by_cases h8 : 8 < nv
     ·have c8 : decide (8 < (nv : Int)) = true := by simp; omega
      have c8n : decide (8 < nv) = true := by simp; omega
      obtain rfl : hb = false := by
       rw [Bool.eq_false_iff]; intro hbt; have := (HB.out.1 hbt).2.2.1; omega
      go_enter Tryz.func83, Tryz.ntmps83
      go_wp2_with fail
      refine (HNM.out _).mono ?_
      rintro e w2 ⟨rfl, rfl⟩
      have x0 := cellOf HX1.out 0
      simp only [List.getElem?_toArray, List.getElem?_cons_zero] at x0
      have x1 := cellOf HX0.out 0
      simp only [List.getElem?_toArray, List.getElem?_cons_zero] at x1
      go_wp2_with fail
      refine (HCF.out _ HE2.out x0).mono ?_
      rintro e w3 ⟨rfl, hE3⟩
      have HX3 := Lib.hid (hE3.hp HX1.out)
      have HE3 := Lib.hid (HE2.out.trans' hE3)
      clear hE3 x0 x1
      have x0 := cellOf HX3.out 0
      have x1 := cellOf HX3.out 1
      have x2 := cellOf HX3.out 2
      simp only [List.getElem?_toArray, List.getElem?_cons_zero, List.getElem?_cons_succ] at x0 x1 x2
      go_wp2
      go_ret
      exact ⟨5, rfl, ⟨fun h => absurd h (by decide), fun h => absurd h (by decide)⟩, HE3.out⟩
     have c8 : decide (8 < (nv : Int)) = false := by simp; omega
     have c8n : decide (8 < nv) = false := by simp; omega
     go_enter Tryz.func83, Tryz.ntmps83
     go_wp2_with fail
     refine (HNM.out _).mono ?_
     rintro e w2 ⟨rfl, rfl⟩
     have x0 := cellOf HX1.out 0
     simp only [List.getElem?_toArray, List.getElem?_cons_zero] at x0
     have x1 := cellOf HX0.out 0
     simp only [List.getElem?_toArray, List.getElem?_cons_zero] at x1
     go_wp2_with fail
     refine (HCF.out _ HE2.out x0).mono ?_
     rintro e w3 ⟨rfl, hE3⟩
     have HX3 := Lib.hid (hE3.hp HX1.out)
     have HE3 := Lib.hid (HE2.out.trans' hE3)
     clear hE3 x0 x1
     have x0 := cellOf HX3.out 0
     have x1 := cellOf HX3.out 1
     have x2 := cellOf HX3.out 2
     simp only [List.getElem?_toArray, List.getElem?_cons_zero, List.getElem?_cons_succ] at x0 x1 x2
     go_wp2
     clear x0 x1 x2
     go_loopg [34] nv (fun g s34 wr => ∃ k : Nat, k ≤ nv ∧ nv - k ≤ g ∧ s34 = .int .i64 k ∧ Aside (∀ j, j < k → varB x.vars j = true) ∧ Aside (Ext w3 wr))
     case atStart => exact ⟨0, Nat.zero_le _, by omega, rfl, (fun j hj => absurd hj (Nat.not_lt_zero _)), Ext.rf _⟩
     case round =>
      obtain ⟨k, hk, hg, rfl, A, HEK⟩ := hrel
      have HEW := Lib.hid (HE3.out.trans' HEK.out)
      have HXK := Lib.hid (HEK.out.hp HX3.out)
      by_cases hlt : k < nv
      ·have hltz : (k : Int) < (nv : Int) := by omega
       have hkz : (0 : Int) ≤ (k : Int) := by omega
       have hkc : (k : Int) ≤ (vc : Int) := by omega
       obtain ⟨VB, VO, VC, hve, _, hVB, hvn0, hvi0⟩ := var_at HV.out k (by rw [HNV.out]; exact hlt)
       simp only [Value.slice.injEq] at hve
       obtain ⟨rfl, hzz, rfl⟩ := hve
       have hvn1 := HEW.out.cl hvn0
       have hvi1 := HEW.out.cl hvi0
       have HVP := Lib.hid (@varB_parts x.vars k)
       have HANV := Lib.hid (any_take x.vars k (by rw [HNV.out]; omega) fun y => y.name.toList == x.vars[k]!.name.toList)
       generalize hy : x.vars[k]! = y at *
       have HNY := Lib.hid (isNameP_calls y.name)
       have HBV := Lib.hid (heap_alloc_new wr (.cells #[.string y.name, .int .i64 y.init] 62))
       have HXV := Lib.hid (((Ext.rf wr).al (.cells #[.string y.name, .int .i64 y.init] 62)).hp HXK.out)
       have HEV := Lib.hid (HEK.out.al (.cells #[.string y.name, .int .i64 y.init] 62))
       clear hvn0 hvi0 hzz hy
       cases hny : nameB y.name with
       | false =>
         rw [hny] at HNY
         obtain rfl : hb = false := by
          rw [Bool.eq_false_iff]; intro hbt; have := (HVP.out.1 ((HB.out.1 hbt).2.2.2.1 k hlt)).1.1; rw [hny] at this; exact absurd this (by decide)
         clear hny
         go_wp2_with fail
         refine (HNY.out _).mono ?_
         rintro e w4 ⟨rfl, rfl⟩
         go_wp2
         go_ret
         exact ⟨13, rfl, ⟨fun h => absurd h (by decide), fun h => absurd h (by decide)⟩, HE3.out.trans' HEV.out⟩
       | true =>
         rw [hny] at HNY
         have HNYB := Lib.hid hny
         have HCV := Lib.hid (fun W (hW : Ext w W) (hc : W.cell? ⟨wr.heap.size, 0, none⟩ = some (.string y.name)) => containsFunc_vars RVr rvr_lasts 101 #[.pointer (some ⟨wr.heap.size, 0, none⟩)] enters_101 (fun z => z.name.toList == y.name.toList) (.slice (some ⟨VB, VO, none⟩) k vc) (x.vars.take k) W ((HV.out.ext rvr_lasts hW).take k (by rw [HNV.out]; omega)) (by rw [List.length_take]; omega) (fun z hz W2 vs hW2 hR => varName_calls vs z _ y.name W2 hR (hW2.cl hc)))
         have HIN := Lib.hid (inP_calls y.init (-1073741824) 1073741824)
         have y0 := cellOf HBV.out 0
         have x1 := cellOf HXV.out 1
         simp only [List.getElem?_toArray, List.getElem?_cons_zero, List.getElem?_cons_succ] at y0 x1
         clear hny
         cases hany : (x.vars.take k).any (fun z => z.name.toList == y.name.toList) with
         | true =>
           rw [hany] at HCV
           obtain rfl : hb = false := by
            rw [Bool.eq_false_iff]; intro hbt
            rw [HANV.out, range_any] at hany
            obtain ⟨i, hi, hf⟩ := hany
            have := (HVP.out.1 ((HB.out.1 hbt).2.2.2.1 k hlt)).1.2 i hi
            rw [hf] at this; exact absurd this (by decide)
           clear hany
           go_wp2_with fail
           refine (HNY.out _).mono ?_
           rintro e w4 ⟨rfl, rfl⟩
           go_wp2_with fail
           refine (HCV.out _ (HE3.out.trans' HEV.out) y0).mono ?_
           rintro e w5 ⟨rfl, hE5⟩
           have HE5 := Lib.hid (HE3.out.trans' (HEV.out.trans' hE5))
           clear hE5
           go_wp2
           go_ret
           exact ⟨13, rfl, ⟨fun h => absurd h (by decide), fun h => absurd h (by decide)⟩, HE5.out⟩
         | false =>
           rw [hany] at HCV
           have HNOV := Lib.hid (show ∀ j, j < k → (x.vars[j]!.name.toList == y.name.toList) = false from by
            rw [HANV.out, range_any_false] at hany; exact hany)
           clear hany
           have hvb : valueB y.init = (decide (-1073741824 ≤ y.init) && decide (y.init ≤ 1073741824)) := rfl
           rw [← hvb] at HIN
           cases hval : valueB y.init with
           | false =>
             rw [hval] at HIN
             obtain rfl : hb = false := by
              rw [Bool.eq_false_iff]; intro hbt; have := (HVP.out.1 ((HB.out.1 hbt).2.2.2.1 k hlt)).2; rw [hval] at this; exact absurd this (by decide)
             clear hval hvb
             go_wp2_with fail
             refine (HNY.out _).mono ?_
             rintro e w4 ⟨rfl, rfl⟩
             go_wp2_with fail
             refine (HCV.out _ (HE3.out.trans' HEV.out) y0).mono ?_
             rintro e w5 ⟨rfl, hE5⟩
             have HE5 := Lib.hid (HEV.out.trans' hE5)
             have HBV5 := Lib.hid (hE5.hp HBV.out)
             have z1 := cellOf HBV5.out 1
             simp only [List.getElem?_toArray, List.getElem?_cons_zero, List.getElem?_cons_succ] at z1
             clear hE5 y0 x1
             go_wp2_with fail
             refine (HIN.out _).mono ?_
             rintro e w6 ⟨rfl, rfl⟩
             go_wp2
             go_ret
             exact ⟨2, rfl, ⟨fun h => absurd h (by decide), fun h => absurd h (by decide)⟩, HE3.out.trans' HE5.out⟩
           | true =>
             rw [hval] at HIN
             have HVB := Lib.hid (HVP.out.2 ⟨⟨HNYB.out, HNOV.out⟩, hval⟩)
             clear hval hvb
             go_wp2_with fail
             refine (HNY.out _).mono ?_
             rintro e w4 ⟨rfl, rfl⟩
             go_wp2_with fail
             refine (HCV.out _ (HE3.out.trans' HEV.out) y0).mono ?_
             rintro e w5 ⟨rfl, hE5⟩
             have HE5 := Lib.hid (HEV.out.trans' hE5)
             have HBV5 := Lib.hid (hE5.hp HBV.out)
             have z1 := cellOf HBV5.out 1
             simp only [List.getElem?_toArray, List.getElem?_cons_zero, List.getElem?_cons_succ] at z1
             clear hE5 y0 x1
             go_wp2_with fail
             refine (HIN.out _).mono ?_
             rintro e w6 ⟨rfl, rfl⟩
             go_wp2
             go_roundg (nv - (k + 1))
             case measure => omega
             case rel =>
              refine ⟨k + 1, by omega, by omega, by go_num, (show Aside _ from fun j hj => ?_), (show Ext _ _ from HE5.out)⟩
              by_cases e : j = k
              ·subst e; exact HVB.out
              ·exact A.out j (by omega)
      ·have hltz : ¬ (k : Int) < (nv : Int) := by omega
       obtain rfl : nv = k := by omega
       have x0 := cellOf HXK.out 0
       have x1 := cellOf HXK.out 1
       have x2 := cellOf HXK.out 2
       simp only [List.getElem?_toArray, List.getElem?_cons_zero, List.getElem?_cons_succ] at x0 x1 x2
       by_cases h64 : 64 < ne
       ·have c64 : decide (64 < (ne : Int)) = true := by simp; omega
        have c64n : decide (64 < ne) = true := by simp; omega
        obtain rfl : hb = false := by
         rw [Bool.eq_false_iff]; intro hbt; have := (HB.out.1 hbt).2.2.2.2; omega
        go_wp2
        go_ret
        exact ⟨5, rfl, ⟨fun h => absurd h (by decide), fun h => absurd h (by decide)⟩, HEW.out⟩
       ·have c64 : decide (64 < (ne : Int)) = false := by simp; omega
        have c64n : decide (64 < ne) = false := by simp; omega
        obtain rfl : hb = true := HB.out.2 ⟨HNB.out, HNO.out, by omega, A.out, by omega⟩
        go_wp2
        go_ret
        exact ⟨0, rfl, ⟨fun _ => rfl, fun _ => rfl⟩, HEW.out⟩
end Go.Proofs.YtbpdbikphlhaiaaGreatDoor
namespace Go.Proofs.YtbpdbikphlhaiaaGreatDoor
open Go.RowKit
set_option linter.unusedVariables false
attribute [local go_sem ↓] Go.wp_at_zero Go.wp_at_succ
set_option maxHeartbeats 400000 in
theorem indexFunc_asgs {α : Type} [Inhabited α] (R : World → List Value → α → Prop) (hLasts : Lasts R) (g : Nat) (cb : Array Value) (eg : ∀ args w, (callFunc g args).run Tryz.prog w = .ok (.enter g args) w) (p : α → Bool) (v : Value) (l : List α) (w : World)
  (hv : Sl R 2 w v l) (hn : l.length ≤ 1000000) (hp : SaysOf Tryz.prog R encAgg g cb p l w) :
  Calls Tryz.prog 116 #[v, .func (.func g) #[] cb] w fun e w' => e = .returned (.int .i64 (firstAt p l)) ∧ Ext w w' := by
 obtain ⟨a, c, rfl, hlc, hv⟩ := hv
 have HLC := Lib.hid hlc; clear hlc
 have HV := Lib.hid hv; clear hv
 have HP := Lib.hid hp; clear hp
 have HT := Lib.hid hLasts; clear hLasts
 generalize hln : l.length = n at hn
 have HL := Lib.hid hln; clear hln
 go_enter Tryz.func116, Tryz.ntmps116
 go_wp2
 go_loopg [5, 8] n (fun m _ s8 wr => ∃ k : Nat, k ≤ n ∧ n - k ≤ m ∧ s8 = .int .i64 k ∧ Ext w wr ∧ Aside (∀ j, j < k → p l[j]! = false))
 case atStart => exact ⟨0, Nat.zero_le _, by omega, rfl, Below.refl _ _, (fun j hj => absurd hj (Nat.not_lt_zero _))⟩
 case round =>
  obtain ⟨k, hk, hm, rfl, he, A⟩ := hrel
  have HE := Lib.hid he; clear he
  by_cases hlt : k < n
  ·obtain ⟨b, off, rfl, hb, hc⟩ := HV.out (by intro e; have := HL.out; simp [e] at this; omega)
   obtain ⟨vs, hvs, hR, hcell⟩ := hc k (by rw [HL.out]; exact hlt)
   obtain ⟨c0, c1, rfl⟩ : ∃ c0 c1, vs = [c0, c1] := by match vs, hvs with | [c0, c1], _ => exact ⟨c0, c1, rfl⟩
   have d0 : wr.cell? ⟨b, off + k * 2, none⟩ = some c0 := (HE.out.cell hb).trans (hcell 0 (by omega))
   have d1 : wr.cell? ⟨b, off + k * 2 + 1, none⟩ = some c1 := (HE.out.cell hb).trans (hcell 1 (by omega))
   have hltz : (k : Int) < (n : Int) := by omega
   clear hc hcell
   have hcall := HP.out _ (mem_at l k (by rw [HL.out]; exact hlt)) wr _ HE.out (HT.out _ _ _ _ hR HE.out)
   unfold encAgg at hcall
   generalize hy : l[k]! = y at hcall hR
   have B := Lib.hid hy
   clear hy hR hvs HV HT HP
   cases hq : p y with
   | true =>
     rw [hq] at hcall
     have HQ := Lib.hid hq; clear hq
     go_wp2_with (go_at_fn g; refine hcall.mono ?_; rintro e w' ⟨rfl, he'⟩)
     go_ret
     exact ⟨by rw [firstAt_hit p l k (by rw [HL.out]; omega) (by rw [B.out]; exact HQ.out) A.out]; rfl, HE.out.trans' he'⟩
   | false =>
     rw [hq] at hcall
     have HQ := Lib.hid hq; clear hq
     go_wp2_with (go_at_fn g; refine hcall.mono ?_; rintro e w' ⟨rfl, he'⟩)
     go_roundg (n - (k + 1))
     case measure => omega
     case rel =>
      refine ⟨k + 1, by omega, by omega, by go_num, HE.out.trans' he', (show Aside _ from fun j hj => ?_)⟩
      by_cases e : j = k
      ·subst e
       rw [B.out]; exact HQ.out
      ·exact A.out j (by omega)
  ·have hltz : ¬ (k : Int) < (n : Int) := by omega
   go_wp2
   go_ret
   exact ⟨by rw [firstAt_miss p l (fun j hj => A.out j (by rw [HL.out] at hj; omega))]; rfl, HE.out⟩
set_option maxHeartbeats 400000 in
theorem containsFunc_asgs {α : Type} [Inhabited α] (R : World → List Value → α → Prop) (hLasts : Lasts R) (g : Nat) (cb : Array Value) (eg : ∀ args w, (callFunc g args).run Tryz.prog w = .ok (.enter g args) w) (p : α → Bool) (v : Value) (l : List α) (w : World)
  (hv : Sl R 2 w v l) (hn : l.length ≤ 1000000) (hp : SaysOf Tryz.prog R encAgg g cb p l w) :
  Calls Tryz.prog 103 #[v, .func (.func g) #[] cb] w fun e w' => e = .returned (.bool (l.any p)) ∧ Ext w w' := by
 have HI := Lib.hid (indexFunc_asgs R hLasts g cb eg p v l w hv hn hp)
 clear hv hp eg hLasts
 rw [← firstAt_any]
 go_enter Tryz.func103, Tryz.ntmps103
 go_wp2_with (go_at_call 116; refine HI.out.mono ?_; rintro e w' ⟨rfl, he'⟩)
 go_ret
 exact ⟨rfl, he'⟩
theorem enters_104 : ∀ args w, (callFunc 104 args).run Tryz.prog w = .ok (.enter 104 args) w := enters_of Tryz.func104 (by kernel_rfl) rfl
set_option maxHeartbeats 1000000 in
theorem asgVar_calls (vs : List Value) (x : Asg) (b : Nat) (s : Int) (w : World) (hx : RAsg w vs x) (hc : w.cell? ⟨b, 0, none⟩ = some (.int .i64 s)) :
  Calls Tryz.prog 104 #[.agg vs.toArray, .pointer (some ⟨b, 0, none⟩)] w fun e w' => e = .returned (.bool (decide (x.var = s))) ∧ Ext w w' := by
 have e : vs = [.int .i64 x.var, .int .i64 x.value] := hx
 subst e
 have hbl := World.block_lt_of_cell? w _ hc
 have hbn : b ≠ w.heap.size := Nat.ne_of_lt hbl
 have hx0 := cell_new w #[.int .i64 x.var, .int .i64 x.value] 106 0 _ rfl
 have hr : (x.var == s) = decide (x.var = s) := rfl
 go_enter Tryz.func104, Tryz.ntmps104
 go_wp2
 go_ret
 exact ⟨rfl, (by repeat (first | refine Ext.st ?_ (by first | exact Nat.le_refl _ | exact Nat.le_succ _ | assumption | omega) _ | refine Ext.al ?_ _ | refine Ext.dr ?_ | refine Ext.drN ?_ _ | exact Ext.rf _))⟩
theorem asgB_parts {nv : Nat} {l : List Asg} {k : Nat} : asgB nv l k = true ↔ 0 ≤ l[k]!.var ∧ l[k]!.var < nv ∧ valueB l[k]!.value = true ∧ ∀ j, j < k → decide (l[j]!.var = l[k]!.var) = false := by
 simp only [asgB, Bool.and_eq_true, decide_eq_true_eq, range_all, Bool.not_eq_true']
theorem eventB_parts {t : Tr} {p i : Nat} : eventB t p i = true ↔ formedB t.length p t[p]!.events[i]! = true ∧ 0 ≤ t[p]!.events[i]!.time ∧ t[p]!.events[i]!.time ≤ 1099511627776 ∧ (i = 0 ∨ t[p]!.events[i - 1]!.time ≤ t[p]!.events[i]!.time) ∧
  t[p]!.events[i]!.asg.length ≤ 8 ∧ ∀ k, k < t[p]!.events[i]!.asg.length → asgB t[p]!.vars.length t[p]!.events[i]!.asg k = true := by
 simp only [eventB, Bool.and_eq_true, decide_eq_true_eq, range_all]
end Go.Proofs.YtbpdbikphlhaiaaGreatDoor
