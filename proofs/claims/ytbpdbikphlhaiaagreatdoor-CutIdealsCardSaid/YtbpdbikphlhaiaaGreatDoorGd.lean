import Derived.Test.YtbpdbikphlhaiaaGreatDoorGa
import Derived.Test.YtbpdbikphlhaiaaGreatDoorProg
import Derived.Test.YtbpdbikphlhaiaaGreatDoorGb
import Derived.Test.YtbpdbikphlhaiaaGreatDoorGc
import Derived.BigQuiet
import Derived.Deep.QuietTactic
import Derived.Deep.LoopGhost
import Derived.Shelf.Abstract
import Derived.Deep.RegionLaw
import Derived.Laws.EntriesVeiled
import Derived.Maps.Own
import Derived.Maps.OwnOps
import Derived.Maps.Keyed
import Derived.Maps.Views
import Derived.WalkArith
import Derived.Maps.OwnIn
import Derived.DeepKeys4
import Derived.WideKeyPair
import Derived.RangeFuncNested
import Derived.RangeFuncBound
import Derived.RangeFuncCalls
import Derived.RangeFuncLeaves
import Derived.Shelf.RegionOpen
import Derived.OwnWalkIn
import Derived.TacticsInMore
import Derived.LoopNIn
import Derived.LoopIn
import Derived.Sort.LoopGhostIn
import Derived.Sort.CutIn
namespace Go.Proofs.YtbpdbikphlhaiaaGreatDoor
open Go.RowKit
set_option linter.unusedVariables false
attribute [local go_sem ↓] Go.wp_at_zero Go.wp_at_succ
set_option maxHeartbeats 4000000 in
set_option maxRecDepth 100000 in
theorem afterP_calls (v : Value) (t : Tr) (p i B : Nat) (w : World) (h : TrAt w v t) (hs : SmallTr t) (hx : Inn t (p, i)) (hl : Lett w B t (ids t)) (hm : (ev t (p, i)).kind = 2 → ∃ m : Nat, (ev t (p, i)).msg = m ∧ m ≤ 199) :
  Calls Tryz.prog 106 #[.agg #[v], .pointer (some ⟨B, 0, none⟩), .agg #[.int .i64 p, .int .i64 ((i : Int) + 1)]] w fun e w' => EidsOut w w' e (aft t (p, i)) := by
 obtain ⟨ix, hix⟩ : ∃ x : Int, (i : Int) + 1 = x := ⟨_, rfl⟩
 rw [hix]
 obtain ⟨ie, hie, iz0, iz1, iz2⟩ := info_parts info_eid
 obtain ⟨hp, hi⟩ := hx
 simp only at hp hi
 have hAFT : aft t (p, i) = (if i + 1 < t[p]!.events.length then [(p, i + 1)] else []) ++ (if (ev t (p, i)).kind = 2 then (findE t 3 (ev t (p, i)).msg).toList else []) := rfl
 have hEV : ev t (p, i) = t[p]!.events[i]! := rfl
 rw [hEV] at hAFT hm
 obtain ⟨TB, TO, TC, vv, ve, rfl, hlC, hB, hn0, hv0, he0, hV, hE0⟩ := proc_at h p hp
 obtain ⟨EB, EO, EC, va, rfl, hlE, hEB, k0, k1, k2, k3, k4, ha⟩ := event_at hE0 i hi
 obtain ⟨ua, uc, rfl, huc⟩ := ha.sh
 have hn := hs.1
 have hen := (hs.2 p hp).2.1
 generalize hxx : t[p]! = x at *
 generalize hev : x.events[i]! = y at *
 generalize hln : t.length = n at *
 generalize hne : x.events.length = ne at *
 obtain ⟨kd, pe, ms, ti, al⟩ := y
 simp only at *
 generalize al.length = na at *
 generalize hao : aft t (p, i) = out at *
 have HAF := Lib.hid hAFT
 have HM := Lib.hid hm
 have HL := Lib.hid hl
 have HIX := Lib.hid hix
 have hb1 : 1 ≤ ix := by omega
 have hb2 : ix ≤ 1000000 := by omega
 have hpz : (0 : Int) ≤ (p : Int) := by omega
 have hpi : (p : Int) < (n : Int) := by omega
 have hix2 : ix - 1 < (ne : Int) := by omega
 have hix3 : (ix - 1).toNat = i := by omega
 have hix4 : 0 ≤ ix - 1 := by omega
 have hE2 : Ext w ((w.alloc (.cells #[.slice (some ⟨TB, TO, none⟩) n TC] 24)).alloc (.cells #[.int .i64 p, .int .i64 ix] 39)) := ((Ext.rf w).al _).al _
 have HX0 := Lib.hid (((Ext.rf _).al (.cells #[.int .i64 p, .int .i64 ix] 39)).hp (heap_alloc_new w (.cells #[.slice (some ⟨TB, TO, none⟩) n TC] 24)))
 have HX1 := Lib.hid (heap_new_eq (w := w.alloc (.cells #[.slice (some ⟨TB, TO, none⟩) n TC] 24)) (o := .cells #[.int .i64 p, .int .i64 ix] 39) (b := w.heap.size + 1) (by simp))
 have HE2 := Lib.hid hE2
 have HK := Lib.hid (And.intro k0 (And.intro k1 (And.intro k2 (And.intro k3 k4))))
 have he1 := hE2.cl he0
 obtain ⟨bt, hbt⟩ : ∃ b, decide (ix < (ne : Int)) = b := ⟨_, rfl⟩
 clear h hs hn0 hv0 he0 hV hE0 ha hxx hev hln hne hao hAFT hm hl hix hE2 k0 k1 k2 k3 k4 hEV
 go_enter Tryz.func106, Tryz.ntmps106
 go_upto_if 21 with (fail)
 generalize hw2 : (w.alloc (.cells #[.slice (some ⟨TB, TO, none⟩) n TC] 24)).alloc (.cells #[.int .i64 p, .int .i64 ix] 39) = w2 at *
 clear hw2
 have HBT := Lib.hid hbt
 clear hbt he1
 go_cut [7] (fun s7 wx => ∃ L : List Eid, Aside (L = if i + 1 < ne then [(p, i + 1)] else []) ∧ Aside (Row wx w.heap.size 39 2 s7 L.length (L.flatMap eidC)) ∧ Aside (Ext w2 wx))
 case first =>
  cases bt with
  | false =>
    have HI := Lib.hid (show ¬ i + 1 < ne from by have h9 : ¬ ix < (ne : Int) := of_decide_eq_false HBT.out; have := HIX.out; omega)
    go_wp2
    go_meet
    exact ⟨[], (show _ = _ from by rw [if_neg HI.out]), Row.mkNil _ _ _ _, Ext.rf _⟩
  | true =>
    have HI := Lib.hid (show i + 1 < ne from by have h9 : ix < (ne : Int) := of_decide_eq_true HBT.out; have := HIX.out; omega)
    have j0 := cellOf HX1.out 0
    have j1 := cellOf HX1.out 1
    simp only [List.getElem?_toArray, List.getElem?_cons_zero, List.getElem?_cons_succ] at j0 j1
    have hsz := HE2.out.sz
    go_wp2_with ((at_builtin; go_loud (refine wpList_append_one rfl _ _ 71 rfl w.heap.size 39 ie (.agg #[.int .i64 0, .int .i64 0]) 2 16 Tryz.underlying71 hie iz0 iz1 iz2 rfl (by decide) _ 0 [] rfl (Row.mkNil _ _ _ _) w2.heap.size 1 [.int .i64 p, .int .i64 (ix + 1)] rfl rfl ⟨_, heap_alloc_new _ _⟩ (by simp [Value.oneCell']) (by unfold maxLen; omega) (by omega) (by simp; omega) ?_; intro v5 w5 hown5 hgrow5 hblk5; have HOWN := Lib.hid hown5; have HGR := Lib.hid (show (w2.alloc (.cells #[.int .i64 p, .int .i64 (ix + 1)] 39)).grownBy w5 none from hgrow5); clear hown5 hgrow5 hblk5)))
    go_meet
    refine ⟨[(p, i + 1)], (show _ = _ from by rw [if_pos HI.out]), (show Row _ _ _ _ _ _ _ from ?_), ((Ext.rf w2).al _).gr HGR.out (by simp)⟩
    have := HOWN.out
    have e : ix + 1 = ((i + 1 : Nat) : Int) + 1 := by have := HIX.out; omega
    rw [e] at this
    simpa [eidC] using this
 case rest =>
  obtain ⟨L, HLL, HR, HE⟩ := hcut
  have HEW := Lib.hid (HE2.out.trans' HE.out)
  have HXB := Lib.hid (HE.out.hp HX1.out)
  have j1 := cellOf HXB.out 1
  simp only [List.getElem?_toArray, List.getElem?_cons_zero, List.getElem?_cons_succ] at j1
  have m0 := HEW.out.cl HK.out.1
  have m1 := HEW.out.cl HK.out.2.1
  have m2 := HEW.out.cl HK.out.2.2.1
  have m3 := HEW.out.cl HK.out.2.2.2.1
  have m4 := HEW.out.cl HK.out.2.2.2.2
  have HBE := Lib.hid (heap_alloc_new wc (e5 (.int .i64 kd) (.int .i64 pe) (.int .i64 ms) (.int .i64 ti) (.slice ua na uc)))
  have HE4 := Lib.hid (HEW.out.al (e5 (.int .i64 kd) (.int .i64 pe) (.int .i64 ms) (.int .i64 ti) (.slice ua na uc)))
  have HR4 := Lib.hid (HR.out.al (e5 (.int .i64 kd) (.int .i64 pe) (.int .i64 ms) (.int .i64 ti) (.slice ua na uc)))
  have hLn : L.length ≤ 1 := by rw [HLL.out]; split <;> simp
  go_upto_region 6 with (fail)
  generalize hw4 : wc.alloc (e5 (.int .i64 kd) (.int .i64 pe) (.int .i64 ms) (.int .i64 ti) (.slice ua na uc)) = w4 at *
  have hwl : wc.heap.size < w4.heap.size := by rw [← hw4]; simp
  clear hw4 m0 m1 m2 m3 m4 j1
  have y0 := cellOf HBE.out 0
  have y2 := cellOf HBE.out 2
  simp only [List.getElem?_toArray, List.getElem?_cons_zero, List.getElem?_cons_succ] at y0 y2
  by_cases h2 : kd = 2
  ·obtain ⟨m, rfl, hm9⟩ := HM.out h2
   have HKD := Lib.hid h2
   subst h2
   obtain ⟨cs, hcs, hLA⟩ := HL.out
   have hc4 := HE4.out.hp hcs
   have lA := (cellOf hc4 (m * 4 + 2)).trans (hLA.2 m hm9).2.2.1
   have lB := (cellOf hc4 (m * 4 + 3)).trans (hLA.2 m hm9).2.2.2
   have hmz : (0 : Int) ≤ (m : Int) := by omega
   have hm2 : (m : Int) < 200 := by omega
   have hm3 : m < 200 := by omega
   obtain ⟨o, ho⟩ : ∃ o, findE t 3 (m : Int) = o := ⟨_, rfl⟩
   have ho2 : firstIn (ids t) t 3 (m : Int) = o := ho
   rw [ho2] at lA lB
   have HO := Lib.hid ho
   clear ho ho2 hcs hc4 hLA
   cases o with
   | none =>
     have HAF2 : Hid (out = L) := Lib.hid (by rw [HAF.out, HLL.out, if_pos rfl, HO.out]; simp)
     simp only [eidA, eidB] at lA lB
     clear HM HL HAF
     go_wp2
     go_quiet (fail)
     go_wp2
     go_ret
     exact ⟨_, rfl, by rw [HAF2.out]; exact HR4.out.ext ((Ext.rf _).drN _), HE4.out.drN _⟩
   | some z =>
     have HAF2 : Hid (out = L ++ [z]) := Lib.hid (by rw [HAF.out, HLL.out, if_pos rfl, HO.out]; rfl)
     have hzb : 0 < eidB (some z) := by show (0 : Int) < (z.2 : Int) + 1; omega
     have HZ := Lib.hid (show eidA (some z) = (z.1 : Int) ∧ eidB (some z) = (z.2 : Int) + 1 from ⟨rfl, rfl⟩)
     generalize eidA (some z) = za at *
     generalize eidB (some z) = zb at *
     clear HM HL HAF
     generalize hLL : L.length = ln at *
     have HLN := Lib.hid hLL
     clear hLL
     go_wp2
     go_quiet (fail)
     rename_i nq
     have HE5 := Lib.hid (HE4.out.drN nq)
     have HR5 := Lib.hid (HR4.out.ext ((Ext.rf w4).drN nq))
     have lA5 : (w4.drewN nq).cell? ⟨B, m * 4 + 2, none⟩ = some (.int .i64 za) := lA
     have lB5 : (w4.drewN nq).cell? ⟨B, m * 4 + 3, none⟩ = some (.int .i64 zb) := lB
     have y25 : (w4.drewN nq).cell? ⟨wc.heap.size, 2, none⟩ = some (.int .i64 (m : Int)) := y2
     have hsz5 : w.heap.size ≤ (w4.drewN nq).heap.size := HE5.out.sz
     generalize w4.drewN nq = w5 at *
     clear lA lB y0 y2 HE4 HR4 HBE
     go_wp2
     go_region_law (first | (refine step_append_rowN rfl _ _ 71 rfl w.heap.size 39 ie (.agg #[.int .i64 0, .int .i64 0]) 2 16 Tryz.underlying71 hie iz0 iz1 iz2 rfl (by decide) _ ln _ rfl (HR5.out.ext (((Ext.rf w5).dr).al _)) _ 1 [.int .i64 za, .int .i64 zb] rfl rfl ⟨_, heap_new_eq rfl⟩ (by simp [Value.oneCell']) (by unfold maxLen; omega) (by omega) (by simp; omega) ?_; intro vN wN hownN hgrowN hblkN; have HOWN := Lib.hid hownN; have HEN := Lib.hid (show Ext w wN from ((HE5.out.dr).al (.cells #[.int .i64 za, .int .i64 zb] 39)).gr hgrowN (fun k hk => (HR5.out.lt k hk).1)); clear hownN hgrowN hblkN))
     all_goals
      go_wp2
      go_ret
      refine ⟨_, rfl, ?_, HEN.out⟩
      rw [HAF2.out, List.length_append, List.flatMap_append, HLN.out]
      have := HOWN.out
      rw [HZ.out.1, HZ.out.2] at this
      simpa [eidC] using this
  ·have c2 : (kd == 2) = false := by simp [h2]
   have HAF2 : Hid (out = L) := Lib.hid (by rw [HAF.out, HLL.out, if_neg h2, List.append_nil])
   clear h2 HM HL HAF
   go_wp2
   go_quiet (fail)
   go_wp2
   go_ret
   exact ⟨_, rfl, by rw [HAF2.out]; exact HR4.out.ext ((Ext.rf _).drN _), HE4.out.drN _⟩
end Go.Proofs.YtbpdbikphlhaiaaGreatDoor
namespace Go.Proofs.YtbpdbikphlhaiaaGreatDoor
open Go.RowKit Go.Maps
set_option linter.unusedVariables false
def BMap (w : World) (P : Program) (k e : TypeId) (b n N : Nat) (F : List Bool) : Prop :=
 ∃ D : DataW Unit, w.ownsMap P k (plainElem P e) b n D ∧ IsMap D ∧ ∀ y : Int, 0 ≤ y → y < (N : Int) → D.atKey (.int .i64 y) (.lit (.bool false)) = .lit (.bool F[y.toNat]!)
variable {P : Program} {k e t : TypeId} {b n N : Nat} {F : List Bool} {w : World}
end Go.Proofs.YtbpdbikphlhaiaaGreatDoor
namespace Go.Proofs.YtbpdbikphlhaiaaGreatDoor
open Go.RowKit
set_option linter.unusedVariables false
open Go.Maps
theorem laid_prog : laidOutB Tryz.prog = true := by kernel_rfl
theorem eid_law : WideMaps.KeyLaw Tryz.prog 39 := deep_law_laid laid_prog (m := 3) (by omega) (of_decide_eq_true (by kernel_rfl)) (by kernel_rfl) (by kernel_rfl)
theorem eid_keyed : Keyed Tryz.prog 39 := Keyed.of_law eid_law
def ekey (x : Eid) : Lit := .string (keyBytes [.int .i64 x.1, .int .i64 ((x.2 : Int) + 1)])
theorem wf_i64 {z : Int} (h0 : 0 ≤ z) (h1 : z ≤ 1000000) : (Lit.int .i64 z).wf = true := by
 simp [Lit.wf, IntKind.min, IntKind.max, IntKind.signed, IntKind.bits]; omega
theorem eid_cells : Tryz.prog.cellsOf 39 = 2 := by kernel_rfl
theorem int_cells : Tryz.prog.cellsOf 3 = 1 := by kernel_rfl
theorem eid_kt : Tryz.prog.keyType 39 = true := by kernel_rfl
theorem two_types : 2 ≤ Tryz.prog.types.size := of_decide_eq_true (by kernel_rfl)
theorem ekey_of {x : Eid} (h1 : x.1 < 1000000) (h2 : x.2 < 1000000) : keyOf Tryz.prog 39 (.agg #[.int .i64 x.1, .int .i64 ((x.2 : Int) + 1)]) = some (ekey x) := by
 have wa : (Lit.int .i64 (x.1 : Int)).wf = true := wf_i64 (by omega) (by omega)
 have wb : (Lit.int .i64 ((x.2 : Int) + 1)).wf = true := wf_i64 (by omega) (by omega)
 obtain ⟨m, hm⟩ : ∃ m, Tryz.prog.types.size = m + 2 := ⟨Tryz.prog.types.size - 2, by have := two_types; omega⟩
 unfold keyOf ekey
 simp only [Tryz.underlying39]
 rw [if_pos (by rw [eid_kt]; simp [Value.formed, Tryz.underlying39, eid_cells]), hm]
 simp [Program.keyLits, Tryz.underlying39, Tryz.underlying3, eid_cells, int_cells, Value.cells, wa, wb]
theorem ekey_inj {x y : Eid} (hx1 : x.1 < 1000000) (hx2 : x.2 < 1000000) (hy1 : y.1 < 1000000) (hy2 : y.2 < 1000000) (h : ekey x = ekey y) : x = y := by
 have := eid_keyed.inj (ekey_of hx1 hx2) (h ▸ ekey_of hy1 hy2)
 obtain ⟨a, b⟩ := x
 obtain ⟨c, d⟩ := y
 simp at this
 simp only [Prod.mk.injEq]
 omega
theorem plain_bool_inv {P : Program} {e : TypeId} (he : P.underlying e = some .bool) {v : Value} {c : Bool} {ps : List MemPlace} (h : plainElem (H := Unit) P e v = some (.lit (.bool c), ps)) : v = .bool c := by
 unfold plainElem at h
 rw [he] at h
 cases v <;> simp at h
 rw [h.1]
theorem zero_bool1 (w : World) : (zeroValue 4).run Tryz.prog w = .ok (.bool false) w := by kernel_rfl
def EMap (w : World) (b n : Nat) (t : Tr) (S : List Eid) : Prop :=
 ∃ D : DataW Unit, w.ownsMap Tryz.prog 39 (plainElem Tryz.prog 4) b n D ∧ IsMap D ∧ ∀ y, Inn t y → D.atKey (ekey y) (.lit (.bool false)) = .lit (.bool (decide (y ∈ S)))
theorem EMap.made (w : World) (t : Tr) : EMap (w.alloc (.map #[] 0)) w.heap.size 0 t [] :=
 ⟨.map [], World.ownsMap_made _ _ _ _, isMap_empty, fun y _ => by simp; rfl⟩
theorem EMap.ext {w w' : World} {b n : Nat} {t : Tr} {S : List Eid} (h : EMap w b n t S) (x : Ext w w') : EMap w' b n t S := by
 obtain ⟨D, ⟨es, clock, hb, r⟩, h2⟩ := h
 exact ⟨D, ⟨es, clock, x.hp hb, r⟩, h2⟩
theorem inn_small {t : Tr} (hs : SmallTr t) {x : Eid} (hx : Inn t x) : x.1 < 1000000 ∧ x.2 < 1000000 := by
 have h1 := hs.1
 have h2 := (hs.2 x.1 hx.1).2.1
 have h3 := hx.1
 have h4 := hx.2
 omega
section
variable {F : Fence} {nF : Nat} {w : World} {ops : Array Oper} {rest : List Oper} {o : Oper} {a : Act} {Q : Exit → Act → World → Prop}
theorem wpListIn_look_e (hg : o.guard = none) (m x : Operand) (hop : o.op = Op.lookup 153 m x false) (b n : Nat) (t : Tr) (S : List Eid) (hown : EMap w b n t S) (hs : SmallTr t)
  (y : Eid) (hy : Inn t y) (hm : a.eval m = .map (some b)) (hx : a.eval x = .agg #[.int .i64 y.1, .int .i64 ((y.2 : Int) + 1)])
  (hK : wpListIn F nF Tryz.prog ops Q rest (a.put o.dst (.bool (decide (y ∈ S)))) w) :
  wpListIn F nF Tryz.prog ops Q (o :: rest) a w := by
 refine wpListIn_plain hg fun K' hK' => ?_
 obtain ⟨D, h, _, hD⟩ := hown
 obtain ⟨v, ps, hr, hv⟩ := h.lookup eid_keyed Tryz.underlying153 (zero_bool1 w) (plainElem_bool Tryz.underlying4 false) (ekey_of (inn_small hs hy).1 (inn_small hs hy).2)
 rw [hD y hy] at hv
 obtain rfl := plain_bool_inv Tryz.underlying4 hv
 have hrun : (Instr.lookup 153 (.map (some b)) (.agg #[.int .i64 y.1, .int .i64 ((y.2 : Int) + 1)]) false).run Tryz.prog w = .ok (.bool (decide (y ∈ S))) w := by rw [hr]
 unfold Oper.wpIn
 refine ⟨by simp [Oper.about, hop], ?_⟩
 rw [Oper.semAt_plain F _ _ (by rw [hop]; intro c hc'; cases hc')]
 simp [execOp, hop, hm, hx, hrun, Result.andThen]
 exact hK' _ _ (by simpa using hK)
theorem wpListIn_put_e (hg : o.guard = none) (m x v : Operand) (hop : o.op = Op.mapUpdate 153 m x v) (b n : Nat) (t : Tr) (S : List Eid) (hown : EMap w b n t S) (hs : SmallTr t) (hn : n < maxLen)
  (y : Eid) (hy : Inn t y) (hm : a.eval m = .map (some b)) (hx : a.eval x = .agg #[.int .i64 y.1, .int .i64 ((y.2 : Int) + 1)]) (hv : a.eval v = .bool true)
  (hK : ∀ w', EMap w' b (n + 1) t (y :: S) → w.grownBy w' (some b) → wpListIn F nF Tryz.prog ops Q rest (a.put o.dst undef) w') :
  wpListIn F nF Tryz.prog ops Q (o :: rest) a w := by
 obtain ⟨D, h, hi, hD⟩ := hown
 refine wpListIn_mapUpdate_own w hg m x v 153 hop 39 4 eid_keyed Tryz.underlying153 _ b n D hm h hn _ _ (ekey y) hx hv (ekey_of (inn_small hs hy).1 (inn_small hs hy).2) (.lit (.bool true)) [] (plainElem_bool Tryz.underlying4 true) ?_
 intro w' h' hg'
 refine hK w' ⟨_, h', hi.put _ _, fun z hz => ?_⟩ hg'
 by_cases e : z = y
 ·subst e
  rw [atKey_put_same hi (by trivial)]
  simp
 ·rw [atKey_put_other (fun e2 => e (ekey_inj (inn_small hs hz).1 (inn_small hs hz).2 (inn_small hs hy).1 (inn_small hs hy).2 e2)), hD z hz]
  simp [e]
theorem wpListIn_append_rowI {P : Program} (hgd : o.guard = none) (s x : Operand) (t : TypeId)
  (ho : o.op = .call { callee := .builtin .append, args := #[s, x], argTypes := #[t, t] })
  (base : Nat) (e : TypeId) (i : TypeInfo) (z : Value) (size bytes : Nat) (ht : P.underlying t = some (.slice e)) (hi : P.info? e = some i) (hz : i.zero = some z)
  (hsize : i.size = size) (hby : i.bytes = bytes) (hzs : z.cells.size = size) (hsz : 0 < size)
  (v : Value) (n : Nat) (xs : List Value) (hs : a.eval s = v) (hown : Row w base e size v n xs)
  (k c : Nat) (news : List Value) (hx : a.eval x = .slice (some ⟨k, 0, none⟩) 1 c) (hl : news.length = size) (hnews : ∃ fr, w.heap[k]? = some (.cells news.toArray e fr)) (h1 : ∀ u ∈ news, u.oneCell' = true)
  (h63 : n + 1 ≤ maxLen) (hbytes : (n + 1) * bytes ≤ 140737488355328) (hbase : base ≤ w.heap.size)
  (h : ∀ v' w', Row w' base e size v' (n + 1) (xs ++ news) → w.grownBy w' v.ownBlock → (v'.ownBlock = v.ownBlock ∨ ∃ k, v'.ownBlock = some k ∧ w.heap.size ≤ k) → wpListIn F nF P ops Q rest (a.put o.dst v') w') : wpListIn F nF P ops Q (o :: rest) a w := by
 refine wpListIn_plain hgd fun K' hK' => ?_
 obtain ⟨v', w', hr, h2, h3, h4⟩ := run_append_row (P := P) w base t o.type e i z size bytes ht hi hz hsize hby hzs hsz v n xs hown (some ⟨k, 0, none⟩) 1 c news (by omega)
  (fun _ => ⟨_, rfl, fun j u hj => by
   obtain ⟨fr, hf⟩ := hnews
   have := (List.getElem?_eq_some_iff.1 hj)
   simp [Addr.add_lit, World.cell?, hf, hj]⟩) h1 h63 hbytes hbase
 unfold Oper.wpIn
 refine ⟨by simp [Oper.about, ho, resolve, Target.leads, Sem.run_pure], ?_⟩
 rw [Oper.semAt_plain F _ _ (by rw [ho]; intro c hc'; cases hc')]
 unfold execOp
 simp only [ho, resolve, invoke, builtin, Sem.run_bind, Sem.run_pure, Result.andThen_ok, List.map_toArray, List.map_cons, List.map_nil, hs, hx, hr]
 exact hK' _ _ (h v' w' h2 h3 h4)
end
theorem Row.init {w : World} {base : Nat} {e : TypeId} {size n cap : Nat} {ad : Option Addr} {xs : List Value} (h : Row w base e size (.slice ad (n + 1) cap) (n + 1) xs) : Row w base e size (.slice ad n cap) n (xs.take (n * size)) := by
 obtain ⟨hl, h⟩ := h
 refine ⟨by rw [List.length_take, hl, Nat.add_mul]; omega, ?_⟩
 rcases h with ⟨h, h0⟩ | ⟨g, off, cap', cur, hv, h2, h3, h4, h5, h6, h7⟩
 ·omega
 ·simp only [Value.slice.injEq] at hv
  obtain ⟨rfl, _, rfl⟩ := hv
  refine .inr ⟨g, off, cap, cur, rfl, h2, h3, by omega, h5, h6, ?_⟩
  rw [← h7, List.take_take, Nat.min_eq_left (Nat.mul_le_mul_right _ (by omega))]
end Go.Proofs.YtbpdbikphlhaiaaGreatDoor
namespace Go.Proofs.YtbpdbikphlhaiaaGreatDoor
open Go.RowKit
set_option linter.unusedVariables false
open Go.Shelf
attribute [local go_sem] Oper.semAt_some
theorem ext_keeps2 {B : Nat} {W W' : World} (h : Ext W W') : KeepsFrom B W W' := ⟨h.size, fun k o hk hko ho => h.hp hko⟩
theorem formed_send {n p : Nat} {y : Ev} (h : formedB n p y = true) (hk : y.kind = 2) : ∃ m : Nat, y.msg = m ∧ m ≤ 199 := by
 unfold formedB at h
 rw [if_neg (by rw [hk]; decide)] at h
 simp only [Bool.and_eq_true, decide_eq_true_eq] at h
 exact ⟨y.msg.toNat, by omega, by omega⟩
theorem eid_at : ∀ (L : List Eid) (k : Nat), k < L.length → (L.flatMap eidC)[k * 2]? = some (.int .i64 (L[k]!.1 : Int)) ∧ (L.flatMap eidC)[k * 2 + 1]? = some (.int .i64 ((L[k]!.2 : Int) + 1)) := by
 intro L
 induction L with
 | nil => intro k h; simp at h
 | cons a L ih =>
   intro k h
   cases k with
   | zero => simp [eidC]
   | succ k =>
     have := ih k (by simpa using h)
     rw [show (k + 1) * 2 = k * 2 + 1 + 1 from by omega]
     simpa [eidC] using this
theorem EMap.grown {w w' : World} {b n : Nat} {t : Tr} {S : List Eid} {row : Option Nat} (h : EMap w b n t S) (hg : w.grownBy w' row) (hne : some b ≠ row) : EMap w' b n t S := by
 obtain ⟨D, h, r⟩ := h
 exact ⟨D, h.kept hg hne, r⟩
theorem Row.notMap {w : World} {base : Nat} {e : TypeId} {size : Nat} {v : Value} {n : Nat} {xs : List Value} {b k : Nat} {t : Tr} {S : List Eid} (h : Row w base e size v n xs) (hm : EMap w b k t S) : v.ownBlock ≠ some b := by
 intro e
 obtain ⟨D, ⟨es, clock, hb, _⟩, _⟩ := hm
 rcases h.2 with ⟨rfl, _⟩ | ⟨g, off, cap, cur, rfl, _, hg, _⟩
 ·simp [Value.ownBlock] at e
 ·simp [Value.ownBlock] at e
  subst e
  rw [hg] at hb
  cases hb
def CycOut (t : Tr) (w w' : World) (e : Ending) : Prop := ∃ (a b : Int) (c : Bool), e = .returned (.tuple #[.agg #[.int .i64 a, .int .i64 b], .bool c]) ∧ (c = true ↔ Cyc t) ∧ Ext w w'
def CycI (t : Tr) (w : World) (v : Value) (B : Nat) (pre : List (EvA t w)) (W : World) : Prop :=
 (W.heap[w.heap.size]? = some (.cells #[v] 24) ∧ W.heap[w.heap.size + 1]? = some (.cells #[.pointer (some ⟨B, 0, none⟩)] 131) ∧ W.heap[w.heap.size + 1 + 1]? = some (idO 0 0) ∧
  W.heap[w.heap.size + 1 + 1 + 1]? = some (.cells #[.bool false] 4)) ∧
 (∀ y, y ∈ nms pre → ¬ Relation.TransGen (Dir t) y y) ∧ Ext w W ∧ w.heap.size + 5 ≤ W.heap.size
def CycX (t : Tr) (w : World) (c : Code) (pre : List (EvA t w)) (W : World) : Prop :=
 c = .ret ∧ Cyc t ∧ (∃ a b : Int, W.heap[w.heap.size + 1 + 1]? = some (idO a b) ∧ W.heap[w.heap.size + 1 + 1 + 1]? = some (.cells #[.bool true] 4)) ∧ Ext w W
theorem cycI_own (t : Tr) (w : World) (v : Value) (b B : Nat) (hB : w.heap.size ≤ B) : OwnFrom B (CycI t w v b) := fun s A A' row hs hg hr => by
 obtain ⟨⟨h0, h1, h2, h3⟩, ho, hE, hz⟩ := hs
 have hr' := fun r e => (hr r e).2
 exact ⟨⟨heap_kept h0 hg hr', heap_kept h1 hg hr', heap_kept h2 hg hr', heap_kept h3 hg hr'⟩, ho, ownFrom_below (β := Unit) (Nat.le_refl _) hB () A A' row hE hg hr, Nat.le_trans hz hg.size⟩
theorem cycX_own (t : Tr) (w : World) (c : Code) (B : Nat) (hB : w.heap.size ≤ B) : OwnFrom B (CycX t w c) := fun s A A' row hs hg hr => by
 obtain ⟨hc, hx, ⟨a, b, h2, h3⟩, hE⟩ := hs
 have hr' := fun r e => (hr r e).2
 exact ⟨hc, hx, ⟨a, b, heap_kept h2 hg hr', heap_kept h3 hg hr'⟩, ownFrom_below (β := Unit) (Nat.le_refl _) hB () A A' row hE hg hr⟩
set_option maxHeartbeats 8000000 in
set_option maxRecDepth 100000 in
theorem cyclicP_calls (v : Value) (t : Tr) (B : Nat) (w : World) (h : TrAt w v t) (hs : SmallTr t) (hf : ∀ x, Inn t x → formedB t.length x.1 (ev t x) = true) (hp : pairB t = true) (hl : Lett w B t (ids t)) (hN : (ids t).length ≤ 1000000) :
  Calls Tryz.prog 86 #[.agg #[v], .pointer (some ⟨B, 0, none⟩)] w fun e w' => CycOut t w w' e := by
 have HT := Lib.hid h
 have HS := Lib.hid hs
 have HF := Lib.hid hf
 have HP := Lib.hid hp
 have HLT := Lib.hid hl
 obtain ⟨ta, tc, rfl, htc⟩ := h.sh
 have hn1 := hs.1
 generalize hln : t.length = N at *
 have HL := Lib.hid hln
 clear h hs hf hp hl hln
 have hmix : Tryz.prog.follows Departure.mixedOrders = true := by kernel_rfl
 refine (callsIn_wide (n := 9)).1 ?_
 refine callsIn_of_wp_marks Tryz.func86 rfl trivial ?_ rfl
 simp only [Tryz.ntmps86, List.size_toArray, List.length_cons, List.length_nil, Nat.reduceAdd, Nat.reduceSub, Array.replicate_succ, Array.replicate_zero, List.push_toArray, List.append_toArray, List.nil_append, List.cons_append]
 gi_wp2_with fail
 refine ⟨trivial, (events_in 8 _ _).mono ?_⟩
 rintro e w' ⟨rfl, rfl⟩
 gi_wp2
 obtain ⟨W0, hW0⟩ : ∃ W0, ((((w.alloc (.cells #[.slice ta N tc] 24)).alloc (.cells #[.pointer (some ⟨B, 0, none⟩)] 131)).alloc (idO 0 0)).alloc (.cells #[.bool false] 4)).alloc (.cells #[.slice ta N tc] 24) = W0 := ⟨_, rfl⟩
 have HB := Lib.hid (fun i o => allocs_at [.cells #[.slice ta N tc] 24, .cells #[.pointer (some ⟨B, 0, none⟩)] 131, idO 0 0, .cells #[.bool false] 4, .cells #[.slice ta N tc] 24] w i o)
 have HB : Hid (∀ i o, _ → W0.heap[w.heap.size + i]? = some o) := Lib.hid (fun i o h => hW0 ▸ HB.out i o h)
 have hsz : W0.heap.size = w.heap.size + 5 := by rw [← hW0]; simp
 have hE0 : Ext w W0 := by rw [← hW0]; exact (by repeat (first | refine Ext.st ?_ (by first | exact Nat.le_refl _ | exact Nat.le_succ _ | assumption | omega) _ | refine Ext.al ?_ _ | refine Ext.dr ?_ | refine Ext.drN ?_ _ | exact Ext.rf _))
 rw [hW0]
 clear hW0
 have hi0 : CycI t w (.slice ta N tc) B [] W0 := ⟨⟨HB.out 0 _ rfl, HB.out 1 _ rfl, HB.out 2 _ rfl, HB.out 3 _ rfl⟩, fun y hy => by simp [nms] at hy, hE0, by omega⟩
 have hc6 : W0.cell? ⟨w.heap.size + 1 + 1 + 1 + 1, 0, none⟩ = some (.slice ta N tc) := by have := cellOf (HB.out 4 _ rfl) 0; simpa using this
 refine wpIn_rangeFunc_ownH rfl (by decide) (gf := 97) (lb := #[.pointer (some ⟨w.heap.size + 1 + 1 + 1 + 1, 0, none⟩)]) rfl trivial enters_97
  (events_stops 8 (by decide) (w.heap.size + 1 + 1 + 1 + 1) _ t w W0 HT.out HS.out hE0 (by omega) hc6) belowK_t (belowK_b (by omega)) (Below.refl _ _) (fun _ => rfl)
  (CycI t w (.slice ta N tc) B) (CycX t w) (cycI_own t w _ _ _ (by omega)) (fun c => cycX_own t w c _ (by omega)) hi0
  (fun x a' W => ∃ Bx ua uc, w.heap.size + 5 ≤ Bx ∧ W.heap[Bx]? = some (idO (x.1.1.1 : Int) ((x.1.1.2 : Int) + 1)) ∧ a' = { tmps := #[.agg #[.slice ta N tc], .pointer (some ⟨B, 0, none⟩), .pointer (some ⟨w.heap.size, 0, none⟩), .pointer (some ⟨w.heap.size + 1, 0, none⟩), .pointer (some ⟨w.heap.size + 1 + 1, 0, none⟩), .pointer (some ⟨w.heap.size + 1 + 1 + 1, 0, none⟩), .pointer (some ⟨Bx, 0, none⟩), undef, undef, undef, undef, undef, .agg #[.slice ta N tc], .func (.func 97) #[] #[.pointer (some ⟨w.heap.size + 1 + 1 + 1 + 1, 0, none⟩)], .agg #[.int .i64 (x.1.1.1 : Int), .int .i64 ((x.1.1.2 : Int) + 1)], .agg #[.int .i64 (ev t x.1.1).kind, .int .i64 (ev t x.1.1).peer, .int .i64 (ev t x.1.1).msg, .int .i64 (ev t x.1.1).time, .slice ua (ev t x.1.1).asg.length uc], undef, undef, undef, undef, undef, undef, undef, undef, undef, undef, undef, undef, undef, undef, undef, undef, undef, undef, undef, undef, undef, undef, undef, undef, undef, undef, undef, undef, undef, undef, undef, undef, undef, undef, undef, undef, undef, undef, undef, undef, undef, undef], defers := [] })
  (fun x a' s A A' row hs hg hr => by obtain ⟨Bx, ua, uc, h0, h1, h3⟩ := hs; exact ⟨Bx, ua, uc, h0, heap_kept h1 hg (fun r e => (hr r e).2), h3⟩)
  ?assign ?body ?done ?stop
 case assign =>
  rintro l pre x W K hi hK
  obtain ⟨ua, uc, hva, huc⟩ := x.2.2.sh
  have HK := Lib.hid hK
  have HI := Lib.hid hi
  have hWs := hi.2.2.1.sz
  have hW7 := hi.2.2.2
  simp only [encE]
  rw [hva]
  generalize hkd : (ev t x.1.1).kind = kd
  generalize hpe : (ev t x.1.1).peer = pe
  generalize hms : (ev t x.1.1).msg = ms
  generalize hti : (ev t x.1.1).time = ti
  generalize hna : (ev t x.1.1).asg.length = na
  generalize hxp : (x.1.1.1 : Int) = xp
  generalize hxi : (x.1.1.2 : Int) = xi
  have HG := Lib.hid (And.intro hkd (And.intro hpe (And.intro hms (And.intro hti (And.intro hna (And.intro hxp hxi))))))
  clear hK hi hva hkd hpe hms hti hna hxp hxi huc
  gi_wp2
  obtain ⟨rfl, rfl, rfl, rfl, rfl, rfl, rfl⟩ := HG.out
  have g0 := heap_alloc_new W (idO (x.1.1.1 : Int) ((x.1.1.2 : Int) + 1))
  refine HK.out _ _ ((KeepsOthers.alloc _ _).from _) ((Below.refl w.heap.size W).alloc hWs _) ((cycI_own t w _ B w.heap.size (Nat.le_refl _)).alloc _ HI.out) ⟨W.heap.size, ua, uc, hW7, g0, rfl⟩
 case body =>
  rintro l pre x a' W hl ⟨r, hr⟩ hI ⟨Bx, ua, uc, hB7, hb0, rfl⟩ hlt
  obtain ⟨⟨i0, i1, i2, i3⟩, hok, hE, hz⟩ := hI
  have HIN := Lib.hid x.2.1
  have HOK := Lib.hid hok
  have HEW := Lib.hid hE
  have h0 := Lib.hid i0
  have h1 := Lib.hid i1
  have h2 := Lib.hid i2
  have h3 := Lib.hid i3
  have hx := Lib.hid hb0
  have HLW := Lib.hid (HLT.out.ext hE)
  have HTW := Lib.hid (HT.out.ext hE)
  have hBx : Bx < W.heap.size := (Array.getElem?_eq_some_iff.1 hb0).1
  clear hr hlt hok hE i0 i1 i2 i3 hb0 hi0 hc6 HB
  generalize hxx : x.1.1 = xx at *
  have HXX := Lib.hid hxx
  generalize ev t xx = y at *
  generalize y.asg.length = na at *
  obtain ⟨xp, xi⟩ := xx
  simp only at *
  clear hxx
  have hmm := @run_makeMap Tryz.prog
  have x0 := cellOf hx.out 0
  have x1 := cellOf hx.out 1
  simp only [List.getElem?_toArray, List.getElem?_cons_zero, List.getElem?_cons_succ] at x0 x1
  have hBn : Bx ≠ W.heap.size := by omega
  gi_wp2
  have hEM0 : EMap ((W.alloc (.map #[] 0)).alloc (.cells #[.int .i64 (xp : Int), .int .i64 ((xi : Int) + 1)] 39)) W.heap.size 0 t [] := (EMap.made W t).ext ((Ext.rf _).al _)
  have hRW0 : Row ((W.alloc (.map #[] 0)).alloc (.cells #[.int .i64 (xp : Int), .int .i64 ((xi : Int) + 1)] 39)) W.heap.size 39 2 (.slice (some ⟨W.heap.size + 1, 0, none⟩) 1 1) 1 [.int .i64 (xp : Int), .int .i64 ((xi : Int) + 1)] :=
   ⟨rfl, .inr ⟨_, 0, 1, #[.int .i64 (xp : Int), .int .i64 ((xi : Int) + 1)], rfl, by omega, heap_new_eq (by simp), by omega, by unfold maxLen; omega, by simp, by simp⟩⟩
  have hEX0 : Ext W ((W.alloc (.map #[] 0)).alloc (.cells #[.int .i64 (xp : Int), .int .i64 ((xi : Int) + 1)] 39)) := ((Ext.rf W).al _).al _
  generalize (W.alloc (.map #[] 0)).alloc (.cells #[.int .i64 (xp : Int), .int .i64 ((xi : Int) + 1)] 39) = W1 at *
  have HEM0 := Lib.hid hEM0
  have HRW0 := Lib.hid hRW0
  have HEX0 := Lib.hid hEX0
  clear hEM0 hRW0 hEX0 x0 x1 hmm
  obtain ⟨ie, hie, iz0, iz1, iz2⟩ := info_parts info_eid
  have HNN := Lib.hid hN
  have hunse : unseen t [] ≤ (ids t).length := List.length_filter_le _ _
  generalize hM : (ids t).length = M at *
  gi_loopg [8] (2 * unseen t [] + 1) (fun g s8 wr => ∃ (S R : List Eid) (nn : Nat), 2 * unseen t S + R.length ≤ g ∧ nn + unseen t S ≤ M ∧ R.length + unseen t S ≤ M + 1 ∧ Aside (Srch t (xp, xi) S R []) ∧ Aside (Row wr W.heap.size 39 2 s8 R.length (R.flatMap eidC)) ∧ Aside (EMap wr W.heap.size nn t S) ∧ Aside (Ext W wr))
  case atStart => exact ⟨[], [(xp, xi)], 0, by simp, by omega, by simp; omega, Srch.start t (xp, xi), (show Row _ _ _ _ _ _ _ from by simpa [eidC] using HRW0.out), HEM0, HEX0⟩
  case round =>
   obtain ⟨S, R, nn, hg, hnn, hRM, HSR, HRR, HEM, HEX⟩ := hrel
   clear HEM0 HRW0 HEX0
   rcases List.eq_nil_or_concat R with rfl | ⟨R', z, hRc⟩
   ·obtain ⟨ad, cp, rfl⟩ := HRR.out.nil_of rfl
    have HNO := Lib.hid (HSR.out.no)
    gi_wp2
    exact ⟨ext_keeps2 HEX.out, HEX.out.mono HEW.out.size, ⟨HEX.out.hp h0.out, HEX.out.hp h1.out, HEX.out.hp h2.out, HEX.out.hp h3.out⟩, fun y hy => by
     rw [nms_snoc, HXX.out] at hy
     rcases List.mem_append.1 hy with hy | hy
     ·exact HOK.out y hy
     ·rw [List.mem_singleton] at hy; subst hy; exact HNO.out, HEW.out.trans' HEX.out, Nat.le_trans hz HEX.out.size⟩
   ·rw [List.concat_eq_append] at hRc
    subst hRc
    have hlen : (R' ++ [z]).length = R'.length + 1 := by simp
    obtain ⟨g8, o8, c8, rfl, hg8, hg8w, hc8⟩ := HRR.out.shape (by simp)
    have HZI := Lib.hid (show Inn t z from by
     rcases HSR.out.rest z (by simp) with e | e
     ·rw [e]; exact HIN.out
     ·exact tg_inn (HSR.out.seen z e))
    have HST := Lib.hid (HSR.out.take)
    have HRI := Lib.hid (show Row wr W.heap.size 39 2 (.slice (some ⟨g8, o8, none⟩) R'.length c8) R'.length (R'.flatMap eidC) from by
     have h9 := HRR.out
     rw [hlen] at h9
     have := h9.init
     rw [List.flatMap_append, List.take_left' (eidC_len R')] at this
     exact this)
    have q0 := HRR.out.cell (R'.length * 2) (by rw [hlen]; omega)
    have q1 := HRR.out.cell (R'.length * 2 + 1) (by rw [hlen]; omega)
    rw [List.flatMap_append, List.getElem?_append_right (by rw [eidC_len]; omega), eidC_len] at q0 q1
    simp only [List.flatMap_cons, List.flatMap_nil, List.append_nil, eidC, Nat.sub_self, List.getElem?_cons_zero, Nat.add_sub_cancel_left, List.getElem?_cons_succ] at q0 q1
    rw [hlen] at hg hRM hc8 ⊢
    have HG := Lib.hid hg
    have HNB := Lib.hid hnn
    have HRB := Lib.hid hRM
    generalize hm : R'.length = m at *
    have HM := Lib.hid hm
    have hmb : m ≤ 1000000 := by omega
    have hc8z : (m : Int) ≤ (c8 : Int) := by omega
    obtain ⟨z1, hz1⟩ : ∃ k : Int, (z.1 : Int) = k := ⟨_, rfl⟩
    obtain ⟨z2, hz2⟩ : ∃ k : Int, (z.2 : Int) + 1 = k := ⟨_, rfl⟩
    rw [hz1] at q0
    rw [hz2] at q1
    rw [← Nat.add_assoc] at q1
    have HXT := Lib.hid ((Ext.rf wr).al (idO z1 z2))
    have HB9 := Lib.hid (heap_alloc_new wr (idO z1 z2))
    have HE9 := Lib.hid (HEX.out.al (idO z1 z2))
    have HAF : Hid (∀ V, Ext W V → Calls Tryz.prog 106 #[.agg #[.slice ta N tc], .pointer (some ⟨B, 0, none⟩), .agg #[.int .i64 z1, .int .i64 z2]] V fun e w' => EidsOut V w' e (aft t z)) := Lib.hid (fun V hV => by
     rw [← hz1, ← hz2]
     exact afterP_calls _ t z.1 z.2 B V (HTW.out.ext hV) HS.out HZI.out (HLW.out.ext hV) (fun hk => by
      exact formed_send (HF.out z HZI.out) hk))
    clear hz1 hz2 hm hg hnn hRM hlen
    have c0 := cellOf (HEX.out.hp h0.out) 0
    have c1 := cellOf (HEX.out.hp h1.out) 0
    simp only [List.getElem?_toArray, List.getElem?_cons_zero] at c0 c1
    have hWr : W.heap.size ≤ wr.heap.size := HEX.out.sz
    have n0 : w.heap.size < wr.heap.size := by omega
    have n1 : w.heap.size ≠ wr.heap.size := by omega
    have n2 : w.heap.size + 1 < wr.heap.size := by omega
    have n3 : w.heap.size + 1 ≠ wr.heap.size := by omega
    gi_wp2_with fail
    clear q0 q1 c0 c1
    refine ⟨trivial, (CallsIn.inRound l ((callsIn_wide (n := 9 - 1 - 1 - 1)).2 (HAF.out _ HE9.out))).mono ?_⟩
    rintro e w2 ⟨vL, rfl, hRL, hE2⟩
    have HDIR := Lib.hid (fun y => mem_aft (y := y) HP.out HZI.out)
    have HEX2 := Lib.hid (HE9.out.trans' hE2)
    have HRI2 := Lib.hid (HRI.out.ext (HXT.out.trans' hE2))
    have HEM2 := Lib.hid (HEM.out.ext (HXT.out.trans' hE2))
    have HAP := Lib.hid (show ∀ q, vL.ownBlock = some q → (Value.slice (some ⟨g8, o8, none⟩) m c8).ownBlock ≠ some q from fun q hq e => by
     have h9 := (hRL.lt q hq).1
     simp [Value.ownBlock] at e
     simp at h9
     omega)
    have hbase : W.heap.size ≤ (wr.alloc (idO z1 z2)).heap.size := by simp; omega
    have HRLb := Lib.hid (hRL.mono hbase)
    obtain ⟨la, lc, rfl, hlc, _⟩ := hRL.any
    generalize hLL : aft t z = LL at *
    generalize hln : LL.length = ln at *
    have HLN := Lib.hid hln
    have hln2 : ln ≤ 2 := by rw [← hln, ← hLL]; unfold aft; split <;> split <;> simp <;> (try (cases findE t 3 _ <;> simp))
    clear hRL hE2 hLL hln hbase n0 n1 n2 n3
    obtain ⟨gO, rfl⟩ : ∃ x, x = gk := ⟨_, rfl⟩
    obtain ⟨wo, rfl⟩ : ∃ x, x = wr := ⟨_, rfl⟩
    gi_wp2
    gi_loopg [8, 38] ln (fun g2 s8 s38 wx => ∃ (S R : List Eid) (nn k : Nat), k ≤ ln ∧ ln - k ≤ g2 ∧ s38 = .int .i64 k ∧ Aside (2 * unseen t S + R.length + 1 ≤ gO) ∧ Aside (nn + unseen t S ≤ M) ∧ Aside (R.length + unseen t S ≤ M + 1) ∧ Aside (Srch t (xp, xi) S R [z]) ∧ Aside (∀ j, j < k → LL[j]! ∈ S) ∧
     Aside (Row wx W.heap.size 39 2 s8 R.length (R.flatMap eidC)) ∧ Aside (Row wx W.heap.size 39 2 (.slice la ln lc) ln (LL.flatMap eidC)) ∧ Aside (∀ q, (Value.slice la ln lc).ownBlock = some q → s8.ownBlock ≠ some q) ∧ Aside (EMap wx W.heap.size nn t S) ∧ Aside (Ext W wx))
    case atStart => exact ⟨S, R', nn, 0, Nat.zero_le _, by omega, rfl, (show _ ≤ _ from by rw [HM.out]; have := HG.out; omega), (show _ ≤ _ from HNB.out), (show _ ≤ _ from by rw [HM.out]; have := HRB.out; omega), HST, (fun j hj => absurd hj (Nat.not_lt_zero _)), (show Row _ _ _ _ _ _ _ from by rw [HM.out]; exact HRI2.out), HRLb, HAP, HEM2, HEX2⟩
    case round =>
     obtain ⟨wx, rfl⟩ : ∃ x, x = wr := ⟨_, rfl⟩
     obtain ⟨S2, R2, nn2, k, hk, hg2, rfl, HG2, HN2, HR2, HS2, HALL, HRR2, HRL2, HAP2, HEM3, HEX3⟩ := hrel
     clear HG HNB HRB HST HRI2 HRLb HAP HEM2 HEX2 HEM HEX HRR HSR HRI HXT HB9 HE9 HAF
     by_cases hlt : k < ln
     ·have hltz : (k : Int) < (ln : Int) := by omega
      have hkz : (0 : Int) ≤ (k : Int) := by omega
      have HYD := Lib.hid (show Dir t z LL[k]! from (HDIR.out _).1 (mem_at LL k (by rw [HLN.out]; exact hlt)))
      have hea := eid_at LL k (by rw [HLN.out]; exact hlt)
      obtain ⟨gL, oL, cL, hLe, hgL, hgLw, hcL⟩ := HRL2.out.shape (by omega)
      simp only [Value.slice.injEq] at hLe
      obtain ⟨rfl, _, rfl⟩ := hLe
      have q0 := (HRL2.out.cell (k * 2) (by omega)).trans hea.1
      have q1 := (HRL2.out.cell (k * 2 + 1) (by omega)).trans hea.2
      generalize hyy : LL[k]! = y at *
      have HYY := Lib.hid hyy
      obtain ⟨y1, y2⟩ := y
      simp only at q0 q1
      rw [← Nat.add_assoc] at q1
      clear hea hyy
      have HT8 := Lib.hid ((Ext.rf wx).al (idO y1 ((y2 : Int) + 1)))
      have HB11 := Lib.hid (heap_alloc_new wx (idO y1 ((y2 : Int) + 1)))
      have b0 := cellOf (HEX3.out.hp hx.out) 0
      have b1 := cellOf (HEX3.out.hp hx.out) 1
      simp only [List.getElem?_toArray, List.getElem?_cons_zero, List.getElem?_cons_succ] at b0 b1
      have hWx : W.heap.size ≤ wx.heap.size := HEX3.out.sz
      have n0 : Bx < wx.heap.size := by omega
      have n1 : Bx ≠ wx.heap.size := by omega
      have HEX4 := Lib.hid (HEX3.out.al (idO y1 ((y2 : Int) + 1)))
      have HRR4 := Lib.hid (HRR2.out.al (idO y1 ((y2 : Int) + 1)))
      have HRL4 := Lib.hid (HRL2.out.al (idO y1 ((y2 : Int) + 1)))
      have HEM4 := Lib.hid (HEM3.out.ext HT8.out)
      have HYI := Lib.hid (show Inn t (y1, y2) from HYD.out.1)
      by_cases hca : y1 = xp ∧ y2 = xi
      ·obtain ⟨rfl, rfl⟩ := hca
       have HCY := Lib.hid (show Cyc t from ⟨_, HS2.out.yes HYD.out⟩)
       have c2 := cellOf (HEX4.out.hp h2.out) 0
       have c2b := cellOf (HEX4.out.hp h2.out) 1
       have c3 := cellOf (HEX4.out.hp h3.out) 0
       have f2 := freeOf (HEX4.out.hp h2.out) 0
       have f2b := freeOf (HEX4.out.hp h2.out) 1
       have f3 := freeOf (HEX4.out.hp h3.out) 0
       simp only [List.getElem?_toArray, List.getElem?_cons_zero, List.getElem?_cons_succ] at c2 c2b c3
       gi_wp2
       have r2 := id_set (HEX4.out.hp h2.out) (.int .i64 (y1 : Int)) (.int .i64 ((y2 : Int) + 1))
       refine ⟨(ext_keeps2 HEX4.out).trans (((KeepsOthers.setCell _ _ _).trans ((KeepsOthers.setCell _ _ _).trans (KeepsOthers.setCell _ _ _))).from _), rfl, HCY.out, ⟨(y1 : Int), (y2 : Int) + 1, ?_, ?_⟩, ?_⟩
       ·rw [Below.heap_setCell _ ⟨w.heap.size + 1 + 1 + 1, 0, none⟩ _ _ (by simp)]; exact r2
       ·rw [heap_setCell_same (by rw [Below.heap_setCell _ ⟨w.heap.size + 1 + 1, 1, none⟩ _ _ (by simp), Below.heap_setCell _ ⟨w.heap.size + 1 + 1, 0, none⟩ _ _ (by simp)]; exact HEX4.out.hp h3.out)]; simp
       ·exact (((HEW.out.trans' HEX4.out).st (p := ⟨w.heap.size + 1 + 1, 0, none⟩) (by simp; omega) _).st (p := ⟨w.heap.size + 1 + 1, 1, none⟩) (by simp; omega) _).st (p := ⟨w.heap.size + 1 + 1 + 1, 0, none⟩) (by simp; omega) _
      ·have HNE := Lib.hid (show (y1, y2) ≠ (xp, xi) from fun e => hca (by simpa using e))
       by_cases hq1 : y1 = xp
       ·have hq2 : ¬ y2 = xi := fun e => hca ⟨hq1, e⟩
        subst hq1
        have hq3 : ¬ ((y2 : Int) + 1 = (xi : Int) + 1) := by omega
        have hq4 : ¬ ((y2 : Int) = (xi : Int)) := by omega
        clear hca
        by_cases hyS : (y1, y2) ∈ S2
        ·have dS : decide ((y1, y2) ∈ S2) = true := decide_eq_true hyS
         have HNX := Lib.hid (show ∀ j, j < k + 1 → LL[j]! ∈ S2 from fun j hj => by
          by_cases e : j = k
          ·subst e; rw [HYY.out]; exact hyS
          ·exact HALL.out j (by omega))
         clear hyS
         gi_wp2_with (gi_at_lookup; refine wpListIn_look_e rfl _ _ rfl W.heap.size nn2 t S2 HEM4.out HS.out (y1, y2) HYI.out rfl rfl ?_; rw [dS])
         gi_roundg (ln - (k + 1))
         case measure => exact Nat.lt_of_lt_of_le (Nat.sub_lt_sub_left hlt (Nat.lt_succ_self k)) hg2
         case rel => exact ⟨S2, R2, nn2, k + 1, hlt, Nat.le_refl _, by go_num, HG2, HN2, HR2, HS2, HNX, HRR4, HRL4, HAP2, HEM4, HEX4⟩
        ·have dS : decide ((y1, y2) ∈ S2) = false := decide_eq_false hyS
         have HYN := Lib.hid hyS
         clear hyS
         have HNX := Lib.hid (show ∀ j, j < k + 1 → LL[j]! ∈ (y1, y2) :: S2 from fun j hj => by
          by_cases e : j = k
          ·subst e; rw [HYY.out]; simp
          ·exact List.mem_cons_of_mem _ (HALL.out j (by omega)))
         have HUN := Lib.hid (unseen_push HYI.out HYN.out)
         have HSP := Lib.hid (HS2.out.push HYD.out HNE.out)
         have hyz1 : (0 : Int) ≤ (y1 : Int) := by omega
         gi_wp2_with (first | (gi_at_lookup; refine wpListIn_look_e rfl _ _ rfl W.heap.size nn2 t S2 HEM4.out HS.out (y1, y2) HYI.out rfl rfl ?_; rw [dS]) | (gi_at_mapUpdate; refine wpListIn_put_e rfl _ _ _ rfl W.heap.size nn2 t S2 HEM4.out HS.out (by unfold maxLen; have := HN2.out; omega) (y1, y2) HYI.out rfl rfl rfl ?_; intro w5 hM5 hG5; have HEM5 := Lib.hid hM5; have HRR5 := Lib.hid (HRR4.out.grown hG5 (.inr (HRR4.out.notMap HEM4.out))); have HRL5 := Lib.hid (HRL4.out.grown hG5 (.inr (HRL4.out.notMap HEM4.out))); have HEX5 := Lib.hid (HEX4.out.gr hG5 (fun kk e => by cases e; exact Nat.le_refl _)); have HB5 := Lib.hid (grownKeep hG5 (by simp; omega) HB11.out); have u0 := cellOf HB5.out 0; have u1 := cellOf HB5.out 1; simp only [List.getElem?_toArray, List.getElem?_cons_zero, List.getElem?_cons_succ] at u0 u1; clear hM5 hG5) | (gi_at_builtin; refine wpListIn_append_rowI rfl _ _ 71 rfl W.heap.size 39 ie (.agg #[.int .i64 0, .int .i64 0]) 2 16 Tryz.underlying71 hie iz0 iz1 iz2 rfl (by decide) _ R2.length _ rfl (HRR5.out.al _) w5.heap.size 1 [.int .i64 (y1 : Int), .int .i64 ((y2 : Int) + 1)] rfl rfl ⟨_, heap_alloc_new _ _⟩ (by simp [Value.oneCell']) (by unfold maxLen; have := HR2.out; omega) (by have := HR2.out; omega) (by have := HEX5.out.sz; simp; omega) ?_; intro v6 w6 hown6 hgrow6 hblk6; obtain ⟨g6, o6, c6, rfl, hg6, hg6w, hc6⟩ := hown6.shape (by omega); have HRR6 := Lib.hid hown6; have HG6 := Lib.hid hgrow6; have HBK6 := Lib.hid hblk6; clear hown6 hgrow6 hblk6))
         gi_roundg (ln - (k + 1))
         case measure => exact Nat.lt_of_lt_of_le (Nat.sub_lt_sub_left hlt (Nat.lt_succ_self k)) hg2
         case rel =>
          refine ⟨(y1, y2) :: S2, R2 ++ [(y1, y2)], nn2 + 1, k + 1, hlt, Nat.le_refl _, by go_num, (show _ ≤ _ from ?_), (show _ ≤ _ from ?_), (show _ ≤ _ from ?_), HSP, HNX, (show Row _ _ _ _ _ _ _ from ?_), (show Row _ _ _ _ _ _ _ from ?_), (show Aside _ from ?_), (show EMap _ _ _ _ _ from ?_), (show Ext _ _ from ?_)⟩
          ·have := HG2.out; have := HUN.out; simp; omega
          ·have := HN2.out; have := HUN.out; omega
          ·have := HR2.out; have := HUN.out; simp; omega
          ·have := HRR6.out; simpa [eidC] using this
          ·exact (HRL5.out.al _).grown HG6.out (.inr (fun e => HAP2.out _ rfl e.symm))
          ·intro q hq e
           rcases HBK6.out with h9 | ⟨kk, h9, h10⟩
           ·exact HAP2.out q hq (h9.symm.trans e)
           ·rw [h9] at e
            cases e
            have h11 := (HRL5.out.lt _ hq).2
            simp at h10
            omega
          ·exact (HEM5.out.ext ((Ext.rf w5).al _)).grown HG6.out (fun e => HRR5.out.notMap HEM5.out e.symm)
          ·exact (HEX5.out.al _).gr HG6.out (fun q hq => (HRR5.out.lt q hq).1)
       ·have hq3 : ¬ ((y1 : Int) = (xp : Int)) := by omega
        clear hca
        by_cases hyS : (y1, y2) ∈ S2
        ·have dS : decide ((y1, y2) ∈ S2) = true := decide_eq_true hyS
         have HNX := Lib.hid (show ∀ j, j < k + 1 → LL[j]! ∈ S2 from fun j hj => by
          by_cases e : j = k
          ·subst e; rw [HYY.out]; exact hyS
          ·exact HALL.out j (by omega))
         clear hyS
         gi_wp2_with (gi_at_lookup; refine wpListIn_look_e rfl _ _ rfl W.heap.size nn2 t S2 HEM4.out HS.out (y1, y2) HYI.out rfl rfl ?_; rw [dS])
         gi_roundg (ln - (k + 1))
         case measure => exact Nat.lt_of_lt_of_le (Nat.sub_lt_sub_left hlt (Nat.lt_succ_self k)) hg2
         case rel => exact ⟨S2, R2, nn2, k + 1, hlt, Nat.le_refl _, by go_num, HG2, HN2, HR2, HS2, HNX, HRR4, HRL4, HAP2, HEM4, HEX4⟩
        ·have dS : decide ((y1, y2) ∈ S2) = false := decide_eq_false hyS
         have HYN := Lib.hid hyS
         clear hyS
         have HNX := Lib.hid (show ∀ j, j < k + 1 → LL[j]! ∈ (y1, y2) :: S2 from fun j hj => by
          by_cases e : j = k
          ·subst e; rw [HYY.out]; simp
          ·exact List.mem_cons_of_mem _ (HALL.out j (by omega)))
         have HUN := Lib.hid (unseen_push HYI.out HYN.out)
         have HSP := Lib.hid (HS2.out.push HYD.out HNE.out)
         have hyz1 : (0 : Int) ≤ (y1 : Int) := by omega
         gi_wp2_with (first | (gi_at_lookup; refine wpListIn_look_e rfl _ _ rfl W.heap.size nn2 t S2 HEM4.out HS.out (y1, y2) HYI.out rfl rfl ?_; rw [dS]) | (gi_at_mapUpdate; refine wpListIn_put_e rfl _ _ _ rfl W.heap.size nn2 t S2 HEM4.out HS.out (by unfold maxLen; have := HN2.out; omega) (y1, y2) HYI.out rfl rfl rfl ?_; intro w5 hM5 hG5; have HEM5 := Lib.hid hM5; have HRR5 := Lib.hid (HRR4.out.grown hG5 (.inr (HRR4.out.notMap HEM4.out))); have HRL5 := Lib.hid (HRL4.out.grown hG5 (.inr (HRL4.out.notMap HEM4.out))); have HEX5 := Lib.hid (HEX4.out.gr hG5 (fun kk e => by cases e; exact Nat.le_refl _)); have HB5 := Lib.hid (grownKeep hG5 (by simp; omega) HB11.out); have u0 := cellOf HB5.out 0; have u1 := cellOf HB5.out 1; simp only [List.getElem?_toArray, List.getElem?_cons_zero, List.getElem?_cons_succ] at u0 u1; clear hM5 hG5) | (gi_at_builtin; refine wpListIn_append_rowI rfl _ _ 71 rfl W.heap.size 39 ie (.agg #[.int .i64 0, .int .i64 0]) 2 16 Tryz.underlying71 hie iz0 iz1 iz2 rfl (by decide) _ R2.length _ rfl (HRR5.out.al _) w5.heap.size 1 [.int .i64 (y1 : Int), .int .i64 ((y2 : Int) + 1)] rfl rfl ⟨_, heap_alloc_new _ _⟩ (by simp [Value.oneCell']) (by unfold maxLen; have := HR2.out; omega) (by have := HR2.out; omega) (by have := HEX5.out.sz; simp; omega) ?_; intro v6 w6 hown6 hgrow6 hblk6; obtain ⟨g6, o6, c6, rfl, hg6, hg6w, hc6⟩ := hown6.shape (by omega); have HRR6 := Lib.hid hown6; have HG6 := Lib.hid hgrow6; have HBK6 := Lib.hid hblk6; clear hown6 hgrow6 hblk6))
         gi_roundg (ln - (k + 1))
         case measure => exact Nat.lt_of_lt_of_le (Nat.sub_lt_sub_left hlt (Nat.lt_succ_self k)) hg2
         case rel =>
          refine ⟨(y1, y2) :: S2, R2 ++ [(y1, y2)], nn2 + 1, k + 1, hlt, Nat.le_refl _, by go_num, (show _ ≤ _ from ?_), (show _ ≤ _ from ?_), (show _ ≤ _ from ?_), HSP, HNX, (show Row _ _ _ _ _ _ _ from ?_), (show Row _ _ _ _ _ _ _ from ?_), (show Aside _ from ?_), (show EMap _ _ _ _ _ from ?_), (show Ext _ _ from ?_)⟩
          ·have := HG2.out; have := HUN.out; simp; omega
          ·have := HN2.out; have := HUN.out; omega
          ·have := HR2.out; have := HUN.out; simp; omega
          ·have := HRR6.out; simpa [eidC] using this
          ·exact (HRL5.out.al _).grown HG6.out (.inr (fun e => HAP2.out _ rfl e.symm))
          ·intro q hq e
           rcases HBK6.out with h9 | ⟨kk, h9, h10⟩
           ·exact HAP2.out q hq (h9.symm.trans e)
           ·rw [h9] at e
            cases e
            have h11 := (HRL5.out.lt _ hq).2
            simp at h10
            omega
          ·exact (HEM5.out.ext ((Ext.rf w5).al _)).grown HG6.out (fun e => HRR5.out.notMap HEM5.out e.symm)
          ·exact (HEX5.out.al _).gr HG6.out (fun q hq => (HRR5.out.lt q hq).1)
     ·have hltz : ¬ (k : Int) < (ln : Int) := by omega
      obtain rfl : k = ln := by omega
      have HSD := Lib.hid (HS2.out.done (fun y hy => by
       have h9 := (HDIR.out y).2 hy
       obtain ⟨j, hj, rfl⟩ := List.getElem_of_mem h9
       have := HALL.out j (by rw [← HLN.out]; exact hj)
       rwa [getElem!_pos LL j hj] at this))
      gi_wp2
      gi_roundg (2 * unseen t S2 + R2.length)
      case measure => have := HG2.out; omega
      case rel => exact ⟨S2, R2, nn2, Nat.le_refl _, HN2.out, HR2.out, HSD.out, HRR2, HEM3, HEX3⟩
 case done =>
  rintro D ys W hD hys hI hK
  obtain ⟨⟨i0, i1, i2, i3⟩, hok, hE, hz⟩ := hI
  have h2 := Lib.hid i2
  have h3 := Lib.hid i3
  have HOK := Lib.hid hok
  have HEW := Lib.hid hE
  have HKD := Lib.hid hK
  have HYS := Lib.hid hys
  have c2 := cellOf i2 0
  have c2b := cellOf i2 1
  have c3 := cellOf i3 0
  have f2 := freeOf i2 0
  have f2b := freeOf i2 1
  have f3 := freeOf i3 0
  simp only [List.getElem?_toArray, List.getElem?_cons_zero, List.getElem?_cons_succ] at c2 c2b c3
  clear hi0 hc6 HB hys hok hE hK i0 i1 i2 i3
  gi_wp2
  have r2 := id_set h2.out (.int .i64 0) (.int .i64 0)
  have o : ∀ (V : World) (j i : Nat) (z : Value) (n : Nat), n ≠ j → (V.setCell ⟨j, i, none⟩ z).heap[n]? = V.heap[n]? := fun V j i z n hn => Below.heap_setCell V ⟨j, i, none⟩ z n hn
  have hE4 : Ext w (((W.setCell ⟨w.heap.size + 1 + 1, 0, none⟩ (.int .i64 0)).setCell ⟨w.heap.size + 1 + 1, 1, none⟩ (.int .i64 0)).setCell ⟨w.heap.size + 1 + 1 + 1, 0, none⟩ (.bool false)) :=
   ((HEW.out.st (p := ⟨w.heap.size + 1 + 1, 0, none⟩) (by simp; omega) _).st (p := ⟨w.heap.size + 1 + 1, 1, none⟩) (by simp; omega) _).st (p := ⟨w.heap.size + 1 + 1 + 1, 0, none⟩) (by simp; omega) _
  have s2' : (((W.setCell ⟨w.heap.size + 1 + 1, 0, none⟩ (.int .i64 0)).setCell ⟨w.heap.size + 1 + 1, 1, none⟩ (.int .i64 0)).setCell ⟨w.heap.size + 1 + 1 + 1, 0, none⟩ (.bool false)).heap[w.heap.size + 1 + 1]? = some (idO 0 0) := by
   rw [o _ _ _ _ _ (by omega)]; exact r2
  have s3' : (((W.setCell ⟨w.heap.size + 1 + 1, 0, none⟩ (.int .i64 0)).setCell ⟨w.heap.size + 1 + 1, 1, none⟩ (.int .i64 0)).setCell ⟨w.heap.size + 1 + 1 + 1, 0, none⟩ (.bool false)).heap[w.heap.size + 1 + 1 + 1]? = some (.cells #[.bool false] 4) := by
   rw [heap_setCell_same (by rw [o _ _ _ _ _ (by omega), o _ _ _ _ _ (by omega)]; exact h3.out)]; simp
  have hK4 : (((W.setCell ⟨w.heap.size + 1 + 1, 0, none⟩ (.int .i64 0)).setCell ⟨w.heap.size + 1 + 1, 1, none⟩ (.int .i64 0)).setCell ⟨w.heap.size + 1 + 1 + 1, 0, none⟩ (.bool false)).heap[D]? = some (.deferred (some [])) := by
   rw [o _ _ _ _ _ (by omega), o _ _ _ _ _ (by omega), o _ _ _ _ _ (by omega)]; exact HKD.out
  generalize ((W.setCell ⟨w.heap.size + 1 + 1, 0, none⟩ (.int .i64 0)).setCell ⟨w.heap.size + 1 + 1, 1, none⟩ (.int .i64 0)).setCell ⟨w.heap.size + 1 + 1 + 1, 0, none⟩ (.bool false) = W4 at *
  clear c2 c2b c3 f2 f2b f3 r2 o
  refine ⟨by simp, .inl ⟨_, _, rfl, run_takeDeferred hK4, ?_⟩⟩
  have hg := grownBy_putObj' W4 D (.deferred none)
  have hr : ∀ r, some D = some r → ∃ o : Obj, W4.heap[r]? = some o ∧ o.isCells = false := fun r e => by cases e; exact ⟨_, hK4, rfl⟩
  have s2 := cellOf (heap_kept s2' hg hr) 0
  have s2b := cellOf (heap_kept s2' hg hr) 1
  have s3 := cellOf (heap_kept s3' hg hr) 0
  simp only [List.getElem?_toArray, List.getElem?_cons_zero, List.getElem?_cons_succ] at s2 s2b s3
  have hE5 : Ext w (W4.putObj D (.deferred none)) := (hE4.grown hg hE4.size (fun k e => by cases e; omega))
  refine ⟨.tuple #[.agg #[.int .i64 0, .int .i64 0], .bool false], by simp [results, Tryz.results86, go_sem, s2, s2b, s3], ⟨0, 0, false, rfl, ⟨fun h => absurd h (by decide), fun h => ?_⟩, hE5⟩⟩
  obtain ⟨y, hy⟩ := h
  exact absurd hy (HOK.out y (by rw [HYS.out]; exact mem_ids.2 (tg_inn hy)))
 case stop =>
  rintro D c pre W hD hpre ⟨rfl, hcy, ⟨a, b, i2, i3⟩, hE⟩ hK
  have h2 := Lib.hid i2
  have h3 := Lib.hid i3
  have HEW := Lib.hid hE
  have HKD := Lib.hid hK
  have HCY := Lib.hid hcy
  clear hi0 hc6 HB hcy hpre hE hK i2 i3
  gi_wp2
  refine ⟨by simp, .inl ⟨_, _, rfl, run_takeDeferred HKD.out, ?_⟩⟩
  have hg := grownBy_putObj' W D (.deferred none)
  have hr : ∀ r, some D = some r → ∃ o : Obj, W.heap[r]? = some o ∧ o.isCells = false := fun r e => by cases e; exact ⟨_, HKD.out, rfl⟩
  have s2 := cellOf (heap_kept h2.out hg hr) 0
  have s2b := cellOf (heap_kept h2.out hg hr) 1
  have s3 := cellOf (heap_kept h3.out hg hr) 0
  simp only [List.getElem?_toArray, List.getElem?_cons_zero, List.getElem?_cons_succ] at s2 s2b s3
  have hE5 : Ext w (W.putObj D (.deferred none)) := (HEW.out.grown hg HEW.out.size (fun k e => by cases e; omega))
  exact ⟨.tuple #[.agg #[.int .i64 a, .int .i64 b], .bool true], by simp [results, Tryz.results86, go_sem, s2, s2b, s3], ⟨a, b, true, rfl, ⟨fun _ => HCY.out, fun _ => rfl⟩, hE5⟩⟩
end Go.Proofs.YtbpdbikphlhaiaaGreatDoor
