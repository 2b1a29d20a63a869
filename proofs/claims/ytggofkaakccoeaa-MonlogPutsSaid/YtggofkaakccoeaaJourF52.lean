/-
  Sync and Read of package monlog.
-/
import Derived.Test.YtggofkaakccoeaaBase
import Derived.Test.YtggofkaakccoeaaProg
import Derived.BigQuiet
import Derived.Deep.QuietTactic
import Derived.Deep.LoopGhost
import Derived.Shelf.Abstract
import Derived.Test.YtggofkaakccoeaaJourD52
namespace Go.Proofs.Ytggofkaakccoeaa
open Go.RowKit
set_option linter.unusedVariables false


set_option maxHeartbeats 4000000 in
theorem sync_bad (a : Option Addr) (n c : Nat) (d f : Int) (w : World) (hn : n ≤ 9223372036854775807) (hval : validJ n d f = false) :
    Calls Try.prog 23 #[.agg #[.slice a n c, .int .i64 d, .int .i64 f]] w fun e w' => JOut w w' e [] 0 0 1 := by
  go_enter Try.func23, Try.ntmps23
  go_wp2_with fail
  refine (valid_calls _ _ _ _ _ _ (by omega)).mono ?_
  rw [hval]
  rintro e w1 ⟨rfl, hE1⟩
  obtain ⟨hb1, hb2, hb3, hb4⟩ := two_boxes hE1
  have HB2 := Lib.hid hb2
  have HB4 := Lib.hid hb4
  clear hb1 hb2 hb4 hE1 hval
  have r0 := cell_of HB2.out 0
  have r1 := cell_of HB2.out 1
  have r2 := cell_of HB2.out 2
  simp only [List.getElem?_toArray, List.getElem?_cons_zero, List.getElem?_cons_succ] at r0 r1 r2
  have q0 := free_of HB2.out 0
  have q1 := free_of HB2.out 1
  have q2 := free_of HB2.out 2
  go_wp2
  refine bodyPost_ret (v := .tuple #[.agg #[.slice none 0 0, .int .i64 0, .int .i64 0], .int .i64 1]) (by simp [results, Try.results23, go_sem, r0, r1, r2]) rfl ⟨_, rfl, Row.mkNil _ _ _ _, (by repeat (first | refine Ext.st ?_ (by first | exact Nat.le_refl _ | exact Nat.le_succ _ | assumption | omega) _ | refine Ext.al ?_ _ | refine Ext.dr ?_ | refine Ext.drN ?_ _ | exact HB4.out))⟩

set_option maxHeartbeats 4000000 in
theorem sync_ok (v : Value) (l : List Int) (d f : Int) (w : World) (hv : Bys w v l) (hn : l.length ≤ 1000000) (hval : validJ l.length d f = true) :
    Calls Try.prog 23 #[.agg #[v, .int .i64 d, .int .i64 f]] w fun e w' => JOut w w' e l (if f = 0 then d else l.length) f (if f = 0 then 19 else 0) := by
  have HV := Lib.hid hv
  have HN := Lib.hid hn
  obtain ⟨_, a, c, rfl, hlc, hvc⟩ := hv
  clear hvc
  generalize hds : (if f = 0 then d else (l.length : Int)) = ds
  generalize her : (if f = 0 then (19 : Int) else 0) = er
  have HDS := Lib.hid hds
  have HER := Lib.hid her
  generalize hq : l.length = q at hn hlc hval ⊢
  have HQ := Lib.hid hq
  rw [hq] at HV
  clear hds her hq
  go_enter Try.func23, Try.ntmps23
  go_wp2_with fail
  refine (valid_calls _ _ _ _ _ _ (by omega)).mono ?_
  rw [hval]
  rintro e w1 ⟨rfl, hE1⟩
  obtain ⟨hb1, hb2, hb3, hb4⟩ := two_boxes hE1
  have HB1 := Lib.hid hb1
  have HB2 := Lib.hid hb2
  have HE1 := Lib.hid hE1
  have HB4 := Lib.hid hb4
  clear hb1 hb2 hb4 hE1 hval
  have c0 := cell_of HB1.out 0
  have c1 := cell_of HB1.out 1
  have c2 := cell_of HB1.out 2
  simp only [List.getElem?_toArray, List.getElem?_cons_zero, List.getElem?_cons_succ] at c0 c1 c2
  go_wp2_with fail
  refine (open_calls _ l _ _ w1 (HV.out.ext HB4.out) HN.out).mono ?_
  rintro e w3 ⟨g, u, rfl, hW3, hE3⟩
  have HW3 := Lib.hid hW3
  have HE3 := Lib.hid hE3
  clear hW3 hE3
  go_wp2_with fail
  refine (sync_calls g _ u l d f w3 HW3.out).mono ?_
  rintro e w5 ⟨⟨x, rfl⟩, hW5, hB5⟩
  rw [HDS.out] at hW5
  have HW5 := Lib.hid hW5
  have HB5 := Lib.hid hB5
  clear hW5 hB5
  go_wp2_with fail
  refine (result_calls g _ u _ _ _ _ w5 HW5.out).mono ?_
  rw [show (if decide (f = 0) = true then (19 : Int) else 0) = er from by have := HER.out; simp only [decide_eq_true_eq]; exact this]
  rintro e w6 ⟨rfl, hE6⟩
  have hE7 : Ext w1 w6 := (show Ext w1 w5 from Below.trans HE3.out HB5.out).trans' hE6
  obtain ⟨hb1, hb2, hb5, hb4⟩ := two_boxes (HE1.out.trans' hE7)
  have HB2' := Lib.hid hb2
  have HB4' := Lib.hid hb4
  have hrow := HW5.out.2.2.1.ext hE6
  rw [HQ.out] at hrow
  obtain ⟨ua, uc, rfl, _, hsh⟩ := hrow.any
  have HROW := Lib.hid hrow
  have hs1 := HB4.out.sz
  clear hrow hE6 hsh hE7 hb1 hb2 hb4
  have r0 := cell_of HB2'.out 0
  have r1 := cell_of HB2'.out 1
  have r2 := cell_of HB2'.out 2
  simp only [List.getElem?_toArray, List.getElem?_cons_zero, List.getElem?_cons_succ] at r0 r1 r2
  have q0 := free_of HB2'.out 0
  have q1 := free_of HB2'.out 1
  have q2 := free_of HB2'.out 2
  go_wp2
  refine bodyPost_ret (v := .tuple #[.agg #[.slice ua q uc, .int .i64 ds, .int .i64 f], .int .i64 er]) (by simp [results, Try.results23, go_sem, r0, r1, r2]) rfl ⟨_, rfl, ?_, (by repeat (first | refine Ext.st ?_ (by first | exact Nat.le_refl _ | exact Nat.le_succ _ | assumption | omega) _ | refine Ext.al ?_ _ | refine Ext.dr ?_ | refine Ext.drN ?_ _ | exact HB4'.out))⟩
  rw [HQ.out]
  exact (Row.st3 (base := w1.heap.size) (g := w.heap.size + 1) HROW.out (by omega) _ _ _).mono (by omega)

set_option maxHeartbeats 4000000 in
theorem jread_bad (a : Option Addr) (n c : Nat) (d f : Int) (w : World) (hn : n ≤ 9223372036854775807) (hval : validJ n d f = false) :
    Calls Try.prog 20 #[.agg #[.slice a n c, .int .i64 d, .int .i64 f]] w fun e w' => e = .returned (.tuple #[.slice none 0 0, .int .i64 1]) ∧ Ext w w' := by
  go_enter Try.func20, Try.ntmps20
  go_wp2_with fail
  refine (valid_calls _ _ _ _ _ _ (by omega)).mono ?_
  rw [hval]
  rintro e w1 ⟨rfl, hE1⟩
  have HE := Lib.hid (((Ext.rf w).al _).trans' hE1)
  clear hE1
  go_wp2
  go_ret2
  exact ⟨rfl, HE.out⟩

set_option maxHeartbeats 4000000 in
theorem jread_ok (v : Value) (l : List Int) (d f : Int) (w : World) (hv : Bys w v l) (hn : l.length ≤ 1000000) (hval : validJ l.length d f = true) :
    Calls Try.prog 20 #[.agg #[v, .int .i64 d, .int .i64 f]] w fun e w' => ∃ v', e = .returned (.tuple #[v', .int .i64 0]) ∧ RowRows w' w.heap.size 22 5 (Value.int .u8) v' (recordsL l) ∧ Ext w w' := by
  have HV := Lib.hid hv
  have HN := Lib.hid hn
  obtain ⟨_, a, c, rfl, hlc, hvc⟩ := hv
  clear hvc
  generalize hq : l.length = q at hn hlc hval ⊢
  have HQ := Lib.hid hq
  rw [hq] at HV
  clear hq
  go_enter Try.func20, Try.ntmps20
  go_wp2_with fail
  refine (valid_calls _ _ _ _ _ _ (by omega)).mono ?_
  rw [hval]
  rintro e w1 ⟨rfl, hE1⟩
  have HE := Lib.hid (((Ext.rf w).al _).trans' hE1)
  have hc0 := hE1.cl (cell_new w #[.slice a q c, .int .i64 d, .int .i64 f] 24 0 _ rfl)
  clear hE1
  go_wp2_with fail
  refine (records_calls _ l w1 (HV.out.ext HE.out) HN.out).mono ?_
  rintro e w2 ⟨v2, rfl, hRR, hE2⟩
  have HRR := Lib.hid hRR
  have HE2 := Lib.hid hE2
  clear hRR hE2
  go_wp2
  go_ret2
  exact ⟨_, rfl, HRR.out.mono HE.out.sz, HE.out.trans' HE2.out⟩

end Go.Proofs.Ytggofkaakccoeaa
