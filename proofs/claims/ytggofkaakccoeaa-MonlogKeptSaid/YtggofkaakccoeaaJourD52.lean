/-
  Append, Sync, Crash and Read of package monlog.
-/
import Derived.Test.YtggofkaakccoeaaBase
import Derived.Test.YtggofkaakccoeaaProg
import Derived.BigQuiet
import Derived.Deep.QuietTactic
import Derived.Deep.LoopGhost
import Derived.Shelf.Abstract
import Derived.Test.YtggofkaakccoeaaJourE52
import Derived.Test.YtggofkaakccoeaaBoxes52
namespace Go.Proofs.Ytggofkaakccoeaa
open Go.RowKit
set_option linter.unusedVariables false

theorem Writer.ext {w w' : World} {base g : Nat} {u : Value} {l : List Int} {d f : Int} {cr : Bool} (h : Writer w base g u l d f cr) (x : Ext w w') : Writer w' base g u l d f cr :=
  ⟨h.1, x.hp h.2.1, h.2.2.1.ext x, h.2.2.2⟩

/-- A journal of the call's own, and an error. -/
def JOut (w w' : World) (e : Ending) (L : List Int) (D F E : Int) : Prop :=
  ∃ v, e = .returned (.tuple #[.agg #[v, .int .i64 D, .int .i64 F], .int .i64 E]) ∧ Row w' w.heap.size 5 1 v L.length (L.map (Value.int .u8)) ∧ Ext w w'

def crashE (f : Int) (b : List Int) : Int := if crashF f b then 19 else 0
def appL (l : List Int) (f : Int) (b : List Int) : List Int := l.take (wholeR (recordsL l)) ++ wrote f (recL b)

set_option maxHeartbeats 2000000 in
theorem append_bad (a : Option Addr) (c : Nat) (l : List Int) (d f : Int) (b : Option Addr) (n m : Nat) (E : Int) (w : World) (hv : Bys w (.slice a l.length c) l) (hn : l.length ≤ 1000000) (hnn : n ≤ 1000000) (hE : checkN l d f n = E) (h0 : E ≠ 0) :
    Calls Try.prog 18 #[.agg #[.slice a l.length c, .int .i64 d, .int .i64 f], .slice b n m] w fun e w' => JOut w w' e [] 0 0 E := by
  have HC := Lib.hid (check_calls a c l d f b n m ((w.alloc (.cells #[.slice a l.length c, .int .i64 d, .int .i64 f] 24)).alloc (.cells #[.slice none 0 0, .int .i64 0, .int .i64 0] 24)) (hv.ext (((Ext.rf w).al _).al _)) hn hnn)
  rw [hE] at HC
  clear hE hv
  have e0 : (E != 0) = true := by simpa using h0
  generalize l.length = q at *
  clear h0
  go_enter Try.func18, Try.ntmps18
  go_wp2_with fail
  refine HC.out.mono ?_
  rintro e w1 ⟨rfl, hE1⟩
  have hsz := hE1.sz
  simp at hsz
  have hh := hE1.hp (heap_alloc_new (w.alloc (.cells #[.slice a q c, .int .i64 d, .int .i64 f] 24)) (.cells #[.slice none 0 0, .int .i64 0, .int .i64 0] 24))
  rw [show (w.alloc (.cells #[.slice a q c, .int .i64 d, .int .i64 f] 24)).heap.size = w.heap.size + 1 from by simp] at hh
  have HH := Lib.hid hh
  have HE := Lib.hid ((((Ext.rf w).al _).al _).trans' hE1)
  clear hh hE1
  have r0 := cell_of HH.out 0
  have r1 := cell_of HH.out 1
  have r2 := cell_of HH.out 2
  simp only [List.getElem?_toArray, List.getElem?_cons_zero, List.getElem?_cons_succ] at r0 r1 r2
  have q0 := free_of HH.out 0
  have q1 := free_of HH.out 1
  have q2 := free_of HH.out 2
  go_wp2
  refine bodyPost_ret (v := .tuple #[.agg #[.slice none 0 0, .int .i64 0, .int .i64 0], .int .i64 E]) (by simp [results, Try.results18, go_sem, *]) rfl ⟨_, rfl, Row.mkNil _ _ _ _, (by repeat (first | refine Ext.st ?_ (by first | exact Nat.le_refl _ | exact Nat.le_succ _ | assumption | omega) _ | refine Ext.al ?_ _ | refine Ext.dr ?_ | refine Ext.drN ?_ _ | exact HE.out))⟩

set_option maxHeartbeats 4000000 in
theorem append_ok (a : Option Addr) (c : Nat) (l : List Int) (d f : Int) (ba : Option Addr) (m : Nat) (b : List Int) (w : World) (hv : Bys w (.slice a l.length c) l) (hn : l.length ≤ 1000000) (hb : Bys w (.slice ba b.length m) b) (hnn : b.length ≤ 100000) (hE : checkN l d f b.length = 0) (hf : -1 ≤ f) (hf2 : f ≤ 1073741824) :
    Calls Try.prog 18 #[.agg #[.slice a l.length c, .int .i64 d, .int .i64 f], .slice ba b.length m] w fun e w' => JOut w w' e (appL l f b) (min d (wholeR (recordsL l))) (leftF f (recL b)) (crashE f (recL b)) := by
  have HC := Lib.hid (check_calls a c l d f ba b.length m ((w.alloc (.cells #[.slice a l.length c, .int .i64 d, .int .i64 f] 24)).alloc (.cells #[.slice none 0 0, .int .i64 0, .int .i64 0] 24)) (hv.ext (((Ext.rf w).al _).al _)) hn (by omega))
  rw [hE] at HC
  clear hE
  have hWL := whole_le' l hv.1
  have hrl := rec_len b
  have HTR := Lib.hid (fun W => trimmed_calls a c l d f W)
  have HTK := Lib.hid (hv.take (wholeR (recordsL l)) hWL)
  have HV := Lib.hid hv
  have HB := Lib.hid hb
  have HRL := Lib.hid hrl
  generalize hT : wholeR (recordsL l) = T at *
  have HT := Lib.hid hT
  generalize hq : l.length = q at *
  have HQ := Lib.hid hq
  generalize hbl : b.length = n at *
  have HBL := Lib.hid hbl
  generalize hrc : recL b = R at *
  have HR := Lib.hid hrc
  clear hv hb hT hq hbl hrc hrl
  go_enter Try.func18, Try.ntmps18
  go_wp2_with fail
  refine HC.out.mono ?_
  rintro e w1 ⟨rfl, hE1⟩
  have hsz := hE1.sz
  simp at hsz
  have hh := hE1.hp (heap_alloc_new (w.alloc (.cells #[.slice a q c, .int .i64 d, .int .i64 f] 24)) (.cells #[.slice none 0 0, .int .i64 0, .int .i64 0] 24))
  rw [show (w.alloc (.cells #[.slice a q c, .int .i64 d, .int .i64 f] 24)).heap.size = w.heap.size + 1 from by simp] at hh
  have hh2 := hE1.hp (((Ext.rf (w.alloc (.cells #[.slice a q c, .int .i64 d, .int .i64 f] 24))).al (.cells #[.slice none 0 0, .int .i64 0, .int .i64 0] 24)).hp (heap_alloc_new w (.cells #[.slice a q c, .int .i64 d, .int .i64 f] 24)))
  have HH := Lib.hid hh
  have HH2 := Lib.hid hh2
  have HE := Lib.hid ((((Ext.rf w).al _).al _).trans' hE1)
  clear hh hE1 hh2
  have c0 := cell_of HH2.out 0
  have c1 := cell_of HH2.out 1
  have c2 := cell_of HH2.out 2
  simp only [List.getElem?_toArray, List.getElem?_cons_zero, List.getElem?_cons_succ] at c0 c1 c2
  go_wp2_with fail
  refine (HTR.out w1 (HV.out.ext HE.out) hn).mono ?_
  rintro e w2 ⟨rfl, hE2⟩
  have HE2 := Lib.hid hE2; clear hE2
  go_wp2_with fail
  refine (open_calls _ (l.take T) _ _ w2 (HTK.out.ext (HE.out.trans' HE2.out)) (by rw [List.length_take]; omega)).mono ?_
  rintro e w3 ⟨g, u, rfl, hW3, hE3⟩
  have HW3 := Lib.hid hW3
  have HE3 := Lib.hid hE3
  clear hW3 hE3
  go_wp2_with fail
  refine (record_calls _ b _ (HB.out.ext ((HE.out.trans' HE2.out).trans' HE3.out)) (by rw [HBL.out]; omega)).mono ?_
  rintro e w4 ⟨v4, rfl, hR4, hE4⟩
  have HR4 := Lib.hid hR4
  have HE4 := Lib.hid hE4
  clear hR4 hE4
  go_wp2_with fail
  have hby4 : Bys w4 v4 R := by
    have := HR4.out.bys (rec_byte HB.out.1)
    rw [HR.out] at this; exact this
  refine (write_calls g w2.heap.size u (l.take T) _ f v4 R w4 (HW3.out.ext HE4.out) (by have := HE3.out.sz; have := HE4.out.sz; omega) hby4 (by have := HRL.out; omega) (by rw [List.length_take]; omega) hf hf2 ?_).mono ?_
  · intro k hk
    have h1 := (HR4.out.lt k hk).1
    have h2 := (Array.getElem?_eq_some_iff.1 HW3.out.2.1).1
    refine ⟨by omega, fun h => ?_⟩
    have := (HW3.out.2.2.1.lt k h).2
    omega
  rintro e w5 ⟨⟨x, rfl⟩, ⟨u5, hW5⟩, hB5⟩
  have HW5 := Lib.hid hW5
  have HB5 := Lib.hid hB5
  clear hW5 hB5 hby4
  go_wp2_with fail
  refine (result_calls g _ u5 _ _ _ _ w5 HW5.out).mono ?_
  rintro e w6 ⟨rfl, hE6⟩
  have HE5 := Lib.hid ((HE.out.trans' HE2.out).trans' ((show Ext w2 w5 from Below.trans (HE3.out.trans' HE4.out) HB5.out).trans' hE6))
  have hh := hE6.hp ((show Ext w2 w5 from Below.trans (HE3.out.trans' HE4.out) HB5.out).hp (HE2.out.hp HH.out))
  have HH6 := Lib.hid hh
  have hrow := HW5.out.2.2.1.ext hE6
  obtain ⟨ua, uc, rfl, _, hsh⟩ := hrow.any
  have HROW := Lib.hid hrow
  have hs2 := HE2.out.sz
  have hs1 := HE.out.sz
  clear hrow hh hE6 hsh
  have r0 := cell_of HH6.out 0
  have r1 := cell_of HH6.out 1
  have r2 := cell_of HH6.out 2
  simp only [List.getElem?_toArray, List.getElem?_cons_zero, List.getElem?_cons_succ] at r0 r1 r2
  have q0 := free_of HH6.out 0
  have q1 := free_of HH6.out 1
  have q2 := free_of HH6.out 2
  have HLL := Lib.hid (show appL l f b = l.take T ++ wrote f R from by unfold appL; rw [HR.out, HT.out])
  generalize hdm : min d (T : Int) = dm
  generalize hlf : leftF f R = lf
  rw [show (if crashF f R = true then (19 : Int) else 0) = crashE f R from rfl]
  generalize her : crashE f R = er
  have HFIN := Lib.hid (And.intro hdm (And.intro hlf her))
  clear hdm hlf her
  generalize hLz : (l.take T ++ wrote f R).length = LL at *
  have HLZ := Lib.hid hLz
  clear hLz
  go_wp2
  refine bodyPost_ret (v := .tuple #[.agg #[.slice ua LL uc, .int .i64 dm, .int .i64 lf], .int .i64 er]) (by simp [results, Try.results18, go_sem, r0, r1, r2]) rfl ?_
  obtain ⟨h1, h2, h3⟩ := HFIN.out
  rw [HLL.out]
  refine ⟨_, by rw [h1, h2, h3], ?_, (by repeat (first | refine Ext.st ?_ (by first | exact Nat.le_refl _ | exact Nat.le_succ _ | assumption | omega) _ | refine Ext.al ?_ _ | refine Ext.dr ?_ | refine Ext.drN ?_ _ | exact HE5.out))⟩
  · rw [HLZ.out]; exact (Row.st3 (base := w2.heap.size) (g := w.heap.size + 1) HROW.out (by omega) _ _ _).mono (by omega)

end Go.Proofs.Ytggofkaakccoeaa
