/-
  Put, End and New of both texts, all cases.
-/
import Derived.Test.YtggofkaakccoeaaBase
import Derived.Test.YtggofkaakccoeaaProg
import Derived.BigQuiet
import Derived.Deep.QuietTactic
import Derived.Deep.LoopGhost
import Derived.Shelf.Abstract
import Derived.Test.YtggofkaakccoeaaCkT
import Derived.Test.YtggofkaakccoeaaCkV
import Derived.Test.YtggofkaakccoeaaCkO
import Derived.Test.YtggofkaakccoeaaCkP
import Derived.Test.YtggofkaakccoeaaCkZ
namespace Go.Proofs.Ytggofkaakccoeaa
open Go.RowKit
set_option linter.unusedVariables false

def putRes (s : Ck) (p : Int) (v : List Int) : Ck := if putErr s p v = 0 then putC s p.toNat v else zeroC
def endRes (s : Ck) (p : Int) : Ck := if endErr s p = 0 then endC s p.toNat else zeroC
/-- A checker and the number of an error, handed back. -/
def TwoOut (w w' : World) (e : Ending) (s : Ck) (E : Int) : Prop := ∃ vq ve vc, e = .returned (.tuple #[.agg #[vq, ve, .bool s.done, vc], .int .i64 E]) ∧ OwnCk w' w.heap.size vq ve vc s ∧ Ext w w'
theorem PutOut.two {w w' : World} {e : Ending} {s : Ck} (h : PutOut w w' e s) : TwoOut w w' e s 0 := by
  obtain ⟨vq, ve, vc, h1, h2, h3⟩ := h
  exact ⟨vq, ve, vc, h1, h2, h3⟩
theorem zero_two {w w' : World} {e : Ending} {E : Int} (h : e = .returned (.tuple #[.agg #[.slice none 0 0, .slice none 0 0, .bool false, .slice none 0 0], .int .i64 E]) ∧ Ext w w') : TwoOut w w' e zeroC E :=
  ⟨_, _, _, h.1, ⟨OwnQs.mkNil _ _ _ _ _, Row.mkNil _ _ _ _, Row.mkNil _ _ _ _⟩, h.2⟩

theorem putP_all (uq ue uc v : Value) (s : Ck) (p : Int) (lv : List Int) (w : World) (h : CkAt w uq ue uc s) (hs : SmallC s) (hv : Ints w v lv) (hvn : lv.length ≤ 1000000) :
    Calls Try.prog 59 #[.agg #[uq, ue, .bool s.done, uc], .int .i64 p, v] w fun e w' => TwoOut w w' e (putRes s p lv) (putErr s p lv) := by
  by_cases h0 : putErr s p lv = 0
  · obtain ⟨P, rfl⟩ : ∃ P : Nat, p = P := ⟨p.toNat, by have := (put_parts h0).2.1; omega⟩
    rw [putRes, if_pos h0, h0, Int.toNat_natCast]
    exact (putP_ok uq ue uc v s P lv w h hs hv hvn h0).mono fun _ _ h => h.two
  · rw [putRes, if_neg h0]
    exact (putP_bad uq ue uc v s p lv w _ h hs hv hvn rfl h0).mono fun _ _ h => zero_two h
theorem putR_all (uq ue uc v : Value) (s : Ck) (p : Int) (lv : List Int) (w : World) (h : CkAt w uq ue uc s) (hs : SmallC s) (hv : Ints w v lv) (hvn : lv.length ≤ 1000000) :
    Calls Try.prog 63 #[.agg #[uq, ue, .bool s.done, uc], .int .i64 p, v] w fun e w' => TwoOut w w' e (putRes s p lv) (putErr s p lv) := by
  by_cases h0 : putErr s p lv = 0
  · obtain ⟨P, rfl⟩ : ∃ P : Nat, p = P := ⟨p.toNat, by have := (put_parts h0).2.1; omega⟩
    rw [putRes, if_pos h0, h0, Int.toNat_natCast]
    exact (putR_ok uq ue uc v s P lv w h hs hv hvn h0).mono fun _ _ h => h.two
  · rw [putRes, if_neg h0]
    exact (putR_bad uq ue uc v s p lv w _ h hs hv hvn rfl h0).mono fun _ _ h => zero_two h
theorem endP_all (uq ue uc : Value) (s : Ck) (p : Int) (w : World) (h : CkAt w uq ue uc s) (hs : SmallC s) :
    Calls Try.prog 58 #[.agg #[uq, ue, .bool s.done, uc], .int .i64 p] w fun e w' => TwoOut w w' e (endRes s p) (endErr s p) := by
  by_cases h0 : endErr s p = 0
  · obtain ⟨P, rfl⟩ : ∃ P : Nat, p = P := ⟨p.toNat, by have := (end_parts h0).2.1; omega⟩
    rw [endRes, if_pos h0, h0, Int.toNat_natCast]
    exact (endP_ok uq ue uc s P w h hs h0).mono fun _ _ h => h.two
  · rw [endRes, if_neg h0]
    exact (endP_bad uq ue uc s p w _ h hs rfl h0).mono fun _ _ h => zero_two h
theorem endR_all (uq ue uc : Value) (s : Ck) (p : Int) (w : World) (h : CkAt w uq ue uc s) (hs : SmallC s) :
    Calls Try.prog 62 #[.agg #[uq, ue, .bool s.done, uc], .int .i64 p] w fun e w' => TwoOut w w' e (endRes s p) (endErr s p) := by
  by_cases h0 : endErr s p = 0
  · obtain ⟨P, rfl⟩ : ∃ P : Nat, p = P := ⟨p.toNat, by have := (end_parts h0).2.1; omega⟩
    rw [endRes, if_pos h0, h0, Int.toNat_natCast]
    exact (endR_ok uq ue uc s P w h hs h0).mono fun _ _ h => h.two
  · rw [endRes, if_neg h0]
    exact (endR_bad uq ue uc s p w _ h hs rfl h0).mono fun _ _ h => zero_two h
theorem putRes_small (s : Ck) (p : Int) (v : List Int) : SmallC (putRes s p v) := by
  unfold putRes
  split
  · rename_i h0
    obtain ⟨P, rfl⟩ : ∃ P : Nat, p = P := ⟨p.toNat, by have := (put_parts h0).2.1; omega⟩
    rw [Int.toNat_natCast]
    exact valid_small (put_valid h0)
  · exact zero_small
theorem endRes_small {s : Ck} (hs : SmallC s) (p : Int) : SmallC (endRes s p) := by
  unfold endRes
  split
  · have := cutB_len s.qs
    refine ⟨hs.1, ?_, ?_, hs.2.2.2⟩
    · show (s.ended.set p.toNat true).length ≤ 1000000
      rw [List.length_set]; exact hs.2.1
    · show (cutB s.qs).length ≤ 1000000
      have := hs.1
      omega
  · exact zero_small
theorem newC_small (n : Nat) (h : n ≤ 8) : SmallC (newC n) := by
  refine ⟨?_, ?_, Nat.zero_le _, fun p hp => ?_⟩
  · show (List.replicate n _).length ≤ 1000000
    rw [List.length_replicate]; omega
  · show (List.replicate n _).length ≤ 1000000
    rw [List.length_replicate]; omega
  · have hp' : p < n := by have e : (newC n).qs.length = n := List.length_replicate; omega
    have e : (newC n).qs[p]! = [] := rep_at _ _ _ hp'
    rw [e]
    exact ⟨by decide, fun i hi => absurd hi (by simp)⟩

end Go.Proofs.Ytggofkaakccoeaa
