/-
  The law CutIdeals returns true for every input that the row lets in, and leaves its arguments as they were; no further conditions. The one listed variable (the library's table of trailing zeros) is tied to the library's text by the given tie.
-/
import Derived.Test.YtbpdbikphlhaiaaGreatDoorRows
import Derived.Test.YtbpdbikphlhaiaaGreatDoorCards
import Derived.Test.YtbpdbikphlhaiaaGreatDoorTie
import Derived.Test.YtbpdbikphlhaiaaGreatDoorLawI22
import Derived.Test.YtbpdbikphlhaiaaGreatDoorGo
import Derived.Test.YtbpdbikphlhaiaaGreatDoorGi
import Derived.WalkKit
import Derived.ProofKit
import Derived.OpenShut
import Derived.ChangeOld
import Derived.Below
import Derived.Lib.LaidTab
import Derived.LaidMore
import Derived.Stop.Joined
import Derived.SevenTiedAt
namespace Go.Proofs.YtbpdbikphlhaiaaGreatDoor.cutIdeals
open Go.ChangeShapes Go.WideShapes Go.ChangeAt Go.RowKit
set_option linter.unusedVariables false
theorem own : ownKnob Tryz.prog.godebug = none := by kernel_rfl
theorem laidOut : laidOutB Tryz.prog = true := by kernel_rfl
def laidL : List (String × DataW Unit) := [("math/bits.deBruijn64tab", Rows.laid_math_bits_deBruijn64tab)]
theorem tabG : Tryz.prog.globalNamed "math/bits.deBruijn64tab" = some 0 := by kernel_rfl
theorem tabT : (Tryz.prog.globals[0]?).map (·.type) = some 161 := by kernel_rfl
theorem tabC8 : Tryz.prog.cellsOf 5 = 1 := by kernel_rfl
theorem tabC64 : Tryz.prog.cellsOf 161 = 64 := by kernel_rfl
theorem tabD : Rows.laid_math_bits_deBruijn64tab (H := Unit) = Lib.tabData .u8 (Go.Lib.deBruijn64tab.map fun (j : Nat) => (j : Int)) := by rfl
theorem door_met (os : Os) (args : Array Value) : laidMetH Tryz.prog laidL ((World.doorLaid Tryz.prog 14 os).forCall (fun _ _ => 0) ⟨#[], args, []⟩).memory :=
 laidMetH_of_parts3 (fuel := 8) (laidMet_of_run' 8 (by kernel_rfl) (by kernel_rfl)) (by kernel_rfl) (by kernel_rfl)
theorem of_laid {W : World} (h : laidMetH Tryz.prog laidL W) : TabG W := by
 rw [MakeChecks.laidMetH_plain _ _ _ (by kernel_rfl)] at h
 unfold laidL at h
 rw [tabD] at h
 have h1 := Lib.tabIs_of_head tabG tabT Tryz.underlying161 Tryz.underlying5 tabC8 tabC64 h
 intro j hj
 have h2 := World.var?_cell tabG h1 j
 rw [h2]
 have hl : j < Go.Lib.deBruijn64tab.length := by rw [show Go.Lib.deBruijn64tab.length = 64 from rfl]; exact hj
 rw [List.getElem?_toArray, List.getElem?_map, List.getElem?_map, List.getElem?_eq_getElem hl]
 simp [List.getD, List.getElem?_eq_getElem hl]
set_option maxRecDepth 100000 in
set_option maxHeartbeats 4000000 in
theorem lifted (os : Os) (started : os.Started) (H : Type) (enc : TypeId × Value → H) :
  ReturnsInHanded {} Tryz.checked os 3 .any (fun w args => (Rows.cutIdealsSpec.pre enc Tryz.prog Tryz.f3 [] false w args ∧ laidMetH Tryz.prog laidL w) ∧ sizedMet enc Tryz.prog Tryz.f3 (OpenSpec.ofChange Rows.cutIdealsSpec) false w args)
   (Rows.cutIdealsSpec.post enc Tryz.prog Tryz.f3 false true false false) := by
 refine returnsInHanded_of_change_and (C := Tryz.checked) (X := fun w _ => laidMetH Tryz.prog laidL w) (fun _ _ _ hh h => h.of_heap hh) own started (by kernel_rfl) Tryz.func3
  (ChangeSpec.witness_shaped (enc := enc) (C := Tryz.checked) (os := os) (X := fun w _ => laidMetH Tryz.prog laidL w) false (World.doorLaid Tryz.prog 14 os) #[.agg #[.slice none 0 0], .slice none 0 0] 8 rfl (World.shaped_of_RefB (by kernel_rfl) (by kernel_rfl)) (by kernel_rfl) (by kernel_rfl) (by kernel_rfl) (door_met os _)) ?_
 intro W base args ds gs before hval0 hW _ _ hL _
 have hval : ∀ (j : Nat) t v, Tryz.f3.params[j]? = some t → args[j]? = some v → Value.okWide Tryz.prog W .any base t v := hval0
 have hW' := hW
 obtain ⟨p, q, hA0, hV, rfl, hfz, hnd⟩ := hW
 have hA : DataW.TrodAll enc Tryz.prog W 0 (fun _ => true) true Tryz.f3.params.toList args.toList ds p := hA0
 rw [Tryz.params3] at hA hval
 obtain ⟨v0, vs0, d0, ds0, p0, q0, hargs, rfl, rfl, h0, r0⟩ := trodAll_cons hA
 obtain ⟨v1, vs1, d1, ds1, p1, q1, rfl, rfl, rfl, h1, r1⟩ := trodAll_cons r0
 obtain ⟨rfl, rfl, rfl⟩ := trodAll_nil r1
 obtain rfl : args = #[v0, v1] := by cases args; simp_all
 obtain ⟨rfl, rfl⟩ := trodVars_none hV
 have k0 := h0
 have lt0 : ∀ x ∈ p0, x.block < W.heap.size := by obtain ⟨m, hm⟩ := k0; exact DataW.trod_lt m _ _ _ hm
 have k1 := h1
 have lt1 : ∀ x ∈ p1, x.block < W.heap.size := by obtain ⟨m, hm⟩ := k1; exact DataW.trod_lt m _ _ _ hm
 obtain ⟨cs0, rfl, _⟩ := okWide_struct Tryz.underlying24 (hval 0 24 v0 rfl rfl)
 obtain ⟨t, vt, ht0, ht, htop⟩ := gives_arg gives_trace h0
 obtain rfl : cs0 = #[vt] := by cases cs0; simpa [Value.cells] using ht0
 obtain ⟨sa1, sl1, sc1, rfl⟩ := okWide_slice Tryz.underlying25 (hval 1 25 v1 rfl rfl)
 obtain ⟨a, ua, hva, ha, hsa⟩ := gives_arg (gives_ints Tryz.underlying25 Tryz.underlying3 (by kernel_rfl)) h1
 obtain rfl : Value.slice sa1 sl1 sc1 = ua := by simpa [Value.cells] using hva
 clear hA0 hval0
 refine (cutIdeals_calls _ _ t a W ht htop ha (of_laid hL)).mono fun e W' ⟨he, bel⟩ => ?_
 subst he
 exact ⟨_, rfl, _, _, _, [], _, [], hW', trodAll_mk1 (shut_bool Tryz.underlying4 _), (trodAll_cons_mk (Below.trod laidOut (by kernel_rfl) (of_decide_eq_true (by kernel_rfl)) k0 bel lt0) (trodAll_cons_mk (Below.trod laidOut (by kernel_rfl) (of_decide_eq_true (by kernel_rfl)) k1 bel lt1) trodAll_mk0)), rfl, bel.frame _, fun h => by cases h⟩
theorem over : Rows.cutIdealsRow.holds Tryz.pinned (OpenSpec.ofChange Rows.cutIdealsSpec) :=
 OpenClaim.holds_of_wide 3 Tryz.f3 rfl rfl rfl rfl rfl rfl rfl ⟨rfl, rfl, rfl, rfl, rfl⟩ rfl rfl rfl rfl rfl (by kernel_rfl) Tryz.func3 (by kernel_rfl)
  (of_decide_eq_true (by kernel_rfl)) (by unfold Func.isWrapper; first | (rw [if_pos (by decide +kernel)]; kernel_rfl) | (rw [if_neg (by decide +kernel)]; exact ⟨rfl, rfl⟩))
  (fun os started H enc _ => lifted os started H enc)
end Go.Proofs.YtbpdbikphlhaiaaGreatDoor.cutIdeals
namespace Go.Proofs.YtbpdbikphlhaiaaGreatDoor
theorem cutIdeals_holds : Rows.CutIdealsCardSaid :=
 Claim7.holds_tied_plain_at .later [] [.data] true (true, "b057ff44b9757b48452af60e817c59c1053444ded4064b557bd6354b942e655b") false
  cutIdeals.over (fun _ h => by cases h) (by kernel_rfl) (fun _ h => by cases h) cutIdeals_row_tie rfl ⟨rfl, rfl⟩ (by kernel_rfl) rfl
  (fun f fn hf hfn => by
   obtain rfl : f = 3 := Option.some.inj ((show Tryz.prog.funcNamed "antecede/antecedelaw22.CutIdeals" = some 3 by kernel_rfl).symm.trans hf) |>.symm
   obtain rfl : fn = Tryz.f3 := (Option.some.inj (Tryz.func3.symm.trans hfn)).symm
   exact ⟨by kernel_rfl, fun j t ht => by
    rw [Tryz.params3] at ht
    have hm : t ∈ [24, 25] := by simpa using Array.mem_of_getElem? ht
    have hall : ([24, 25].all fun u => !Tryz.prog.wantsStandIn u) = true := by kernel_rfl
    exact (show Tryz.prog.wantsStandIn t = false by simpa using List.all_eq_true.1 hall t hm)⟩)
  (by kernel_rfl)
#print axioms cutIdeals_holds
end Go.Proofs.YtbpdbikphlhaiaaGreatDoor
