import Derived.Test.YtfagfooggcinoaaGreatJa
import Derived.Test.YtfagfooggcinoaaGreatProg
import Derived.Test.YtfagfooggcinoaaGreatGk
import Derived.Test.YtfagfooggcinoaaGreatGd
import Derived.Test.YtfagfooggcinoaaGreatGb
import Derived.Test.YtfagfooggcinoaaGreatGl
import Derived.Test.YtfagfooggcinoaaGreatGj
import Derived.Test.YtfagfooggcinoaaGreatGe
import Derived.BigQuiet
import Derived.Deep.QuietTactic
import Derived.Deep.LoopGhost
import Derived.Shelf.Abstract
namespace Go.Proofs.YtfagfooggcinoaaGreat
open Go.RowKit
set_option linter.unusedVariables false
attribute [local go_sem ↓] Go.wp_at_zero Go.wp_at_succ
end Go.Proofs.YtfagfooggcinoaaGreat
namespace Go.Proofs.YtfagfooggcinoaaGreat
open Go.RowKit
set_option linter.unusedVariables false
noncomputable def lineE (t : Tr) (r : List (List Int)) (a : Int) (l : List Mk) : Int :=
 if (validT t && (validK l && decide (l.length = t.length))) = false then 1 else if runB t r = false then 3 else if (decide (0 ≤ a) && decide (a < (r.length : Int))) = false then 2 else if recordedB l = false then 6 else 0
noncomputable def lineB (t : Tr) (r : List (List Int)) (a : Int) (l : List Mk) : Bool :=
 if lineE t r a l = 0 then consB t (cntsL l) && leCB r[a.toNat]! (cntsL l) else false
end Go.Proofs.YtfagfooggcinoaaGreat
namespace Go.Proofs.YtfagfooggcinoaaGreat
open Go.RowKit
set_option linter.unusedVariables false
theorem under_len64 {t : Tr} {c : List Int} (hv : validT t = true) (hc : RangeC t c) {f : Nat} (hf : f < t.length) (q : Int) : (underC t c f q).length ≤ 64 := by
 have h1 := uwTo_len t c q f c[f]!.toNat
 have h2 := hc.at hf
 have h3 := valid_64 hv hf
 unfold underC
 omega
theorem cutM_lightE {t : Tr} {c : List Int} (hv : validT t = true) (hc : RangeC t c) : LightM (cutM t c) := by
 have h8 := (valid_8 hv).2
 refine ⟨by rw [cutM_len]; omega, fun i hi => ?_⟩
 rw [cutM_len] at hi
 rw [cutM_at hi]
 refine ⟨by simp only [List.length_replicate]; omega, by simp only [List.length_map, List.length_range]; omega, fun j hj => ?_⟩
 simp only [List.length_map, List.length_range] at hj
 simp only
 rw [mapR_at _ hj]
 have := under_len64 hv hc hj (i : Int)
 omega
end Go.Proofs.YtfagfooggcinoaaGreat
namespace Go.Proofs.YtfagfooggcinoaaGreat
open Go.RowKit
set_option linter.unusedVariables false
def wide12 (x : List Int) : Bool := decide (12 < x.length)
def shortB (r : List (List Int)) : Bool := decide (r.length ≤ 80) && !(r.any wide12)
end Go.Proofs.YtfagfooggcinoaaGreat
