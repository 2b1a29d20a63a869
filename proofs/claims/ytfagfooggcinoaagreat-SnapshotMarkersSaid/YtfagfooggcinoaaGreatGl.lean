import Derived.Test.YtfagfooggcinoaaGreatGb
import Derived.Test.YtfagfooggcinoaaGreatJa
import Derived.Test.YtfagfooggcinoaaGreatProg
import Derived.Test.YtfagfooggcinoaaGreatGd
import Derived.Test.YtfagfooggcinoaaGreatGk
import Derived.Test.YtfagfooggcinoaaGreatGf
import Derived.Test.YtfagfooggcinoaaGreatGi
import Derived.Test.YtfagfooggcinoaaGreatGh
import Derived.Test.YtfagfooggcinoaaGreatGj
import Derived.BigQuiet
import Derived.Deep.QuietTactic
import Derived.Deep.LoopGhost
import Derived.Shelf.Abstract
import Derived.Deep.DeepCutAuto
namespace Go.Proofs.YtfagfooggcinoaaGreat
set_option linter.unusedVariables false
def msX (l : List Mk) (i j x : Nat) : List Int := (l.take i).flatMap (fun m => m.chan.flatten) ++ ((l[i]!.chan.take j).flatten ++ (l[i]!.chan[j]!).take x)
section
variable {l : List Mk} {i j x : Nat}
def OkMs (ms : List Int) : Prop := ms.Nodup ∧ ∀ y ∈ ms, 0 ≤ y ∧ y ≤ 199
def seenF (ms : List Int) : List Bool := (List.range 200).map fun (y : Nat) => decide ((y : Int) ∈ ms)
end
end Go.Proofs.YtfagfooggcinoaaGreat
namespace Go.Proofs.YtfagfooggcinoaaGreat
open Go.RowKit
set_option linter.unusedVariables false
def VkI (w wr : World) (mb : Nat) (ms : List Int) : Prop := Ext w wr ∧ (∃ mm, mm ≤ ms.length ∧ BMap wr Tryz.prog 3 4 mb mm 200 (seenF ms)) ∧ OkMs ms
end Go.Proofs.YtfagfooggcinoaaGreat
namespace Go.Proofs.YtfagfooggcinoaaGreat
open Go.RowKit
set_option linter.unusedVariables false
end Go.Proofs.YtfagfooggcinoaaGreat
namespace Go.Proofs.YtfagfooggcinoaaGreat
open Go.RowKit
set_option linter.unusedVariables false
def recoB (l : List Mk) : Bool := !(cntsL l).contains (-1)
def CntOut (l : List Mk) (w w' : World) (e : Ending) : Prop := ∃ v, e = .returned (.tuple #[v, .bool (recoB l)]) ∧ Row w' w.heap.size 3 1 v l.length ((cntsL l).map (Value.int .i64)) ∧ Ext w w'
def cutE (l : List Mk) : Int := if validK l = false then 1 else if recordedB l = false then 6 else 0
end Go.Proofs.YtfagfooggcinoaaGreat
namespace Go.Proofs.YtfagfooggcinoaaGreat
open Go.RowKit
set_option linter.unusedVariables false
attribute [local go_sem ↓] Go.wp_at_zero Go.wp_at_succ
end Go.Proofs.YtfagfooggcinoaaGreat
namespace Go.Proofs.YtfagfooggcinoaaGreat
open Go.RowKit
set_option linter.unusedVariables false
noncomputable def wayB (t : Tr) (l : List Mk) (q f : Nat) : Bool := l[q]!.closed[f]! && (underC t (cntsL l) f (q : Int) == l[q]!.chan[f]!)
noncomputable def waysB (t : Tr) (l : List Mk) : Bool := (List.range l.length).all fun q => (List.range l.length).all fun f => wayB t l q f
noncomputable def checkB (t : Tr) (l : List Mk) : Bool := validT t && (validK l && (decide (l.length = t.length) && (recordedB l && (consB t (cntsL l) && waysB t l))))
end Go.Proofs.YtfagfooggcinoaaGreat
namespace Go.Proofs.YtfagfooggcinoaaGreat
open Go.RowKit
set_option linter.unusedVariables false
section
variable {t : Tr} {c : List Int}
def cutM (t : Tr) (c : List Int) : List Mk := cutL t.length c (fun f q => underC t c f (q : Int))
end
def turnsB (t : Tr) (red : List Int) : Bool := (List.range red.length).all fun p => decide (-1 ≤ red[p]!) && decide (red[p]! ≤ (t[p]!.events.length : Int))
end Go.Proofs.YtfagfooggcinoaaGreat
namespace Go.Proofs.YtfagfooggcinoaaGreat
open Go.RowKit
set_option linter.unusedVariables false
def lensTo (t : Tr) (p : Nat) : List Int := (List.range p).map fun (q : Nat) => (t[q]!.events.length : Int)
def lensC (t : Tr) : List Int := lensTo t t.length
theorem lensTo_succ (t : Tr) (p : Nat) : lensTo t (p + 1) = lensTo t p ++ [(t[p]!.events.length : Int)] := by
 unfold lensTo; rw [List.range_succ, List.map_append]; rfl
theorem lensTo_len (t : Tr) (p : Nat) : (lensTo t p).length = p := by simp [lensTo]
end Go.Proofs.YtfagfooggcinoaaGreat
