/-
  Append and Sync of both texts come to the same journal.
-/
import Derived.Test.YtggofkaakccoeaaBase
import Derived.Test.YtggofkaakccoeaaProg
import Derived.BigQuiet
import Derived.Deep.QuietTactic
import Derived.Deep.LoopGhost
import Derived.Shelf.Abstract
import Derived.Test.YtggofkaakccoeaaOpensL52
import Derived.Test.YtggofkaakccoeaaRefD52
namespace Go.Proofs.Ytggofkaakccoeaa
open Go.RowKit
set_option linter.unusedVariables false

theorem wrote_byte {f : Int} {b : List Int} (h : ∀ x, x ∈ b → Byte x) : ∀ x, x ∈ wrote f b → Byte x := by
  unfold wrote
  split
  · exact h
  · exact bytes_take h
theorem wrote_len (f : Int) (b : List Int) : (wrote f b).length ≤ b.length := by
  unfold wrote
  split
  · exact Nat.le_refl _
  · rw [List.length_take]; omega
theorem appL_byte {l : List Int} {f : Int} {b : List Int} (hl : ∀ x, x ∈ l → Byte x) (hb : ∀ x, x ∈ b → Byte x) : ∀ x, x ∈ appL l f b → Byte x := by
  intro x hx
  unfold appL at hx
  rcases List.mem_append.1 hx with h | h
  · exact bytes_take hl x h
  · exact wrote_byte (rec_byte hb) x h
theorem appL_len (l : List Int) (f : Int) (b : List Int) : (appL l f b).length ≤ l.length + b.length + 8 := by
  unfold appL
  rw [List.length_append, List.length_take]
  have := wrote_len f (recL b)
  rw [rec_len] at this
  omega

/-- What a function of both texts hands back: the same journal, the same error. -/
def Both (w : World) (F G : FuncId) (args : Array Value) (L : List Int) (D A E : Int) : Prop :=
  (∀ x, x ∈ L → Byte x) ∧ L.length ≤ 1000000 ∧
  (∀ W, Ext w W → Calls Try.prog F args W fun e w' => JOut W w' e L D A E) ∧
  (∀ W, Ext w W → Calls Try.prog G args W fun e w' => JOut W w' e L D A E)

theorem append_both (v : Value) (l : List Int) (d f : Int) (u : Value) (b : List Int) (w : World) (hv : Bys w v l) (hn : l.length ≤ 200000) (hu : Bys w u b) (hnn : b.length ≤ 100000) :
    ∃ L D A E, Both w 18 24 #[.agg #[v, .int .i64 d, .int .i64 f], u] L D A E := by
  have hv' := hv
  have hu' := hu
  obtain ⟨hlb, a, c, rfl, _, _⟩ := hv
  obtain ⟨hbb, a2, c2, rfl, _, _⟩ := hu
  by_cases h0 : checkN l d f b.length = 0
  · have hval : validJ l.length d f = true := by
      unfold checkN at h0
      cases h1 : validJ l.length d f <;> simp [h1] at h0 ⊢
    have hp := validJ_parts hval
    refine ⟨appL l f b, min d (wholeR (recordsL l)), leftF f (recL b), crashE f (recL b), appL_byte hlb hbb, by have := appL_len l f b; omega, fun W hW => ?_, fun W hW => ?_⟩
    · exact append_ok a c l d f a2 c2 b W (hv'.ext hW) (by omega) (hu'.ext hW) hnn h0 hp.2.2.2.1 hp.2.2.2.2
    · exact refAppend_ok a c l d f a2 c2 b W (hv'.ext hW) (by omega) (hu'.ext hW) hnn h0 hp.2.2.2.1 hp.2.2.2.2
  · refine ⟨[], 0, 0, checkN l d f b.length, by simp, by simp, fun W hW => ?_, fun W hW => ?_⟩
    · exact append_bad a c l d f a2 b.length c2 _ W (hv'.ext hW) (by omega) (by omega) rfl h0
    · exact (refAppend_bad a c l d f a2 c2 b.length W _ (hv'.ext hW) (by omega) (by omega) rfl h0).mono fun e w' ⟨he, hx⟩ => ⟨_, he, Row.mkNil _ _ _ _, hx⟩

theorem sync_both (v : Value) (l : List Int) (d f : Int) (w : World) (hv : Bys w v l) (hn : l.length ≤ 200000) :
    ∃ L D A E, Both w 23 25 #[.agg #[v, .int .i64 d, .int .i64 f]] L D A E := by
  have hv' := hv
  obtain ⟨hlb, a, c, rfl, _, _⟩ := hv
  cases hval : validJ l.length d f with
  | true =>
    refine ⟨l, (if f = 0 then d else l.length), f, (if f = 0 then 19 else 0), hlb, by omega, fun W hW => ?_, fun W hW => ?_⟩
    · exact sync_ok _ l d f W (hv'.ext hW) (by omega) hval
    · exact refSync_ok _ l d f W (hv'.ext hW) (by omega) hval
  | false =>
    refine ⟨[], 0, 0, 1, by simp, by simp, fun W hW => ?_, fun W hW => ?_⟩
    · exact sync_bad a l.length c d f W (by omega) hval
    · exact (refSync_bad a l.length c d f W (by omega) hval).mono fun e w' ⟨he, hx⟩ => ⟨_, he, Row.mkNil _ _ _ _, hx⟩

end Go.Proofs.Ytggofkaakccoeaa
