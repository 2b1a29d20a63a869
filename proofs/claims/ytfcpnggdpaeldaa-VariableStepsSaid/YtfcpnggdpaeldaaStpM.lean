/-
  What the walk of VariableSteps keeps: the state, the least and the greatest values, the changes, the unit steps. No function is named here.
-/
import Derived.Test.YtfcpnggdpaeldaaFam
import Derived.Test.YtfcpnggdpaeldaaGk
namespace Go.Proofs.Ytfcpnggdpaeldaa
open Go.RowKit
set_option linter.unusedVariables false

def lsS (a b c d : List Int) (e : Nat → List Int) : Nat → List Int
  | 0 => a | 1 => b | 2 => c | 3 => d | r + 4 => e r
def vsS (a b c d : Value) (e : Nat → Value) : Nat → Value
  | 0 => a | 1 => b | 2 => c | 3 => d | r + 4 => e r
theorem lsS_1 {a b c d x : List Int} {e : Nat → List Int} : putF (lsS a b c d e) 1 x = lsS a x c d e := by
  funext r; rcases r with _ | _ | _ | _ | r <;> simp [putF, lsS]
theorem lsS_2 {a b c d x : List Int} {e : Nat → List Int} : putF (lsS a b c d e) 2 x = lsS a b x d e := by
  funext r; rcases r with _ | _ | _ | _ | r <;> simp [putF, lsS]
theorem lsS_3 {a b c d x : List Int} {e : Nat → List Int} : putF (lsS a b c d e) 3 x = lsS a b c x e := by
  funext r; rcases r with _ | _ | _ | _ | r <;> simp [putF, lsS]
theorem lsS_0 {a b c d x : List Int} {e : Nat → List Int} : putF (lsS a b c d e) 0 x = lsS x b c d e := by
  funext r; rcases r with _ | _ | _ | _ | r <;> simp [putF, lsS]
theorem lsS_e {a b c d x : List Int} {e : Nat → List Int} {i : Nat} : putF (lsS a b c d e) (i + 4) x = lsS a b c d (putF e i x) := by
  funext r; rcases r with _ | _ | _ | _ | r <;> simp [putF, lsS]
theorem vsS_0 {a b c d x : Value} {e : Nat → Value} : putF (vsS a b c d e) 0 x = vsS x b c d e := by
  funext r; rcases r with _ | _ | _ | _ | r <;> simp [putF, vsS]
theorem vsS_3 {a b c d x : Value} {e : Nat → Value} : putF (vsS a b c d e) 3 x = vsS a b c x e := by
  funext r; rcases r with _ | _ | _ | _ | r <;> simp [putF, vsS]
theorem vsS_e {a b c d x : Value} {e : Nat → Value} {i : Nat} : putF (vsS a b c d e) (i + 4) x = vsS a b c d (putF e i x) := by
  funext r; rcases r with _ | _ | _ | _ | r <;> simp [putF, vsS]
theorem range_set {n i : Nat} {f : Nat → Value} {x : Value} : ((List.range n).map f).set i x = (List.range n).map (putF f i x) := by
  apply List.ext_getElem?
  intro v
  rw [List.getElem?_set]
  by_cases hv : v < n
  · by_cases e : i = v
    · subst e; simp [hv, putF]
    · rw [if_neg e]; simp [hv, putF, Ne.symm e]
  · rw [List.getElem?_eq_none (by simp; omega)]
    by_cases e : i = v
    · subst e; simp [hv]
    · rw [if_neg e, List.getElem?_eq_none (by simp; omega)]

/-- The changes, of which the first are renewed. -/
def chI (t : Tr) (q k i : Nat) : Nat → List Int := fun v => if v < i then chgF (valF t q v) (k + 1) else chgF (valF t q v) k
theorem chI_yes {t : Tr} {q k i : Nat} (h : (valF t q i (k + 1) != valF t q i k) = true) : putF (chI t q k i) i (chI t q k i i ++ [(k : Int) + 1]) = chI t q k (i + 1) := by
  funext v
  unfold putF chI
  by_cases e : v = i
  · subst e; rw [if_pos rfl, if_neg (by omega), if_pos (by omega), chgF_yes h]
  · rw [if_neg e]
    by_cases e2 : v < i
    · rw [if_pos e2, if_pos (by omega)]
    · rw [if_neg e2, if_neg (by omega)]
theorem chI_no {t : Tr} {q k i : Nat} (h : (valF t q i (k + 1) != valF t q i k) = false) : chI t q k i = chI t q k (i + 1) := by
  funext v
  unfold chI
  by_cases e : v = i
  · subst e; rw [if_neg (by omega), if_pos (by omega), chgF_no h]
  · by_cases e2 : v < i
    · rw [if_pos e2, if_pos (by omega)]
    · rw [if_neg e2, if_neg (by omega)]

def lowM (t : Tr) (q k i : Nat) : List Int := mixL t[q]!.vars.length i (fun v => lowF (valF t q v) (k + 1)) (fun v => lowF (valF t q v) k)
def highM (t : Tr) (q k i : Nat) : List Int := mixL t[q]!.vars.length i (fun v => highF (valF t q v) (k + 1)) (fun v => highF (valF t q v) k)
def unitM (t : Tr) (q k i : Nat) : List Bool := mixL t[q]!.vars.length i (fun v => unitF (valF t q v) (k + 1)) (fun v => unitF (valF t q v) k)

/-- Between the steps: k events are taken; of the next one the first il, ih, ic, iu variables. -/
def StV (w : World) (t : Tr) (q k il ih ic iu : Nat) (S3 : List Int) (u5 u8 u9 u18 v10 v11 : Value) (W : World) : Prop :=
  ∃ hs, Fam W w.heap.size (t[q]!.vars.length + 4) (vsS u5 u8 u9 u18 hs) (lsS (stV t q k) (lowM t q k il) (highM t q k ih) S3 (chI t q k ic)) ∧
    Row W w.heap.size 30 1 v10 t[q]!.vars.length ((List.range t[q]!.vars.length).map hs) ∧ Row W w.heap.size 4 1 v11 t[q]!.vars.length ((unitM t q k iu).map Value.bool) ∧ Ext w W

theorem StV.ext {w : World} {t : Tr} {q k il ih ic iu : Nat} {S3 : List Int} {u5 u8 u9 u18 v10 v11 : Value} {W W' : World} (h : StV w t q k il ih ic iu S3 u5 u8 u9 u18 v10 v11 W) (x : Ext W W') : StV w t q k il ih ic iu S3 u5 u8 u9 u18 v10 v11 W' := by
  obtain ⟨hs, h1, h2, h3, h4⟩ := h
  exact ⟨hs, h1.ext x, h2.ext x, h3.ext x, h4.trans' x⟩
theorem StV.start {w W : World} {t : Tr} {q n : Nat} {u5 u8 u9 v10 v11 : Value} (r5 : RowI W w.heap.size u5 (stV t q 0)) (r8 : RowI W w.heap.size u8 (stV t q 0)) (r9 : RowI W w.heap.size u9 (stV t q 0)) (d58 : Dis u5 u8) (d59 : Dis u5 u9) (d89 : Dis u8 u9)
    (hn : t[q]!.vars.length = n) (hh : Row W w.heap.size 30 1 v10 n (List.replicate n (.slice none 0 0))) (hu : Row W w.heap.size 4 1 v11 n ((mixL n n (fun _ => true) (fun _ => false)).map Value.bool)) (hE : Ext w W) (hl : (stV t q 0).length = n) :
    StV w t q 0 0 0 0 0 [] u5 u8 u9 (.slice none 0 0) v10 v11 W := by
  subst hn
  have e1 : stV t q 0 = lowM t q 0 0 := mixL_of hl fun v _ => rfl
  have e2 : stV t q 0 = highM t q 0 0 := mixL_of hl fun v _ => rfl
  have e3 : mixL t[q]!.vars.length t[q]!.vars.length (fun _ => true) (fun _ => false) = unitM t q 0 0 := mixL_done
  refine ⟨fun _ => .slice none 0 0, ⟨fun r hr => ?_, fun a b ha hb hab => ?_⟩, ?_, by rw [← e3]; exact hu, hE⟩
  · rcases r with _ | _ | _ | _ | r
    · exact r5
    · show RowI W _ u8 (lowM t q 0 0); rw [← e1]; exact r8
    · show RowI W _ u9 (highM t q 0 0); rw [← e2]; exact r9
    · exact Row.mkNil _ _ _ _
    · show RowI W _ _ (chI t q 0 0 r)
      unfold chI; rw [if_neg (Nat.not_lt_zero _), chgF_zero]; exact Row.mkNil _ _ _ _
  · rcases a with _ | _ | _ | _ | a <;> rcases b with _ | _ | _ | _ | b <;> first | exact absurd rfl hab | exact d58 | exact d58.symm | exact d59 | exact d59.symm | exact d89 | exact d89.symm | exact Dis.nilL | exact Dis.nilR
  · have : (List.range t[q]!.vars.length).map (fun _ => Value.slice none 0 0) = List.replicate t[q]!.vars.length (Value.slice none 0 0) := by rw [List.map_const', List.length_range]
    rw [this]; exact hh
/-- The least value of a variable is renewed. -/
theorem StV.low {w : World} {t : Tr} {q k i ih ic iu g off cap : Nat} {S3 : List Int} {u5 u9 u18 v10 v11 : Value} {W : World} (h : StV w t q k i ih ic iu S3 u5 (.slice (some ⟨g, off, none⟩) t[q]!.vars.length cap) u9 u18 v10 v11 W) (hi : i < t[q]!.vars.length) :
    StV w t q k (i + 1) ih ic iu S3 u5 (.slice (some ⟨g, off, none⟩) t[q]!.vars.length cap) u9 u18 v10 v11 (W.setCell ⟨g, off + i, none⟩ (.int .i64 (lowF (valF t q i) (k + 1)))) := by
  obtain ⟨hs, h1, h2, h3, h4⟩ := h
  have hl : (lowM t q k i).length = t[q]!.vars.length := mixL_len _ _ _ _
  have h5 := h1.set (i := 1) (g := g) (off := off) (cap := cap) (j := i) (x := lowF (valF t q i) (k + 1)) (by omega) (by show Value.slice _ _ _ = .slice _ (lowM t q k i).length _; rw [hl]) (by show i < (lowM t q k i).length; omega)
  rw [lsS_1] at h5
  have hm : (lowM t q k i).set i (lowF (valF t q i) (k + 1)) = lowM t q k (i + 1) := mixL_step hi
  have hv : vsS u5 (.slice (some ⟨g, off, none⟩) t[q]!.vars.length cap) u9 u18 hs 1 = .slice (some ⟨g, off, none⟩) (lsS (stV t q k) (lowM t q k i) (highM t q k ih) S3 (chI t q k ic) 1).length cap := by
    show Value.slice _ _ _ = .slice _ (lowM t q k i).length _; rw [hl]
  have hb := ((h1.row 1 (by omega)).lt g (by show (Value.slice _ _ _).ownBlock = _; rfl)).1
  refine ⟨hs, ?_, h1.otherSt (by omega) hv h2 (by decide), h1.otherSt (by omega) hv h3 (by decide), h4.st (by show w.heap.size ≤ g; exact hb) _⟩
  rw [← hm]
  exact h5
theorem StV.high {w : World} {t : Tr} {q k i il ic iu g off cap : Nat} {S3 : List Int} {u5 u8 u18 v10 v11 : Value} {W : World} (h : StV w t q k il i ic iu S3 u5 u8 (.slice (some ⟨g, off, none⟩) t[q]!.vars.length cap) u18 v10 v11 W) (hi : i < t[q]!.vars.length) :
    StV w t q k il (i + 1) ic iu S3 u5 u8 (.slice (some ⟨g, off, none⟩) t[q]!.vars.length cap) u18 v10 v11 (W.setCell ⟨g, off + i, none⟩ (.int .i64 (highF (valF t q i) (k + 1)))) := by
  obtain ⟨hs, h1, h2, h3, h4⟩ := h
  have hl : (highM t q k i).length = t[q]!.vars.length := mixL_len _ _ _ _
  have h5 := h1.set (i := 2) (g := g) (off := off) (cap := cap) (j := i) (x := highF (valF t q i) (k + 1)) (by omega) (by show Value.slice _ _ _ = .slice _ (highM t q k i).length _; rw [hl]) (by show i < (highM t q k i).length; omega)
  rw [lsS_2] at h5
  have hm : (highM t q k i).set i (highF (valF t q i) (k + 1)) = highM t q k (i + 1) := mixL_step hi
  have hv : vsS u5 u8 (.slice (some ⟨g, off, none⟩) t[q]!.vars.length cap) u18 hs 2 = .slice (some ⟨g, off, none⟩) (lsS (stV t q k) (lowM t q k il) (highM t q k i) S3 (chI t q k ic) 2).length cap := by
    show Value.slice _ _ _ = .slice _ (highM t q k i).length _; rw [hl]
  have hb := ((h1.row 2 (by omega)).lt g (by show (Value.slice _ _ _).ownBlock = _; rfl)).1
  refine ⟨hs, ?_, h1.otherSt (by omega) hv h2 (by decide), h1.otherSt (by omega) hv h3 (by decide), h4.st (by show w.heap.size ≤ g; exact hb) _⟩
  rw [← hm]
  exact h5
/-- One more change of a variable. -/
theorem StV.chg {w : World} {t : Tr} {q k i il ih iu G O C : Nat} {S3 : List Int} {u5 u8 u9 u18 v11 v' : Value} {hs : Nat → Value} {W W' : World} (h1 : Fam W w.heap.size (t[q]!.vars.length + 4) (vsS u5 u8 u9 u18 hs) (lsS (stV t q k) (lowM t q k il) (highM t q k ih) S3 (chI t q k i)))
    (h2 : Row W w.heap.size 30 1 (.slice (some ⟨G, O, none⟩) t[q]!.vars.length C) t[q]!.vars.length ((List.range t[q]!.vars.length).map hs)) (h3 : Row W w.heap.size 4 1 v11 t[q]!.vars.length ((unitM t q k iu).map Value.bool)) (h4 : Ext w W) (hi : i < t[q]!.vars.length) (hy : (valF t q i (k + 1) != valF t q i k) = true)
    (hg : W.grownBy W' (hs i).ownBlock) (hr : Row W' w.heap.size 3 1 v' ((chI t q k i i).length + 1) ((chI t q k i i).map (Value.int .i64) ++ [.int .i64 ((k : Int) + 1)])) (hb : v'.ownBlock = (hs i).ownBlock ∨ ∃ b, v'.ownBlock = some b ∧ W.heap.size ≤ b) :
    StV w t q k il ih (i + 1) iu S3 u5 u8 u9 u18 (.slice (some ⟨G, O, none⟩) t[q]!.vars.length C) v11 (W'.setCell ⟨G, O + i, none⟩ v') := by
  have h5 := h1.put (i := i + 4) (x := (k : Int) + 1) (v' := v') (w' := W') (by omega) hg hr hb
  rw [lsS_e, vsS_e] at h5
  have h2' := h1.otherPut (i := i + 4) (by omega) h2 (by decide) hg
  have h3' := h1.otherPut (i := i + 4) (by omega) h3 (by decide) hg
  obtain ⟨cs, ct, fr, hG, rfl⟩ := h2'.block G rfl
  have hGb := (h2'.lt G rfl).1
  refine ⟨putF hs i v', ?_, ?_, h3'.stO hG (by decide) _, (h4.gr hg (fun b hb => ((h1.row (i + 4) (by omega)).lt b hb).1)).st (by show w.heap.size ≤ G; exact hGb) _⟩
  · rw [← chI_yes hy]
    exact h5.stO hG (by decide) _
  · rw [← range_set]
    exact h2'.set i v' (by omega)
theorem StV.same {w : World} {t : Tr} {q k i il ih iu : Nat} {S3 : List Int} {u5 u8 u9 u18 v10 v11 : Value} {W : World} (h : StV w t q k il ih i iu S3 u5 u8 u9 u18 v10 v11 W) (hy : (valF t q i (k + 1) != valF t q i k) = false) : StV w t q k il ih (i + 1) iu S3 u5 u8 u9 u18 v10 v11 W := by
  obtain ⟨hs, h1, h2⟩ := h
  exact ⟨hs, by rw [← chI_no hy]; exact h1, h2⟩
/-- Whether a variable changes by one at most. -/
theorem StV.unit {w : World} {t : Tr} {q k i il ih ic G O C : Nat} {S3 : List Int} {u5 u8 u9 u18 v10 : Value} {W : World} (h : StV w t q k il ih ic i S3 u5 u8 u9 u18 v10 (.slice (some ⟨G, O, none⟩) t[q]!.vars.length C) W) (hi : i < t[q]!.vars.length) :
    StV w t q k il ih ic (i + 1) S3 u5 u8 u9 u18 v10 (.slice (some ⟨G, O, none⟩) t[q]!.vars.length C) (W.setCell ⟨G, O + i, none⟩ (.bool (unitF (valF t q i) (k + 1)))) := by
  obtain ⟨hs, h1, h2, h3, h4⟩ := h
  obtain ⟨cs, ct, fr, hG, rfl⟩ := h3.block G rfl
  have hGb := (h3.lt G rfl).1
  refine ⟨hs, h1.stO hG (by decide) _, h2.stO hG (by decide) _, ?_, h4.st (by show w.heap.size ≤ G; exact hGb) _⟩
  have hm : (unitM t q k i).set i (unitF (valF t q i) (k + 1)) = unitM t q k (i + 1) := mixL_step hi
  rw [← hm, List.map_set]
  exact h3.set i _ (by omega)
/-- The state of the next event is there. -/
theorem StV.now {w : World} {t : Tr} {q k il ih ic iu b2 : Nat} {S3 l : List Int} {u5 u8 u9 u18 v10 v11 v' : Value} {W W' : World} (h : StV w t q k il ih ic iu S3 u5 u8 u9 u18 v10 v11 W) (x : Ext W W') (hr : RowI W' b2 v' l) (hb : W.heap.size ≤ b2) : StV w t q k il ih ic iu l u5 u8 u9 v' v10 v11 W' := by
  obtain ⟨hs, h1, h2, h3, h4⟩ := h
  refine ⟨hs, ?_, h2.ext x, h3.ext x, h4.trans' x⟩
  have := h1.new (i := 3) x hr hb (by have := h4.sz; omega)
  rw [lsS_3, vsS_3] at this
  exact this
/-- An event is done. -/
theorem StV.next {w : World} {t : Tr} {q k : Nat} {u5 u8 u9 u18 v10 v11 : Value} {W : World} (h : StV w t q k t[q]!.vars.length t[q]!.vars.length t[q]!.vars.length t[q]!.vars.length (stV t q (k + 1)) u5 u8 u9 u18 v10 v11 W) :
    StV w t q (k + 1) 0 0 0 0 [] u18 u8 u9 (.slice none 0 0) v10 v11 W := by
  obtain ⟨hs, h1, h2, h3, h4⟩ := h
  have e1 : lowM t q k t[q]!.vars.length = lowM t q (k + 1) 0 := mixL_done
  have e2 : highM t q k t[q]!.vars.length = highM t q (k + 1) 0 := mixL_done
  have e3 : unitM t q k t[q]!.vars.length = unitM t q (k + 1) 0 := mixL_done
  rw [e3] at h3
  rw [e1, e2] at h1
  have h5 := h1.move (i := 0) (j := 3) (by omega) (by decide)
  rw [lsS_0, vsS_0, lsS_3, vsS_3] at h5
  refine ⟨hs, ?_, h2, h3, h4⟩
  refine ⟨fun r hr => ?_, h5.dis⟩
  have h6 := h5.row r hr
  rcases r with _ | _ | _ | _ | r
  · exact h6
  · exact h6
  · exact h6
  · exact h6
  · have e : lsS (stV t q (k + 1)) (lowM t q (k + 1) 0) (highM t q (k + 1) 0) [] (chI t q (k + 1) 0) (r + 4) = chgF (valF t q r) (k + 1) := by
      show chI t q (k + 1) 0 r = _
      unfold chI; rw [if_neg (by omega)]
    have e' : lsS (lsS (stV t q k) (lowM t q (k + 1) 0) (highM t q (k + 1) 0) (stV t q (k + 1)) (chI t q k t[q]!.vars.length) 3) (lowM t q (k + 1) 0) (highM t q (k + 1) 0) [] (chI t q k t[q]!.vars.length) (r + 4) = chgF (valF t q r) (k + 1) := by
      show chI t q k t[q]!.vars.length r = _
      unfold chI; rw [if_pos (by omega)]
    rw [e'] at h6
    rw [e]
    exact h6

theorem StV.low' {w : World} {t : Tr} {q k i ih ic iu g off cap n : Nat} {S3 : List Int} {u5 u9 u18 v10 v11 : Value} {W : World} (hn : t[q]!.vars.length = n) (h : StV w t q k i ih ic iu S3 u5 (.slice (some ⟨g, off, none⟩) n cap) u9 u18 v10 v11 W) (hi : i < n) {x : Int} (hx : lowF (valF t q i) (k + 1) = x) :
    StV w t q k (i + 1) ih ic iu S3 u5 (.slice (some ⟨g, off, none⟩) n cap) u9 u18 v10 v11 (W.setCell ⟨g, off + i, none⟩ (.int .i64 x)) := by
  subst hn; subst hx; exact h.low hi
theorem StV.high' {w : World} {t : Tr} {q k i il ic iu g off cap n : Nat} {S3 : List Int} {u5 u8 u18 v10 v11 : Value} {W : World} (hn : t[q]!.vars.length = n) (h : StV w t q k il i ic iu S3 u5 u8 (.slice (some ⟨g, off, none⟩) n cap) u18 v10 v11 W) (hi : i < n) {x : Int} (hx : highF (valF t q i) (k + 1) = x) :
    StV w t q k il (i + 1) ic iu S3 u5 u8 (.slice (some ⟨g, off, none⟩) n cap) u18 v10 v11 (W.setCell ⟨g, off + i, none⟩ (.int .i64 x)) := by
  subst hn; subst hx; exact h.high hi
theorem StV.unit' {w : World} {t : Tr} {q k i il ih ic G O C n : Nat} {S3 : List Int} {u5 u8 u9 u18 v10 : Value} {W : World} (hn : t[q]!.vars.length = n) (h : StV w t q k il ih ic i S3 u5 u8 u9 u18 v10 (.slice (some ⟨G, O, none⟩) n C) W) (hi : i < n) {x : Bool} (hx : unitF (valF t q i) (k + 1) = x) :
    StV w t q k il ih ic (i + 1) S3 u5 u8 u9 u18 v10 (.slice (some ⟨G, O, none⟩) n C) (W.setCell ⟨G, O + i, none⟩ (.bool x)) := by
  subst hn; subst hx; exact h.unit hi
theorem StV.next' {w : World} {t : Tr} {q k n : Nat} {u5 u8 u9 u18 v10 v11 : Value} {W : World} (hn : t[q]!.vars.length = n) (h : StV w t q k n n n n (stV t q (k + 1)) u5 u8 u9 u18 v10 v11 W) : StV w t q (k + 1) 0 0 0 0 [] u18 u8 u9 (.slice none 0 0) v10 v11 W := by
  subst hn; exact h.next
theorem cell_grown {W W' : World} {row : Option Nat} {G o : Nat} {u : Value} (h : W.cell? ⟨G, o, none⟩ = some u) (hg : W.grownBy W' row) (hne : row ≠ some G) : W'.cell? ⟨G, o, none⟩ = some u := by
  have hb := World.block_lt_of_cell? W _ h
  have := hg.block G hb (fun e => hne e.symm)
  simp only [World.cell?] at h ⊢
  rw [this]; exact h
theorem free_grown {W W' : World} {row : Option Nat} {G o : Nat} {u : Value} (hc : W.cell? ⟨G, o, none⟩ = some u) (h : W.frozen? ⟨G, o, none⟩ = false) (hg : W.grownBy W' row) (hne : row ≠ some G) : W'.frozen? ⟨G, o, none⟩ = false := by
  have hb := World.block_lt_of_cell? W _ hc
  have := hg.block G hb (fun e => hne e.symm)
  simp only [World.frozen?] at h ⊢
  rw [this]; exact h
theorem free_ext {W W' : World} {G o : Nat} {u : Value} (hc : W.cell? ⟨G, o, none⟩ = some u) (h : W.frozen? ⟨G, o, none⟩ = false) (x : Ext W W') : W'.frozen? ⟨G, o, none⟩ = false := by
  have hb := World.block_lt_of_cell? W _ hc
  have := x.block G hb
  simp only [World.frozen?] at h ⊢
  rw [this]; exact h
/-- The changes of a variable: where they lie. -/
theorem StV.hdr {w : World} {t : Tr} {q k i il ih iu G O C n : Nat} {S3 : List Int} {u5 u8 u9 u18 v11 : Value} {W : World} (hn : t[q]!.vars.length = n) (h : StV w t q k il ih i iu S3 u5 u8 u9 u18 (.slice (some ⟨G, O, none⟩) n C) v11 W) (hi : i < n) :
    ∃ a c, W.cell? ⟨G, O + i, none⟩ = some (.slice a (chI t q k i i).length c) ∧ W.frozen? ⟨G, O + i, none⟩ = false ∧ w.heap.size ≤ G ∧ Row W w.heap.size 3 1 (.slice a (chI t q k i i).length c) (chI t q k i i).length ((chI t q k i i).map (Value.int .i64)) ∧ (∀ v, v.ownBlock = some G → ¬ ∃ b e s m xs, e ≠ 30 ∧ Row W b e s v m xs) ∧
      ∀ W1 W' v', Ext W W1 → (valF t q i (k + 1) != valF t q i k) = true → W1.grownBy W' (Value.slice a (chI t q k i i).length c).ownBlock → Row W' w.heap.size 3 1 v' ((chI t q k i i).length + 1) ((chI t q k i i).map (Value.int .i64) ++ [.int .i64 ((k : Int) + 1)]) → (v'.ownBlock = (Value.slice a (chI t q k i i).length c).ownBlock ∨ ∃ b, v'.ownBlock = some b ∧ W1.heap.size ≤ b) →
        StV w t q k il ih (i + 1) iu S3 u5 u8 u9 u18 (.slice (some ⟨G, O, none⟩) n C) v11 (W'.setCell ⟨G, O + i, none⟩ v') := by
  subst hn
  obtain ⟨hs, h1, h2, h3, h4⟩ := h
  have hr : RowI W w.heap.size (hs i) (chI t q k i i) := h1.row (i + 4) (by omega)
  obtain ⟨a, c, he, _⟩ := hr.any
  have hc := h2.cell i (by omega)
  rw [List.getElem?_map, List.getElem?_range hi, Option.map_some] at hc
  refine ⟨a, c, by rw [← he]; exact hc, h2.free _, (h2.lt G rfl).1, by rw [← he]; exact hr, ?_, ?_⟩
  · rintro v hv ⟨b, e, s, m, xs, hne, hrow⟩
    obtain ⟨cs, ct, fr, hg, rfl⟩ := h2.block G rfl
    obtain ⟨cs', ct', fr', hg', rfl⟩ := hrow.block G hv
    rw [hg] at hg'
    simp only [Option.some.injEq, Obj.cells.injEq] at hg'
    exact hne hg'.2.1.symm
  · intro W1 W' v' hx hy hg hr' hb
    rw [← he] at hg hb
    exact StV.chg (h1.ext hx) (h2.ext hx) (h3.ext hx) (h4.trans' hx) hi hy hg hr' hb
/-- Whether a variable has changed by one at most: where that lies. -/
theorem StV.unt {w : World} {t : Tr} {q k i il ih ic G O C n : Nat} {S3 : List Int} {u5 u8 u9 u18 v10 : Value} {W : World} (hn : t[q]!.vars.length = n) (h : StV w t q k il ih ic i S3 u5 u8 u9 u18 v10 (.slice (some ⟨G, O, none⟩) n C) W) (hi : i < n) :
    W.cell? ⟨G, O + i, none⟩ = some (.bool (unitF (valF t q i) k)) ∧ W.frozen? ⟨G, O + i, none⟩ = false := by
  subst hn
  obtain ⟨hs, h1, h2, h3, h4⟩ := h
  refine ⟨?_, h3.free _⟩
  rw [h3.cell i (by omega), List.getElem?_map, unitM, mixL_get hi, if_neg (Nat.lt_irrefl _)]; rfl
/-- The cells of a variable's value before. -/
theorem StV.cells {w : World} {t : Tr} {q k i il ih ic iu n g0 o0 cl g3 o3 c10 : Nat} {u8 u9 v10 v11 : Value} {W : World} (h : StV w t q k il ih ic iu (stV t q (k + 1)) (.slice (some ⟨g0, o0, none⟩) n cl) u8 u9 (.slice (some ⟨g3, o3, none⟩) n c10) v10 v11 W) (h1 : (stV t q k).length = n) (h2 : (stV t q (k + 1)).length = n) (hi : i < n) :
    W.cell? ⟨g0, o0 + i, none⟩ = some (.int .i64 (valF t q i k)) ∧ W.cell? ⟨g3, o3 + i, none⟩ = some (.int .i64 (valF t q i (k + 1))) := by
  obtain ⟨hs, hF, _⟩ := h
  obtain ⟨a, b, c, e0, _, _, c0, _⟩ := hF.cell (i := 0) (k := i) (by omega) (by show i < (stV t q k).length; omega)
  obtain ⟨d, e, f, e3, _, _, c3, _⟩ := hF.cell (i := 3) (k := i) (by omega) (by show i < (stV t q (k + 1)).length; omega)
  simp only [vsS, Value.slice.injEq, Option.some.injEq, Addr.mk.injEq] at e0 e3
  obtain ⟨⟨rfl, rfl, _⟩, _⟩ := e0
  obtain ⟨⟨rfl, rfl, _⟩, _⟩ := e3
  exact ⟨c0, c3⟩
theorem StV.ex {w : World} {t : Tr} {q k il ih ic iu : Nat} {S3 : List Int} {u5 u8 u9 u18 v10 v11 : Value} {W : World} (h : StV w t q k il ih ic iu S3 u5 u8 u9 u18 v10 v11 W) : Ext w W := by
  obtain ⟨_, _, _, _, h4⟩ := h; exact h4
/-- The index of a variable's own name. -/
theorem idx_name {t : Tr} (hv : validT t = true) {q i : Nat} (hq : q < t.length) (hi : i < t[q]!.vars.length) : idxV t[q]! t[q]!.vars[i]!.name = (i : Int) := by
  have hb := varB_parts.1 ((headB_parts.1 ((shapeB_parts.1 (validT_parts.1 hv).1).2.2.1 q hq)).2.2.2.1 i hi)
  unfold idxV
  exact firstAt_hit _ _ i hi (by unfold isV; exact beq_self_eq_true _) (fun j hj => hb.1.2 j hj)
theorem fnd_name {t : Tr} (hv : validT t = true) {q i : Nat} (hq : q < t.length) (hi : i < t[q]!.vars.length) : fndE t (q : Int) t[q]!.vars[i]!.name = 0 ∧ fndI t (q : Int) t[q]!.vars[i]!.name = (i : Int) := by
  have h1 : fndE t (q : Int) t[q]!.vars[i]!.name = 0 := by
    unfold fndE
    rw [if_pos hv, if_pos ⟨by omega, by omega⟩, Int.toNat_natCast, idx_name hv hq hi, if_neg (by omega)]
  refine ⟨h1, ?_⟩
  unfold fndI
  rw [if_pos h1, Int.toNat_natCast, idx_name hv hq hi]

end Go.Proofs.Ytfcpnggdpaeldaa
