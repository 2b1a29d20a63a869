import Derived.Test.YtfagfooggcinoaaGb
import Derived.Test.YtfagfooggcinoaaJa
import Derived.Test.YtfagfooggcinoaaProg
import Derived.Test.YtfagfooggcinoaaGa
import Derived.BigQuiet
import Derived.Deep.QuietTactic
import Derived.Deep.LoopGhost
import Derived.Shelf.Abstract
import Derived.RegionTactic
import Derived.BigRegion
import Derived.Deep.RegionWith
import Derived.ChangeAlike
import Derived.Deep.DeepCutAuto
import Derived.Laws.Closers25
import Derived.Deep.DrawnRows
namespace Go.Proofs.Ytfagfooggcinoaa
open Go.RowKit
set_option linter.unusedVariables false
def mrC (m : Mr) : List Value := [.bool m.sent, .bool m.arr, .int .i64 m.due]
abbrev mrCells (row : List Mr) : List Value := row.flatMap mrC
theorem mrCells_len (row : List Mr) : (mrCells row).length = row.length * 3 := flat_len mrC (fun _ => rfl) row
theorem mrCells_get {row : List Mr} {q k : Nat} (hq : q < row.length) (hk : k < 3) : (mrCells row)[q * 3 + k]? = (mrC row[q]!)[k]? := by
 have h := flat_at mrC (k := 3) (fun _ => rfl) row q hq
 rw [← h, List.getElem?_take_of_lt hk, List.getElem?_drop]
theorem mrCells_set3 {row : List Mr} {q : Nat} (hq : q < row.length) (m : Mr) :
  (((mrCells row).set (q * 3) (.bool m.sent)).set (q * 3 + 1) (.bool m.arr)).set (q * 3 + 2) (.int .i64 m.due) = mrCells (row.set q m) := by
 apply List.ext_getElem?
 intro j
 by_cases hj : j < row.length * 3
 ·have hjd : j / 3 < row.length := by omega
  have e : j = j / 3 * 3 + j % 3 := by omega
  have h2 : (mrCells (row.set q m))[j]? = (mrC (row.set q m)[j / 3]!)[j % 3]? := by
   conv => lhs; rw [e]
   exact mrCells_get (by rw [List.length_set]; exact hjd) (by omega)
  have h1 : (mrCells row)[j]? = (mrC row[j / 3]!)[j % 3]? := by
   conv => lhs; rw [e]
   exact mrCells_get hjd (by omega)
  rw [h2, List.getElem?_set, List.getElem?_set, List.getElem?_set, List.length_set, List.length_set, mrCells_len, h1]
  by_cases ej : j / 3 = q
  ·rw [ej, setG_at hq]
   have h3 : j % 3 = 0 ∨ j % 3 = 1 ∨ j % 3 = 2 := by omega
   rcases h3 with h3 | h3 | h3
   ·rw [if_neg (by omega), if_neg (by omega), if_pos (by omega), if_pos (by omega), h3]; rfl
   ·rw [if_neg (by omega), if_pos (by omega), if_pos (by omega), h3]; rfl
   ·rw [if_pos (by omega), if_pos (by omega), h3]; rfl
  ·rw [setG_ne ej, if_neg (by omega), if_neg (by omega), if_neg (by omega)]
 ·rw [List.getElem?_eq_none (by rw [List.length_set, List.length_set, List.length_set, mrCells_len]; omega), List.getElem?_eq_none (by rw [mrCells_len, List.length_set]; omega)]
theorem mrCells_arr {row : List Mr} {q : Nat} (hq : q < row.length) : (mrCells row).set (q * 3 + 1) (.bool true) = mrCells (row.set q { row[q]! with arr := true }) := by
 rw [← mrCells_set3 hq]
 have h0 := mrCells_get hq (show 0 < 3 by omega)
 have h2 := mrCells_get hq (show 2 < 3 by omega)
 apply List.ext_getElem?
 intro j
 have hl := mrCells_len row
 rw [List.getElem?_set, List.getElem?_set, List.getElem?_set, List.getElem?_set, List.length_set, List.length_set]
 by_cases e2 : q * 3 + 2 = j
 ·subst e2; rw [if_neg (by omega), if_pos rfl, if_pos (by omega), h2]; rfl
 ·rw [if_neg e2]
  by_cases e1 : q * 3 + 1 = j
  ·rw [if_pos e1, if_pos e1]
  ·rw [if_neg e1, if_neg e1]
   by_cases e0 : q * 3 = j
   ·subst e0; rw [if_pos rfl, if_pos (by omega)]; rw [Nat.add_zero] at h0; rw [h0]; rfl
   ·rw [if_neg e0]
theorem runAt {w : World} {v : Value} {r : List (List Int)} (h : Sl RInts 1 w v r) {i p : Nat} (hi : i < r.length) (hp : p < r[i]!.length) :
  ∃ rB rO rC uB uO uC, v = .slice (some ⟨rB, rO, none⟩) r.length rC ∧ r.length ≤ rC ∧ rB < w.heap.size ∧ w.cell? ⟨rB, rO + i, none⟩ = some (.slice (some ⟨uB, uO, none⟩) r[i]!.length uC) ∧ r[i]!.length ≤ uC ∧ uB < w.heap.size ∧ w.cell? ⟨uB, uO + p, none⟩ = some (.int .i64 (rAt r i p)) := by
 obtain ⟨rB, rO, rC, vs, hve, hlC, hrB, hvl, ⟨u, rfl, hu⟩, hcs⟩ := Sl.cellsOf h i hi
 have r0 := hcs 0 (by omega)
 simp only [List.getElem!_cons_zero, Nat.mul_one, Nat.add_zero] at r0
 obtain ⟨a, c, rfl, hc, hq⟩ := hu
 obtain ⟨uB, uO, rfl, huB, hup⟩ := hq (by intro e; rw [e] at hp; simp at hp)
 exact ⟨rB, rO, rC, uB, uO, c, hve, hlC, hrB, r0, hc, huB, hup p hp⟩
structure SV where
 sp : Nat
 g : Nat
 o : Nat
 cap : Nat
 mg : Nat
 mo : Nat
 mcap : Nat
 n : Nat
 d : Int
 tv : Value
 rv : Value
 vc : Nat → Value
 vh : Nat → Value
 vm : Nat → Value
abbrev SV.lv (V : SV) : Value := .slice (some ⟨V.g, V.o, none⟩) V.n V.cap
abbrev SV.mv (V : SV) : Value := .slice (some ⟨V.mg, V.mo, none⟩) V.n V.mcap
structure SimAt (w0 w : World) (V : SV) (l : List Mk) (M : List (List Mr)) (vr : Nat → Nat → Value) : Prop where
 ext : Ext w0 w
 own : w0.heap.size ≤ V.sp
 box : w.heap[V.sp]? = some (.cells #[V.tv, V.rv, V.lv, V.mv, .int .i64 V.d] 88)
 mks : OwnM w w0.heap.size V.lv V.n V.n l V.vc V.vh vr
 ll : l.length = V.n
 ml : M.length = V.n
 mrow : Row w w0.heap.size 89 1 V.mv V.n ((List.range V.n).map V.vm)
 mr : ∀ f, f < V.n → M[f]!.length = V.n ∧ Row w w0.heap.size 123 3 (V.vm f) V.n (mrCells M[f]!)
 md : ∀ f q, f < V.n → q < V.n → f ≠ q → Dis (V.vm f) (V.vm q)
section
variable {w0 w w' : World} {V : SV} {l l' : List Mk} {M : List (List Mr)} {vr vr' : Nat → Nat → Value}
theorem SimAt.grow (h : SimAt w0 w V l M vr) (x : Ext w w') : SimAt w0 w' V l M vr :=
 ⟨h.ext.trans' x, h.own, x.hp h.box, h.mks.ext x, h.ll, h.ml, h.mrow.ext x, fun f hf => ⟨(h.mr f hf).1, (h.mr f hf).2.ext x⟩, h.md⟩
theorem SimAt.stK {b o : Nat} {T : TypeId} {cs : Array Value} {fr : Nat × Nat} {u : Value} (h : SimAt w0 w V l M vr) (hb : w.heap[b]? = some (.cells cs T fr)) (h0 : w0.heap.size ≤ b)
  (h1 : T ≠ 88) (h2 : T ≠ 123) (h3 : T ≠ 89) (hm : OwnM (w.setCell ⟨b, o, none⟩ u) w0.heap.size V.lv V.n V.n l' V.vc V.vh vr') (hl : l'.length = V.n) : SimAt w0 (w.setCell ⟨b, o, none⟩ u) V l' M vr' := by
 refine ⟨h.ext.st (p := ⟨b, o, none⟩) h0 u, h.own, ?_, hm, hl, h.ml, h.mrow.stO hb h3 u, fun f hf => ⟨(h.mr f hf).1, (h.mr f hf).2.stO hb h2 u⟩, h.md⟩
 rw [Below.heap_setCell w ⟨b, o, none⟩ u V.sp (fun e => by
  subst e
  have hx := h.box
  rw [hb] at hx
  simp only [Option.some.injEq, Obj.cells.injEq] at hx
  exact h1 hx.2.1)]
 exact h.box
theorem SimAt.setN (h : SimAt w0 w V l M vr) {p : Nat} (hp : p < V.n) (c : Int) : SimAt w0 (w.setCell ⟨V.g, V.o + p * 3, none⟩ (.int .i64 c)) V (l.set p { l[p]! with cnt := c }) M vr := by
 obtain ⟨cur, fr, hg⟩ := row_hp h.mks.row
 exact h.stK hg (h.mks.row.lt V.g rfl).1 (by decide) (by decide) (by decide) (h.mks.setN (by rw [h.ll]; exact hp) c) (by rw [List.length_set]; exact h.ll)
theorem SimAt.setB (h : SimAt w0 w V l M vr) {q f g2 o2 c2 : Nat} (hq : q < V.n) (hf : f < V.n) (hv : V.vc q = .slice (some ⟨g2, o2, none⟩) V.n c2) : SimAt w0 (w.setCell ⟨g2, o2 + f, none⟩ (.bool true)) V (closeK l q f) M vr := by
 have h1 := h.mks.clo q hq
 rw [hv] at h1
 obtain ⟨cur, fr, hg⟩ := row_hp h1
 exact h.stK hg (h1.lt g2 rfl).1 (by decide) (by decide) (by decide) (h.mks.setB hq hf hv) (by rw [closeK_len]; exact h.ll)
theorem SimAt.reco (h : SimAt w0 w V l M vr) {p g2 o2 c2 : Nat} (hp : p < V.n) (c : Int) (hv : V.vc p = .slice (some ⟨g2, o2, none⟩) V.n c2) :
  SimAt w0 ((w.setCell ⟨V.g, V.o + p * 3, none⟩ (.int .i64 c)).setCell ⟨g2, o2 + p, none⟩ (.bool true)) V (recL l p c) M vr := by
 have h2 := (h.setN hp c).setB hp hp hv
 have e : closeK (l.set p { l[p]! with cnt := c }) p p = recL l p c := by unfold closeK recL; rw [setG_at (by rw [h.ll]; exact hp), List.set_set]
 rwa [e] at h2
theorem SimAt.note {g2 o2 c2 q f : Nat} {v' : Value} {x : Int} (h : SimAt w0 w V l M vr) (hq : q < V.n) (hf : f < V.n) (hv : V.vh q = .slice (some ⟨g2, o2, none⟩) V.n c2) (hg : w.grownBy w' (vr q f).ownBlock)
  (hr : Row w' w0.heap.size 3 1 v' ((l[q]!.chan[f]!).length + 1) ((l[q]!.chan[f]!).map (Value.int .i64) ++ [.int .i64 x])) (hb : v'.ownBlock = (vr q f).ownBlock ∨ ∃ k, v'.ownBlock = some k ∧ w.heap.size ≤ k) :
  SimAt w0 (w'.setCell ⟨g2, o2 + f, none⟩ v') V (noteL l q f x) M (put2 vr q f v') := by
 have hij := h.mks.cha q hq f hf
 have hx : Ext w0 w' := h.ext.gr hg (fun k hk => (hij.lt k hk).1)
 have hh := h.mks.hdr q hq
 rw [hv] at hh
 have hh' := hh.grown hg (hh.apart hij (by decide))
 obtain ⟨cur, fr, hgc⟩ := row_hp hh'
 have hbox : w'.heap[V.sp]? = w.heap[V.sp]? := hg.block V.sp (Array.getElem?_eq_some_iff.1 h.box).1 (fun e => by
  obtain ⟨cs, t, fr, h1, h2⟩ := hij.block V.sp e.symm
  rw [h.box] at h1
  simp only [Option.some.injEq, Obj.cells.injEq] at h1
  rw [← h1.2.1] at h2
  exact absurd h2 (by decide))
 refine ⟨hx.st (p := ⟨g2, o2 + f, none⟩) (hh'.lt g2 rfl).1 v', h.own, ?_, h.mks.note hq hf hv hg hr hb, by rw [noteL_len]; exact h.ll, h.ml, (h.mrow.grown hg (h.mrow.apart hij (by decide))).stO hgc (by decide) v',
  fun a ha => ⟨(h.mr a ha).1, ((h.mr a ha).2.grown hg ((h.mr a ha).2.apart hij (by decide))).stO hgc (by decide) v'⟩, h.md⟩
 rw [Below.heap_setCell w' ⟨g2, o2 + f, none⟩ v' V.sp (fun e => by
  have hx := hbox.trans h.box
  rw [e] at hx
  simp only at hx
  rw [hgc] at hx
  simp only [Option.some.injEq, Obj.cells.injEq] at hx
  exact absurd hx.2.1 (by decide)), hbox]
 exact h.box
theorem SimAt.mAt (h : SimAt w0 w V l M vr) {f q : Nat} (hf : f < V.n) (hq : q < V.n) : ∃ b o c, V.vm f = .slice (some ⟨b, o, none⟩) V.n c ∧ w0.heap.size ≤ b ∧ b < w.heap.size ∧ V.n ≤ c ∧
  w.cell? ⟨b, o + q * 3, none⟩ = some (.bool (M[f]!)[q]!.sent) ∧ w.cell? ⟨b, o + q * 3 + 1, none⟩ = some (.bool (M[f]!)[q]!.arr) ∧ w.cell? ⟨b, o + q * 3 + 2, none⟩ = some (.int .i64 (M[f]!)[q]!.due) ∧ (∀ k, w.frozen? ⟨b, k, none⟩ = false) ∧ b ≠ V.sp ∧ b ≠ V.mg ∧ b ≠ V.g := by
 obtain ⟨hl, hr⟩ := h.mr f hf
 obtain ⟨b, o, c, e, h1, h2, h3⟩ := hr.shape (by omega)
 rw [e] at hr
 obtain ⟨cur, fr, hg⟩ := row_hp hr
 obtain ⟨cur2, fr2, hg2⟩ := row_hp h.mrow
 obtain ⟨cur3, fr3, hg3⟩ := row_hp h.mks.row
 refine ⟨b, o, c, e, h1, h2, h3, ?_, ?_, ?_, fun k => hr.free k, ?_, ?_, ?_⟩
 ·rw [hr.cell (q * 3) (by omega), show q * 3 = q * 3 + 0 by omega, mrCells_get (by omega) (by omega)]; rfl
 ·rw [Nat.add_assoc, hr.cell (q * 3 + 1) (by omega), mrCells_get (by omega) (by omega)]; rfl
 ·rw [Nat.add_assoc, hr.cell (q * 3 + 2) (by omega), mrCells_get (by omega) (by omega)]; rfl
 ·rintro rfl; have hx := h.box; rw [hg] at hx; simp only [Option.some.injEq, Obj.cells.injEq] at hx; exact absurd hx.2.1 (by decide)
 ·rintro rfl; rw [hg] at hg2; simp only [Option.some.injEq, Obj.cells.injEq] at hg2; exact absurd hg2.2.1 (by decide)
 ·rintro rfl; rw [hg] at hg3; simp only [Option.some.injEq, Obj.cells.injEq] at hg3; exact absurd hg3.2.1 (by decide)
theorem SimAt.hAt (h : SimAt w0 w V l M vr) {f : Nat} (hf : f < V.n) : w.cell? ⟨V.mg, V.mo + f, none⟩ = some (V.vm f) ∧ V.n ≤ V.mcap ∧ V.n ≤ V.cap ∧ V.mg < w.heap.size ∧ V.g < w.heap.size ∧ V.sp < w.heap.size := by
 refine ⟨?_, ?_, ?_, (h.mrow.lt V.mg rfl).2, (h.mks.row.lt V.g rfl).2, (Array.getElem?_eq_some_iff.1 h.box).1⟩
 ·rw [h.mrow.cell f (by omega), List.getElem?_map, List.getElem?_range hf]; rfl
 ·obtain ⟨a, c, e, h1, _⟩ := h.mrow.any; simp only [Value.slice.injEq] at e; omega
 ·obtain ⟨a, c, e, h1, _⟩ := h.mks.row.any; simp only [Value.slice.injEq] at e; omega
theorem SimAt.setM (h : SimAt w0 w V l M vr) {f b o c : Nat} (hf : f < V.n) (hv : V.vm f = .slice (some ⟨b, o, none⟩) V.n c) {W : World} {row : List Mr} (hl : row.length = V.n)
  (hW : ∀ k, k ≠ b → W.heap[k]? = w.heap[k]?) (hx : Ext w0 W) (hr : Row W w0.heap.size 123 3 (.slice (some ⟨b, o, none⟩) V.n c) V.n (mrCells row)) : SimAt w0 W V l (M.set f row) vr := by
 have h1 := (h.mr f hf).2
 rw [hv] at h1
 obtain ⟨cur, fr, hg⟩ := row_hp h1
 have keep : ∀ {bb : Nat} {e : TypeId} {s : Nat} {v : Value} {m : Nat} {xs : List Value}, Row w bb e s v m xs → 123 ≠ e → Row W bb e s v m xs := fun hr hne => hr.heap fun k hk => hW k (fun e => hr.notBox hg hne (by rw [hk, e]))
 refine ⟨hx, h.own, ?_, ⟨keep h.mks.row (by decide), h.mks.kle, h.mks.shp, fun i hi => keep (h.mks.clo i hi) (by decide), fun i hi => keep (h.mks.hdr i hi) (by decide), fun i hi j hj => keep (h.mks.cha i hi j hj) (by decide), h.mks.dc, h.mks.dh, h.mks.dr⟩,
  h.ll, by rw [List.length_set]; exact h.ml, keep h.mrow (by decide), fun q hq => ?_, h.md⟩
 ·rw [hW V.sp (fun e => by
   have hx := h.box
   rw [e, hg] at hx
   simp only [Option.some.injEq, Obj.cells.injEq] at hx
   exact absurd hx.2.1 (by decide))]
  exact h.box
 ·by_cases e : q = f
  ·subst e; rw [setG_at (by rw [h.ml]; exact hq)]; exact ⟨hl, by rw [hv]; exact hr⟩
  ·rw [setG_ne e]
   refine ⟨(h.mr q hq).1, (h.mr q hq).2.heap fun k hk => hW k (fun e2 => ?_)⟩
   rcases h.md q f hq hf e with h2 | h2
   ·rw [h2] at hk; cases hk
   ·rw [hk, hv, e2] at h2; exact h2 rfl
theorem SimAt.arr (h : SimAt w0 w V l M vr) {f q b o c : Nat} (hf : f < V.n) (hq : q < V.n) (hv : V.vm f = .slice (some ⟨b, o, none⟩) V.n c) : SimAt w0 (w.setCell ⟨b, o + q * 3 + 1, none⟩ (.bool true)) V l (arrM M f q) vr := by
 obtain ⟨hl, hr⟩ := h.mr f hf
 rw [hv] at hr
 have h2 := hr.set (q * 3 + 1) (.bool true) (by omega)
 rw [mrCells_arr (by omega), ← Nat.add_assoc] at h2
 exact h.setM hf hv (by rw [List.length_set]; exact hl) (fun k hk => Below.heap_setCell w _ _ k hk) (h.ext.st (p := ⟨b, o + q * 3 + 1, none⟩) (hr.lt b rfl).1 _) h2
theorem SimAt.send (h : SimAt w0 w V l M vr) {f q b o c : Nat} (m : Mr) (hf : f < V.n) (hq : q < V.n) (hv : V.vm f = .slice (some ⟨b, o, none⟩) V.n c) :
  SimAt w0 (((w.setCell ⟨b, o + q * 3, none⟩ (.bool m.sent)).setCell ⟨b, o + q * 3 + 1, none⟩ (.bool m.arr)).setCell ⟨b, o + q * 3 + 2, none⟩ (.int .i64 m.due)) V l (M.set f (M[f]!.set q m)) vr := by
 obtain ⟨hl, hr⟩ := h.mr f hf
 rw [hv] at hr
 have hb := (hr.lt b rfl).1
 have h2 := ((hr.set (q * 3) (.bool m.sent) (by omega)).set (q * 3 + 1) (.bool m.arr) (by omega)).set (q * 3 + 2) (.int .i64 m.due) (by omega)
 rw [mrCells_set3 (by omega), ← Nat.add_assoc, ← Nat.add_assoc] at h2
 refine h.setM hf hv (by rw [List.length_set]; exact hl) (fun k hk => ?_) (((h.ext.st (p := ⟨b, o + q * 3, none⟩) hb _).st (p := ⟨b, o + q * 3 + 1, none⟩) hb _).st (p := ⟨b, o + q * 3 + 2, none⟩) hb _) h2
 rw [Below.heap_setCell _ _ _ k hk, Below.heap_setCell _ _ _ k hk, Below.heap_setCell _ _ _ k hk]
end
def KeepT (w w' : World) : Prop := w.heap.size ≤ w'.heap.size ∧ ∀ (g : Nat) (cs : Array Value) (t : TypeId) (fr : Nat × Nat), w.heap[g]? = some (.cells cs t fr) →
 t ≠ 48 → t ≠ 4 → t ≠ 123 → t ≠ 25 → t ≠ 3 → w'.heap[g]? = some (.cells cs t fr)
theorem KeepT.rf (w : World) : KeepT w w := ⟨Nat.le_refl _, fun _ _ _ _ h _ _ _ _ _ => h⟩
theorem KeepT.tr {a b c : World} (h : KeepT a b) (k : KeepT b c) : KeepT a c := ⟨Nat.le_trans h.1 k.1, fun g cs t fr e h1 h2 h3 h4 h5 => k.2 g cs t fr (h.2 g cs t fr e h1 h2 h3 h4 h5) h1 h2 h3 h4 h5⟩
theorem KeepT.of {a b : World} (h : Ext a b) : KeepT a b := ⟨h.sz, fun g cs t fr e _ _ _ _ _ => h.hp e⟩
theorem keep_st {w : World} {b o : Nat} {u : Value} {cs : Array Value} {T : TypeId} {fr : Nat × Nat} (hb : w.heap[b]? = some (.cells cs T fr)) (hT : T = 48 ∨ T = 4 ∨ T = 123 ∨ T = 25 ∨ T = 3) : KeepT w (w.setCell ⟨b, o, none⟩ u) := by
 refine ⟨by rw [size_setCell]; exact Nat.le_refl _, fun g cs' t fr' e h1 h2 h3 h4 h5 => ?_⟩
 rw [Below.heap_setCell w ⟨b, o, none⟩ u g (fun e2 => by
  subst e2
  rw [hb] at e
  simp only [Option.some.injEq, Obj.cells.injEq] at e
  obtain ⟨_, rfl, _⟩ := e
  rcases hT with hT | hT | hT | hT | hT
  ·exact h1 hT
  ·exact h2 hT
  ·exact h3 hT
  ·exact h4 hT
  ·exact h5 hT)]
 exact e
theorem keep_grown {w w' : World} {base n s : Nat} {v : Value} {xs : List Value} (hr : Row w base 3 s v n xs) (hg : w.grownBy w' v.ownBlock) : KeepT w w' := by
 refine ⟨hg.size, fun g cs t fr e _ _ _ _ h5 => ?_⟩
 rw [hg.block g (Array.getElem?_eq_some_iff.1 e).1 (fun e2 => by
  obtain ⟨cs', t', fr', h1, rfl⟩ := hr.block g e2.symm
  rw [e] at h1
  simp only [Option.some.injEq, Obj.cells.injEq] at h1
  exact h5 h1.2.1)]
 exact e
theorem SimAt.keepN {w0 w : World} {V : SV} {l : List Mk} {M : List (List Mr)} {vr : Nat → Nat → Value} (h : SimAt w0 w V l M vr) (o : Nat) (u : Value) : KeepT w (w.setCell ⟨V.g, o, none⟩ u) := by
 obtain ⟨cur, fr, hg⟩ := row_hp h.mks.row
 exact keep_st hg (.inl rfl)
theorem SimAt.keepB {w0 w : World} {V : SV} {l : List Mk} {M : List (List Mr)} {vr : Nat → Nat → Value} (h : SimAt w0 w V l M vr) {q g2 o2 c2 : Nat} (hq : q < V.n) (hv : V.vc q = .slice (some ⟨g2, o2, none⟩) V.n c2) (o : Nat) (u : Value) : KeepT w (w.setCell ⟨g2, o, none⟩ u) := by
 have h1 := h.mks.clo q hq
 rw [hv] at h1
 obtain ⟨cur, fr, hg⟩ := row_hp h1
 exact keep_st hg (.inr (.inl rfl))
theorem SimAt.keepM {w0 w : World} {V : SV} {l : List Mk} {M : List (List Mr)} {vr : Nat → Nat → Value} (h : SimAt w0 w V l M vr) {f b o c : Nat} (hf : f < V.n) (hv : V.vm f = .slice (some ⟨b, o, none⟩) V.n c) (k : Nat) (u : Value) : KeepT w (w.setCell ⟨b, k, none⟩ u) := by
 have h1 := (h.mr f hf).2
 rw [hv] at h1
 obtain ⟨cur, fr, hg⟩ := row_hp h1
 exact keep_st hg (.inr (.inr (.inl rfl)))
theorem SimAt.keepM3 {w0 w : World} {V : SV} {l : List Mk} {M : List (List Mr)} {vr : Nat → Nat → Value} (h : SimAt w0 w V l M vr) {f b o c : Nat} (hf : f < V.n) (hv : V.vm f = .slice (some ⟨b, o, none⟩) V.n c) (k1 k2 k3 : Nat) (u1 u2 u3 : Value) : KeepT w (((w.setCell ⟨b, k1, none⟩ u1).setCell ⟨b, k2, none⟩ u2).setCell ⟨b, k3, none⟩ u3) := by
 have h1 := (h.mr f hf).2
 rw [hv] at h1
 obtain ⟨cur, fr, hg⟩ := row_hp h1
 have g1 := heap_setCell_same (o := k1) (u := u1) hg
 have g2 := heap_setCell_same (o := k2) (u := u2) g1
 exact ((keep_st hg (.inr (.inr (.inl rfl)))).tr (keep_st g1 (.inr (.inr (.inl rfl))))).tr (keep_st g2 (.inr (.inr (.inl rfl))))
end Go.Proofs.Ytfagfooggcinoaa
namespace Go.Proofs.Ytfagfooggcinoaa
open Go.RowKit
set_option linter.unusedVariables false
theorem info_boolM : (Try.prog.info? 4).map (fun i => (i.zero, i.size, i.bytes)) = some (some (.bool false), 1, 1) := by kernel_rfl
theorem info_rowsM : (Try.prog.info? 25).map (fun i => (i.zero, i.size, i.bytes)) = some (some (.slice none 0 0), 1, 24) := by kernel_rfl
theorem info_markM : (Try.prog.info? 48).map (fun i => (i.zero, i.size, i.bytes)) = some (some (.agg #[.int .i64 0, .slice none 0 0, .slice none 0 0]), 3, 56) := by kernel_rfl
theorem info_partsM {P : Program} {t : TypeId} {z : Value} {s b : Nat} (h : (P.info? t).map (fun i => (i.zero, i.size, i.bytes)) = some (some z, s, b)) : ∃ i, P.info? t = some i ∧ i.zero = some z ∧ i.size = s ∧ i.bytes = b := by
 cases hi : P.info? t with
 | none => rw [hi] at h; cases h
 | some i =>
   rw [hi] at h
   simp only [Option.map_some, Option.some.injEq, Prod.mk.injEq] at h
   exact ⟨i, rfl, h.1, h.2.1, h.2.2⟩
theorem made_list (z : Array Value) (n : Nat) : (madeCells z n).toList = (List.range n).map fun j => z[j % z.size]! := by simp [madeCells]
theorem made_one (x : Value) (n : Nat) : (madeCells #[x] n).toList = List.replicate n x := by
 rw [made_list]
 refine List.ext_getElem (by simp) fun i h1 h2 => ?_
 simp [Nat.mod_one]
theorem row_made {W : World} {b base n : Nat} {t : TypeId} {x : Value} (h : W.heap[b]? = some (.cells (madeCells #[x] n) t)) (hb : base ≤ b) (hn : n ≤ maxLen) : Row W base t 1 (.slice (some ⟨b, 0, none⟩) n n) n (List.replicate n x) :=
 ⟨by simp, .inr ⟨b, 0, n, _, rfl, hb, h, Nat.le_refl _, hn, by rw [size_madeCells]; omega, by rw [made_one, List.drop_zero, Nat.mul_one]; simp⟩⟩
def mkZ : Mk := ⟨0, [], []⟩
def begK (n k : Nat) : List Mk := List.replicate k (mk0 n) ++ List.replicate (n - k) mkZ
theorem begK_len {n k : Nat} (h : k ≤ n) : (begK n k).length = n := by simp [begK]; omega
theorem begK_at {n k i : Nat} (hi : i < k) : (begK n k)[i]! = mk0 n := by
 rw [getElem!_pos _ i (by simp [begK]; omega)]
 unfold begK
 rw [List.getElem_append_left (by simpa using hi)]; simp
theorem begK_zero (n : Nat) : begK n 0 = List.replicate n mkZ := by simp [begK]
theorem begK_all (n : Nat) : begK n n = begL n := by simp [begK, begL]
theorem begK_step {n k : Nat} (hk : k < n) : (begK n k).set k (mk0 n) = begK n (k + 1) := by
 unfold begK
 rw [List.set_append_right _ _ (by simp), List.length_replicate, Nat.sub_self, show n - k = (n - (k + 1)) + 1 by omega, List.replicate_succ, List.set_cons_zero, List.replicate_succ' (n := k), List.append_assoc]; rfl
theorem mkZ_cells (n : Nat) : (madeCells (Value.agg #[.int .i64 0, .slice none 0 0, .slice none 0 0]).cells (n * 3)).toList = mkCells (begK n 0) (fun _ => .slice none 0 0) (fun _ => .slice none 0 0) := by
 rw [made_list]
 unfold mkCells
 rw [begK_len (Nat.zero_le n), begK_zero]
 refine List.map_congr_left fun j hj => ?_
 have hj := List.mem_range.1 hj
 have hc : (Value.agg #[.int .i64 0, .slice none 0 0, .slice none 0 0]).cells = #[.int .i64 0, .slice none 0 0, .slice none 0 0] := by simp [Value.cells]
 rw [hc]
 have hl : (List.replicate n mkZ)[j / 3]!.cnt = 0 := by
  rw [getElem!_pos _ _ (by rw [List.length_replicate]; omega)]; simp [mkZ]
 rw [hl]
 have h3 : j % 3 = 0 ∨ j % 3 = 1 ∨ j % 3 = 2 := by omega
 rcases h3 with h | h | h <;> simp [h]
set_option maxHeartbeats 1000000 in
set_option maxRecDepth 100000 in
theorem record_calls (g o cap n base : Nat) (l : List Mk) (vc vh : Nat → Value) (vr : Nat → Nat → Value) (w : World) (p : Nat) (c : Int) (hp : p < n) (hl : l.length = n) (h : OwnM w base (.slice (some ⟨g, o, none⟩) n cap) n n l vc vh vr) :
  Calls Try.prog 31 #[.slice (some ⟨g, o, none⟩) n cap, .int .i64 p, .int .i64 c] w fun e w' => e = .returned (.tuple #[]) ∧ ∃ g2 o2 c2, vc p = .slice (some ⟨g2, o2, none⟩) n c2 ∧ base ≤ g2 ∧ base ≤ g ∧ w' = (w.setCell ⟨g, o + p * 3, none⟩ (.int .i64 c)).setCell ⟨g2, o2 + p, none⟩ (.bool true) := by
 obtain ⟨c0, c1, c2, hf⟩ := h.cellsAt (i := p) (by omega)
 obtain ⟨g2, o2, cc2, hv, hb, hg2, hnc, hbc, hf2⟩ := h.boolAt hp hp
 have hbg := (h.row.lt g rfl).1
 have hcl : (n : Int) ≤ (cap : Int) := by
  obtain ⟨a, c', e, h1, h2⟩ := h.row.any
  simp only [Value.slice.injEq] at e
  omega
 have hne : g ≠ g2 := by
  have h1 := h.clo p hp
  rw [hv] at h1
  obtain ⟨cs1, fr1, e1⟩ := row_hp h.row
  obtain ⟨cs2, fr2, e2⟩ := row_hp h1
  rintro rfl
  rw [e1] at e2
  simp at e2
 have hpz : (p : Int) < (n : Int) := by omega
 have hpz0 : (0 : Int) ≤ (p : Int) := by omega
 have f0 := hf (o + p * 3)
 have f2 := hf2 (o2 + p)
 rw [hv] at c1
 have HV := Lib.hid (And.intro hv (And.intro hb hbg))
 clear h c2 hf hf2 hbg hb hl hv
 go_enter Try.func31, Try.ntmps31
 go_wp2
 go_end0
 exact ⟨rfl, g2, o2, cc2, HV.out.1, HV.out.2.1, HV.out.2.2, rfl⟩
theorem OwnM.make {w W : World} {base b2 g cap n k : Nat} {u y : Value} {vc vh : Nat → Value} {vr : Nat → Nat → Value} (h : OwnM w base (.slice (some ⟨g, 0, none⟩) n cap) n k (begK n k) vc vh vr) (hk : k < n)
  (hx : Ext (((w.setCell ⟨g, k * 3, none⟩ (.int .i64 (-1))).setCell ⟨g, k * 3 + 1, none⟩ u).setCell ⟨g, k * 3 + 2, none⟩ y) W)
  (hu : Row W b2 4 1 u n (List.replicate n (.bool false))) (hy : Row W b2 25 1 y n (List.replicate n (.slice none 0 0))) (hb : w.heap.size ≤ b2) (hb2 : base ≤ b2) :
  OwnM W base (.slice (some ⟨g, 0, none⟩) n cap) n (k + 1) (begK n (k + 1)) (putF vc k u) (putF vh k y) (fun i j => if i = k then .slice none 0 0 else vr i j) := by
 have hl := begK_len (n := n) (k := k) (by omega)
 have hl2 := begK_len (n := n) (k := k + 1) (by omega)
 obtain ⟨cur, fr, hg⟩ := row_hp h.row
 obtain ⟨hg1, hg2⟩ : (∃ c, (w.setCell ⟨g, k * 3, none⟩ (.int .i64 (-1))).heap[g]? = some (.cells c 48 fr)) ∧ ∃ c, ((w.setCell ⟨g, k * 3, none⟩ (.int .i64 (-1))).setCell ⟨g, k * 3 + 1, none⟩ u).heap[g]? = some (.cells c 48 fr) := by
  have a := heap_setCell_same (o := k * 3) (u := .int .i64 (-1)) hg
  exact ⟨⟨_, a⟩, ⟨_, heap_setCell_same (o := k * 3 + 1) (u := u) a⟩⟩
 obtain ⟨x1, hg1⟩ := hg1
 obtain ⟨x2, hg2⟩ := hg2
 have keep : ∀ {b : Nat} {e : TypeId} {s : Nat} {v : Value} {m : Nat} {xs : List Value}, Row w b e s v m xs → 48 ≠ e → Row W b e s v m xs := fun hr hne => (((hr.stO hg hne _).stO hg1 hne _).stO hg2 hne _).ext hx
 have hsame : ∀ i, i < k → (begK n (k + 1))[i]! = (begK n k)[i]! := fun i hi => by rw [begK_at (by omega), begK_at hi]
 have hm := h.row
 rw [hl] at hm
 refine ⟨?_, by omega, fun i hi => ?_, fun i hi => ?_, fun i hi => ?_, fun i hi j hj => ?_, fun i j hi hj hij => ?_, fun i j hi hj hij => ?_, fun i j a c hi hj ha hc hn => ?_⟩
 ·have a0 := hm.set (k * 3) (.int .i64 (-1)) (by omega)
  have a1 := a0.set (k * 3 + 1) u (by omega)
  have a2 := a1.set (k * 3 + 2) y (by omega)
  simp only [Nat.zero_add] at a2
  have a3 := a2.ext hx
  have hcnt : ∀ j, j < n → j ≠ k → (begK n (k + 1))[j]!.cnt = (begK n k)[j]!.cnt := fun j hj hne => by rw [← begK_step hk, setG_ne hne]
  have e0 : (mkCells (begK n k) vc vh).set (k * 3) (.int .i64 (-1)) = mkCells (begK n (k + 1)) vc vh := by
   have := mkCells_set (l := begK n k) (l' := begK n (k + 1)) (vc := vc) (vh := vh) (vc' := vc) (vh' := vh) (i := k) (k := 0) (by omega) (u := .int .i64 (-1)) (by omega) (by omega) (fun j hj hne => ⟨hcnt j (by omega) hne, rfl, rfl⟩) (by rw [begK_at (by omega)]; rfl) (by simp) (by simp)
   simpa using this
  have e1 : (mkCells (begK n (k + 1)) vc vh).set (k * 3 + 1) u = mkCells (begK n (k + 1)) (putF vc k u) vh :=
   mkCells_set (by omega) (by omega) rfl (fun j hj hne => ⟨rfl, putF_ne hne, rfl⟩) (by simp) (by rw [putF_same]; rfl) (by simp)
  have e2 : (mkCells (begK n (k + 1)) (putF vc k u) vh).set (k * 3 + 2) y = mkCells (begK n (k + 1)) (putF vc k u) (putF vh k y) :=
   mkCells_set (by omega) (by omega) rfl (fun j hj hne => ⟨rfl, rfl, putF_ne hne⟩) (by simp) (by simp) (by rw [putF_same]; rfl)
  rw [e0, e1, e2] at a3
  rw [hl2]; exact a3
 ·rw [begK_at hi]; simp [mk0]
 ·by_cases e : i = k
  ·subst e
   rw [putF_same, begK_at hi]
   have := hu.mono hb2
   rw [show (mk0 n).closed.map Value.bool = List.replicate n (.bool false) by simp [mk0]]; exact this
  ·rw [putF_ne e, hsame i (by omega)]
   exact keep (h.clo i (by omega)) (by decide)
 ·by_cases e : i = k
  ·subst e
   rw [putF_same]
   have := hy.mono hb2
   rw [show ((List.range n).map fun j => if i = i then Value.slice none 0 0 else vr i j) = List.replicate n (.slice none 0 0) from by
    refine List.ext_getElem (by simp) fun j h1 h2 => by simp]
   exact this
  ·rw [putF_ne e]
   have := keep (h.hdr i (by omega)) (by decide)
   rw [show ((List.range n).map fun j => if i = k then Value.slice none 0 0 else vr i j) = (List.range n).map (vr i) from List.map_congr_left fun j _ => if_neg e]
   exact this
 ·by_cases e : i = k
  ·subst e
   rw [if_pos rfl, begK_at hi]
   have : (mk0 n).chan[j]! = [] := by
    have hj' : j < (mk0 n).chan.length := by simpa [mk0] using hj
    rw [getElem!_pos _ j hj']; simp [mk0]
   rw [this]; exact Row.mkNil _ _ _ _
  ·rw [if_neg e, hsame i (by omega)]
   exact keep (h.cha i (by omega) j hj) (by decide)
 ·by_cases e1 : i = k
  ·subst e1
   rw [putF_same, putF_ne (Ne.symm hij)]
   exact (dis_new (h.clo j (by omega)) hu hb).symm
  ·by_cases e2 : j = k
   ·subst e2
    rw [putF_same, putF_ne e1]
    exact dis_new (h.clo i (by omega)) hu hb
   ·rw [putF_ne e1, putF_ne e2]; exact h.dc i j (by omega) (by omega) hij
 ·by_cases e1 : i = k
  ·subst e1
   rw [putF_same, putF_ne (Ne.symm hij)]
   exact (dis_new (h.hdr j (by omega)) hy hb).symm
  ·by_cases e2 : j = k
   ·subst e2
    rw [putF_same, putF_ne e1]
    exact dis_new (h.hdr i (by omega)) hy hb
   ·rw [putF_ne e1, putF_ne e2]; exact h.dh i j (by omega) (by omega) hij
 ·by_cases e1 : i = k
  ·rw [if_pos e1]; exact Dis.nilL
  ·by_cases e2 : a = k
   ·rw [if_pos e2]; exact Dis.nilR
   ·rw [if_neg e1, if_neg e2]; exact h.dr i j a c (by omega) hj (by omega) hc hn
def MkOut (n : Nat) (l : List Mk) (w w' : World) (e : Ending) : Prop := ∃ v vc vh vr, e = .returned v ∧ OwnM w' w.heap.size v n l.length l vc vh vr ∧ Ext w w'
theorem begL_len (n : Nat) : (begL n).length = n := by simp [begL]
set_option maxHeartbeats 4000000 in
set_option maxRecDepth 100000 in
theorem begin_calls (n : Nat) (w : World) (hn : n ≤ 1000) :
  Calls Try.prog 30 #[.int .i64 n] w fun e w' => MkOut n (begL n) w w' e := by
 obtain ⟨im, him, mz0, mz1, mz2⟩ := info_partsM info_markM
 obtain ⟨ib, hib, bz0, bz1, bz2⟩ := info_partsM info_boolM
 obtain ⟨ir, hir, rz0, rz1, rz2⟩ := info_partsM info_rowsM
 have HMB := Lib.hid (fun W : World => run_make (P := Try.prog) W 46 4 ib (.bool false) Try.underlying46 hib bz0 .i64 .i64 (n : Int) (n : Int) (by omega) (by omega) (by rw [bz2]; omega) (by omega))
 have HMR := Lib.hid (fun W : World => run_make (P := Try.prog) W 43 25 ir (.slice none 0 0) Try.underlying43 hir rz0 .i64 .i64 (n : Int) (n : Int) (by omega) (by omega) (by rw [rz2]; omega) (by omega))
 rw [bz1] at HMB
 rw [rz1] at HMR
 simp only [Int.toNat_natCast, Nat.mul_one] at HMB HMR
 go_enter Try.func30, Try.ntmps30
 go_wp2_with ((at_make; refine wpList_make_full _ rfl _ _ 28 rfl w.heap.size 48 im (.agg #[.int .i64 0, .slice none 0 0, .slice none 0 0]) 3 Try.underlying28 him mz0 mz1 .i64 .i64 _ _ n rfl rfl rfl rfl (by rw [mz2]; omega) (by unfold maxLen; omega) (Nat.le_refl _) ?_; intro w3 hown3 hgrow3))
 have HO3 := Lib.hid (show OwnM w3 w.heap.size (.slice (some ⟨w.heap.size, 0, none⟩) n n) n 0 (begK n 0) (fun _ => .slice none 0 0) (fun _ => .slice none 0 0) (fun _ _ => .slice none 0 0) from by
  have := Row.ofOwns hown3
  rw [mkZ_cells] at this
  exact ⟨by rw [begK_len (Nat.zero_le n)]; exact this, Nat.zero_le _, fun i hi => absurd hi (Nat.not_lt_zero _), fun i hi => absurd hi (Nat.not_lt_zero _), fun i hi => absurd hi (Nat.not_lt_zero _), fun i hi => absurd hi (Nat.not_lt_zero _), fun i j hi => absurd hi (Nat.not_lt_zero _), fun i j hi => absurd hi (Nat.not_lt_zero _), fun i j a c hi => absurd hi (Nat.not_lt_zero _)⟩)
 have HX3 := Lib.hid ((Ext.rf w).gr hgrow3 (by simp))
 have hbr : w.heap.size ≤ w.heap.size := Nat.le_refl _
 obtain ⟨br, hbre⟩ : ∃ br, w.heap.size = br := ⟨_, rfl⟩
 have HBE := Lib.hid hbre
 rw [hbre] at HO3 hbr ⊢
 clear hown3 hgrow3 hbre
 go_wp2
 go_loopg [4, 9] n (fun g _ s9 wr => ∃ (k : Nat) (vc vh : Nat → Value) (vr : Nat → Nat → Value), k ≤ n ∧ n - k ≤ g ∧ s9 = .int .i64 k ∧ Aside (Ext w wr) ∧ Aside (OwnM wr br (.slice (some ⟨br, 0, none⟩) n n) n k (begK n k) vc vh vr))
 case atStart => exact ⟨0, _, _, _, Nat.zero_le _, by omega, rfl, (show Ext _ _ from HX3.out), (show OwnM _ _ _ _ _ _ _ _ _ from HO3.out)⟩
 case round =>
  obtain ⟨k, vc, vh, vr, hk, hg, rfl, HX, HO⟩ := hrel
  clear HX3 HO3
  by_cases hlt : k < n
  case neg =>
   have hltz : ¬ (k : Int) < (n : Int) := by omega
   obtain rfl : n = k := by omega
   rw [begK_all] at HO
   go_wp2
   go_ret
   exact ⟨_, _, _, _, rfl, by rw [begL_len, HBE.out]; exact HO.out, HX.out⟩
  case pos =>
   have hltz : (k : Int) < (n : Int) := by omega
   have hkz : (0 : Int) ≤ (k : Int) := by omega
   obtain ⟨c0, c1, c2, hf⟩ := HO.out.cellsAt (i := k) (by rw [begK_len hk]; exact hlt)
   have f0 := hf (0 + k * 3)
   have f1 := hf (0 + k * 3 + 1)
   have f2 := hf (0 + k * 3 + 2)
   have hbw := World.block_lt_of_cell? wr _ c0
   rw [Nat.zero_add] at c0 c1 c2 f0 f1 f2
   have hmb := HMB.out
   have hmr := HMR.out
   generalize (begK n k)[k]!.cnt = z0 at *
   generalize vc k = z1 at *
   generalize vh k = z2 at *
   clear hf
   go_wp2
   have hbs : br ≤ wr.heap.size := by rw [← HBE.out]; exact HX.out.sz
   have HMK := Lib.hid (fun (u y : Value) (W : World) h1 h2 h3 => OwnM.make (W := W) (b2 := wr.heap.size) (u := u) (y := y) HO.out hlt h1 h2 h3 (Nat.le_refl _) hbs)
   have HXS := Lib.hid (fun (u y : Value) => (((HX.out.st (p := ⟨br, k * 3, none⟩) (by rw [HBE.out]; exact Nat.le_refl _) (.int .i64 (-1))).st (p := ⟨br, k * 3 + 1, none⟩) (by rw [HBE.out]; exact Nat.le_refl _) u).st (p := ⟨br, k * 3 + 2, none⟩) (by rw [HBE.out]; exact Nat.le_refl _) y))
   have HSZ := Lib.hid (fun (u y : Value) => (show (((wr.setCell ⟨br, k * 3, none⟩ (.int .i64 (-1))).setCell ⟨br, k * 3 + 1, none⟩ u).setCell ⟨br, k * 3 + 2, none⟩ y).heap.size = wr.heap.size by rw [size_setCell, size_setCell, size_setCell]))
   clear HX HO
   go_region
   ·
    have HMK1 := Lib.hid (HMK.out (.slice (some ⟨wr.heap.size, 0, none⟩) n n) (.slice (some ⟨wr.heap.size + 1, 0, none⟩) n n))
    have HXS1 := Lib.hid (HXS.out (.slice (some ⟨wr.heap.size, 0, none⟩) n n) (.slice (some ⟨wr.heap.size + 1, 0, none⟩) n n))
    have HSZ1 := Lib.hid (HSZ.out (.slice (some ⟨wr.heap.size, 0, none⟩) n n) (.slice (some ⟨wr.heap.size + 1, 0, none⟩) n n))
    generalize ((wr.setCell ⟨br, k * 3, none⟩ (.int .i64 (-1))).setCell ⟨br, k * 3 + 1, none⟩ (.slice (some ⟨wr.heap.size, 0, none⟩) n n)).setCell ⟨br, k * 3 + 2, none⟩ (.slice (some ⟨wr.heap.size + 1, 0, none⟩) n n) = w3 at *
    have HW1 := Lib.hid (((Ext.rf _).al (.cells (madeCells #[.slice none 0 0] n) 25)).dr.hp (heap_new_eq (w := w3) (o := .cells (madeCells #[.bool false] n) 4) HSZ1.out.symm))
    have HW2 := Lib.hid ((Ext.rf _).dr.hp (heap_new_eq (w := w3.alloc (.cells (madeCells #[.bool false] n) 4)) (o := .cells (madeCells #[.slice none 0 0] n) 25) (b := wr.heap.size + 1) (by have := HSZ1.out; simp; omega)))
    have HE := Lib.hid (((Ext.rf w3).al (.cells (madeCells #[.bool false] n) 4)).al (.cells (madeCells #[.slice none 0 0] n) 25)).dr
    generalize ((w3.alloc (.cells (madeCells #[.bool false] n) 4)).alloc (.cells (madeCells #[.slice none 0 0] n) 25)).drew = w4 at *
    have HM9 := Lib.hid (HMK1.out w4 HE.out (row_made HW1.out (by omega) (by unfold maxLen; omega)) (row_made HW2.out (by omega) (by unfold maxLen; omega)))
    have HX9 := Lib.hid (HXS1.out.trans' HE.out)
    go_wp2
    go_roundg (n - (k + 1))
    case measure => omega
    case rel => exact ⟨k + 1, _, _, _, by omega, by omega, by go_num, (show Ext _ _ from HX9.out), (show OwnM _ _ _ _ _ _ _ _ _ from HM9.out)⟩
   ·
    have HMK1 := Lib.hid (HMK.out (.slice (some ⟨wr.heap.size + 1, 0, none⟩) n n) (.slice (some ⟨wr.heap.size, 0, none⟩) n n))
    have HXS1 := Lib.hid (HXS.out (.slice (some ⟨wr.heap.size + 1, 0, none⟩) n n) (.slice (some ⟨wr.heap.size, 0, none⟩) n n))
    have HSZ1 := Lib.hid (HSZ.out (.slice (some ⟨wr.heap.size + 1, 0, none⟩) n n) (.slice (some ⟨wr.heap.size, 0, none⟩) n n))
    generalize ((wr.setCell ⟨br, k * 3, none⟩ (.int .i64 (-1))).setCell ⟨br, k * 3 + 1, none⟩ (.slice (some ⟨wr.heap.size + 1, 0, none⟩) n n)).setCell ⟨br, k * 3 + 2, none⟩ (.slice (some ⟨wr.heap.size, 0, none⟩) n n) = w3 at *
    have HW1 := Lib.hid (((Ext.rf _).al (.cells (madeCells #[.bool false] n) 4)).dr.hp (heap_new_eq (w := w3) (o := .cells (madeCells #[.slice none 0 0] n) 25) HSZ1.out.symm))
    have HW2 := Lib.hid ((Ext.rf _).dr.hp (heap_new_eq (w := w3.alloc (.cells (madeCells #[.slice none 0 0] n) 25)) (o := .cells (madeCells #[.bool false] n) 4) (b := wr.heap.size + 1) (by have := HSZ1.out; simp; omega)))
    have HE := Lib.hid (((Ext.rf w3).al (.cells (madeCells #[.slice none 0 0] n) 25)).al (.cells (madeCells #[.bool false] n) 4)).dr
    generalize ((w3.alloc (.cells (madeCells #[.slice none 0 0] n) 25)).alloc (.cells (madeCells #[.bool false] n) 4)).drew = w4 at *
    have HM9 := Lib.hid (HMK1.out w4 HE.out (row_made HW2.out (by omega) (by unfold maxLen; omega)) (row_made HW1.out (by omega) (by unfold maxLen; omega)))
    have HX9 := Lib.hid (HXS1.out.trans' HE.out)
    go_wp2
    go_roundg (n - (k + 1))
    case measure => omega
    case rel => exact ⟨k + 1, _, _, _, by omega, by omega, by go_num, (show Ext _ _ from HX9.out), (show OwnM _ _ _ _ _ _ _ _ _ from HM9.out)⟩
end Go.Proofs.Ytfagfooggcinoaa
namespace Go.Proofs.Ytfagfooggcinoaa
open Go.RowKit
set_option linter.unusedVariables false
set_option maxHeartbeats 4000000 in
set_option maxRecDepth 100000 in
theorem srec_calls (w0 w : World) (V : SV) (r : List (List Int)) (l : List Mk) (M : List (List Mr)) (vr : Nat → Nat → Value) (p i : Nat) (h : SimAt w0 w V l M vr) (hrv : Sl RInts 1 w0 V.rv r) (hp : p < V.n) (hi : i < r.length) (hri : r[i]!.length = V.n)
  (hrl : r.length ≤ 1000000) (hd : 0 ≤ V.d ∧ V.d ≤ 1000000) (hn : V.n ≤ 1000) :
  Calls Try.prog 47 #[.pointer (some ⟨V.sp, 0, none⟩), .int .i64 p, .int .i64 i] w fun e w' => e = .returned (.tuple #[]) ∧ SimAt w0 w' V (recL l p (rAt r i p)) (sendM V.n p (i + V.d) M) vr ∧ KeepT w w' := by
 have HS := Lib.hid h
 have HRC := Lib.hid (fun W (hW : SimAt w0 W V l M vr) => record_calls V.g V.o V.cap V.n w0.heap.size l V.vc V.vh vr W p (rAt r i p) hp hW.ll hW.mks)
 have HRV := Lib.hid hrv
 have HRR := Lib.hid (show (r[i]!)[p]! = rAt r i p from rfl)
 have HB := Lib.hid h.box
 have b1 := cellOf HB.out 1
 have b2 := cellOf HB.out 2
 have b3 := cellOf HB.out 3
 have b4 := cellOf HB.out 4
 simp only [List.getElem?_toArray, List.getElem?_cons_zero, List.getElem?_cons_succ, SV.lv, SV.mv] at b1 b2 b3 b4
 obtain ⟨rB, rO, rC, uB, uO, uC, hve, hrC, hrB, hr0, huC, huB, hu0⟩ := runAt hrv hi (by rw [hri]; exact hp)
 have r0 := h.ext.cl hr0
 have u0 := h.ext.cl hu0
 rw [hri] at r0 huC
 rw [hve] at b1
 have hpz : (p : Int) < (V.n : Int) := by omega
 have hpz0 : (0 : Int) ≤ (p : Int) := by omega
 have hiz : (i : Int) < (r.length : Int) := by omega
 have hiz0 : (0 : Int) ≤ (i : Int) := by omega
 generalize rAt r i p = x at *
 obtain ⟨R, hR⟩ : ∃ R, r.length = R := ⟨_, rfl⟩
 rw [hR] at b1 hi hrl hrC hiz
 have HRO := Lib.hid (HRC.out _ (h.grow (Ext.rf w).dr))
 clear h hrv hr0 hu0 hve hri hR HRC
 go_enter Try.func47, Try.ntmps47
 go_upto_region 0 with (fail)
 go_cut [22] (fun s22 wx => s22 = .tuple #[] ∧ Aside (SimAt w0 wx V (recL l p x) M vr) ∧ Aside (KeepT w wx))
 case first =>
  go_region_with (refine HRO.out.mono ?_; rintro e w1 ⟨rfl, g2, o2, c2, hv2, hb2, hb3, rfl⟩; have HV2 := Lib.hid hv2; clear hv2 hb2 hb3)
  all_goals (go_wp2; go_meet)
  all_goals exact ⟨rfl, (show SimAt _ _ _ _ _ _ from (HS.out.reco hp x HV2.out).grow (Ext.rf _).dr), (show KeepT _ _ from ((HS.out.keepN _ _).tr ((HS.out.setN hp x).keepB hp HV2.out _ _)).tr (KeepT.of (Ext.rf _).dr))⟩
 case rest =>
  obtain ⟨rfl, HS1, HKT⟩ := hcut
  obtain ⟨w1, rfl⟩ : ∃ y, y = wc := ⟨_, rfl⟩
  clear b1 b2 b3 b4 r0 u0 HRO
  have HB1 := Lib.hid HS1.out.box
  have b3 := cellOf HB1.out 3
  simp only [List.getElem?_toArray, List.getElem?_cons_zero, List.getElem?_cons_succ, SV.lv, SV.mv] at b3
  obtain ⟨hm0, hmc, _, _, _, _⟩ := HS1.out.hAt hp
  obtain ⟨mb, mf, mc, hvm, hmb, _, hmnc, _, _, _, _, _, _, _⟩ := HS1.out.mAt hp hp
  rw [hvm] at hm0
  have HVM := Lib.hid hvm
  have HS2 : Hid (SimAt w0 w1 V (recL l p x) (M.set p (sendRow V.n p (i + V.d) M[p]! 0)) vr) := Lib.hid (by
   rw [sendRow_zero (HS.out.mr p hp).1]
   have e : M.set p M[p]! = M := listG_ext (List.length_set ..) fun j hj => by
    by_cases e : j = p
    ·subst e; exact setG_at (by rw [HS.out.ml]; exact hp) _
    ·exact setG_ne e _
   rw [e]; exact HS1.out)
  clear hvm
  go_wp2
  go_loopg [6, 31] V.n (fun g _ s31 wr => ∃ k : Nat, k ≤ V.n ∧ V.n - k ≤ g ∧ s31 = .int .i64 k ∧ Aside (SimAt w0 wr V (recL l p x) (M.set p (sendRow V.n p (i + V.d) M[p]! k)) vr) ∧ Aside (KeepT w wr))
  case atStart => exact ⟨0, Nat.zero_le _, by omega, rfl, (show SimAt _ _ _ _ _ _ from HS2.out), (show KeepT _ _ from HKT.out)⟩
  case round =>
   obtain ⟨k, hk, hg, rfl, HK, HKT2⟩ := hrel
   clear HS1 HS2 HB1 b3 hm0
   by_cases hlt : k < V.n
   case neg =>
    have hltz : ¬ (k : Int) < (V.n : Int) := by omega
    have hkn : k = V.n := by omega
    have HE := Lib.hid hkn
    clear hkn
    go_wp2
    go_end0
    exact ⟨rfl, by have h := HK.out; rw [HE.out] at h; exact h, HKT2.out⟩
   case pos =>
    have hltz : (k : Int) < (V.n : Int) := by omega
    have hkz : (0 : Int) ≤ (k : Int) := by omega
    by_cases hkp : k = p
    case pos =>
     have HN := Lib.hid (show SimAt w0 wr V (recL l p x) (M.set p (sendRow V.n p (i + V.d) M[p]! (k + 1))) vr from by
      have h := HK.out
      rw [hkp] at h ⊢
      rw [sendRow_self]; exact h)
     have hq : ((k : Int) != (p : Int)) = false := by rw [bne_eq_false_iff_eq, hkp]
     clear hkp HK
     go_wp2
     go_roundg (V.n - (k + 1))
     case measure => omega
     case rel => exact ⟨k + 1, by omega, by omega, by go_num, (show SimAt _ _ _ _ _ _ from HN.out), (show KeepT _ _ from HKT2.out)⟩
    case neg =>
     have hq : ((k : Int) != (p : Int)) = true := by rw [bne_iff_ne]; omega
     have HBK := Lib.hid HK.out.box
     have b3 := cellOf HBK.out 3
     have b4 := cellOf HBK.out 4
     simp only [List.getElem?_toArray, List.getElem?_cons_zero, List.getElem?_cons_succ, SV.lv, SV.mv] at b3 b4
     obtain ⟨hm0, _, _, _, _, _⟩ := HK.out.hAt hp
     obtain ⟨mb', mf', mc', hvm', hmb', hmbw', hmnc', c0, c1, c2, hfr, hne1, hne2, hne3⟩ := HK.out.mAt hp hlt
     rw [HVM.out] at hm0 hvm'
     simp only [Value.slice.injEq, Option.some.injEq, Addr.mk.injEq, true_and, and_true] at hvm'
     obtain ⟨⟨rfl, rfl⟩, rfl⟩ := hvm'
     have HN := Lib.hid (show SimAt w0 _ V (recL l p x) (M.set p (sendRow V.n p (i + V.d) M[p]! (k + 1))) vr from by
      have h := HK.out.send ⟨true, false, i + V.d⟩ hp hlt HVM.out
      rw [setG_at (by rw [HS.out.ml]; exact hp), List.set_set, sendRow_step hlt hkp] at h
      exact h)
     simp only at HN
     have HK3 := Lib.hid (HK.out.keepM3 hp HVM.out (mf + k * 3) (mf + k * 3 + 1) (mf + k * 3 + 2) (.bool true) (.bool false) (.int .i64 (i + V.d)))
     have f0 := hfr (mf + k * 3)
     have f1 := hfr (mf + k * 3 + 1)
     have f2 := hfr (mf + k * 3 + 2)
     have hw : IntKind.i64.wrap ((i : Int) + V.d) = (i : Int) + V.d := IntWalk.i64_in _ (by omega)
     generalize ((M.set p (sendRow V.n p (i + V.d) M[p]! k))[p]!)[k]!.sent = s0 at *
     generalize ((M.set p (sendRow V.n p (i + V.d) M[p]! k))[p]!)[k]!.arr = s1 at *
     generalize ((M.set p (sendRow V.n p (i + V.d) M[p]! k))[p]!)[k]!.due = s2 at *
     clear HK hfr hmb' hkp
     go_wp2
     go_region
     clear hw
     go_wp2
     go_roundg (V.n - (k + 1))
     case measure => omega
     case rel => exact ⟨k + 1, by omega, by omega, by go_num, (show SimAt _ _ _ _ _ _ from HN.out.grow (Ext.rf _).dr), (show KeepT _ _ from (HKT2.out.tr HK3.out).tr (KeepT.of (Ext.rf _).dr))⟩
end Go.Proofs.Ytfagfooggcinoaa
namespace Go.Proofs.Ytfagfooggcinoaa
open Go.RowKit
set_option linter.unusedVariables false
set_option maxHeartbeats 4000000 in
set_option maxRecDepth 100000 in
theorem arrive_calls (w0 w : World) (V : SV) (t : Tr) (r : List (List Int)) (A : Sn) (b : Nat) (vr : Nat → Nat → Value) (f q i : Nat) (h : SimAt w0 w V A.l (mOf V.n V.d A) vr) (hrv : Sl RInts 1 w0 V.rv r) (hI : InvA t A b) (hr : RunIn t r) (hn : t.length = V.n) (hn2 : V.n ≤ 1000)
  (hf : f < V.n) (hq : q < V.n) (hi : i < r.length) (hd : 0 ≤ V.d ∧ V.d ≤ 1000000) (hc : A.l[f]!.cnt ≠ -1) (hne : f ≠ q) :
  Calls Try.prog 76 #[.pointer (some ⟨V.sp, 0, none⟩), .int .i64 f, .int .i64 q, .int .i64 i] w fun e w' => e = .returned (.tuple #[]) ∧ SimAt w0 w' V (aArr r A f q i).l (mOf V.n V.d (aArr r A f q i)) vr ∧ KeepT w w' := by
 have HS := Lib.hid h
 have HRV := Lib.hid hrv
 have hri := (hr.2 i hi).1
 have HM := Lib.hid (mOf_arr (d := V.d) hI hr (by rw [hn]; exact hf) (by rw [hn]; exact hq) hi hc hne)
 rw [hn] at HM hri
 have HRE := Lib.hid (fun W (hW : SimAt w0 W V A.l (arrM (mOf V.n V.d A) f q) vr) => srec_calls w0 W V r A.l (arrM (mOf V.n V.d A) f q) vr q i hW hrv hq hi hri hr.1 hd hn2)
 obtain ⟨mb, mf, mc, hvm, hmb, hmbw, hmnc, c0, c1, c2, hfr, hne1, hne2, hne3⟩ := h.mAt hf hq
 obtain ⟨hm0, hmc, hcap, _, _, _⟩ := h.hAt hf
 obtain ⟨vg, vo, vk, hvc, _, hvgw, hvnc, d0, _⟩ := h.mks.boolAt (j := f) hq hf
 rw [hvm] at hm0
 have HS1 := Lib.hid (h.arr hf hq hvm)
 have HKT := Lib.hid (h.keepM hf hvm (mf + q * 3 + 1) (.bool true))
 have HBX := Lib.hid HS.out.box
 have b0 := cellOf HBX.out 0
 have b1 := cellOf HBX.out 1
 have b2 := cellOf HBX.out 2
 have b3 := cellOf HBX.out 3
 have b4 := cellOf HBX.out 4
 simp only [List.getElem?_toArray, List.getElem?_cons_zero, List.getElem?_cons_succ, SV.lv, SV.mv] at b0 b1 b2 b3 b4
 have f1 := hfr (mf + q * 3 + 1)
 have hfz : (f : Int) < (V.n : Int) := by omega
 have hfz0 : (0 : Int) ≤ (f : Int) := by omega
 have hqz : (q : Int) < (V.n : Int) := by omega
 have hqz0 : (0 : Int) ≤ (q : Int) := by omega
 have hcapz : (V.n : Int) ≤ (V.cap : Int) := by omega
 generalize ((mOf V.n V.d A)[f]!)[q]!.arr = x1 at *
 clear h hrv hI hr hn hri hi hc hne hfr c0 c2 b0 b1 b2 b4 hmb hmbw d0
 have HAA : Hid (aArr r A f q i = if A.l[q]!.cnt = -1 then ⟨closeK (recL A.l q (rAt r i q)) q f, A.at_.set q i⟩ else ⟨closeK A.l q f, A.at_⟩) := Lib.hid (by unfold aArr aRec?; split <;> rfl)
 go_enter Try.func76, Try.ntmps76
 go_upto_region 1 with (fail)
 generalize hw1 : w.setCell ⟨mb, mf + q * 3 + 1, none⟩ (.bool true) = w1 at *
 clear hw1 b3 hm0 c1 f1
 have HBX := Lib.hid HS1.out.box
 have b0 := cellOf HBX.out 0
 have b1 := cellOf HBX.out 1
 have b2 := cellOf HBX.out 2
 have b3 := cellOf HBX.out 3
 have b4 := cellOf HBX.out 4
 simp only [List.getElem?_toArray, List.getElem?_cons_zero, List.getElem?_cons_succ, SV.lv, SV.mv] at b0 b1 b2 b3 b4
 obtain ⟨c0, _, _, _⟩ := HS1.out.mks.cellsAt (i := q) (by rw [HS1.out.ll]; exact hq)
 by_cases hcq : A.l[q]!.cnt = -1
 ·rw [hcq] at c0
  have HAE := Lib.hid (HAA.out.trans (if_pos hcq))
  rw [if_pos hcq] at HM
  have HR1 := Lib.hid (HRE.out _ HS1.out)
  clear hcq HRE HBX b0 b1 b3 b4
  go_wp2_with fail
  refine HR1.out.mono ?_
  rintro e w2 ⟨rfl, hs2, hk2⟩
  have HKT := Lib.hid (HKT.out.tr hk2)
  clear hk2
  have HS2 := Lib.hid hs2
  rw [HM.out] at HS2
  clear c0 b2 hs2
  have hll : (aArr r A f q i).l = closeK (recL A.l q (rAt r i q)) q f := by rw [HAE.out]
  have HLL := Lib.hid hll
  clear hll
  have HS3 := Lib.hid (HS2.out.setB (q := q) (f := f) hq hf hvc)
  have HK3 := Lib.hid (HKT.out.tr (HS2.out.keepB hq hvc (vo + f) (.bool true)))
  have HBX := Lib.hid HS2.out.box
  have b0 := cellOf HBX.out 0
  have b1 := cellOf HBX.out 1
  have b2 := cellOf HBX.out 2
  have b3 := cellOf HBX.out 3
  have b4 := cellOf HBX.out 4
  simp only [List.getElem?_toArray, List.getElem?_cons_zero, List.getElem?_cons_succ, SV.lv, SV.mv] at b0 b1 b2 b3 b4
  obtain ⟨c0, c1, _, _⟩ := HS2.out.mks.cellsAt (i := q) (by rw [HS2.out.ll]; exact hq)
  obtain ⟨g2, o2, k2, hvc', _, hbw2, hnc2, d0, hfr2⟩ := HS2.out.mks.boolAt (j := f) hq hf
  rw [hvc] at c1 hvc'
  simp only [Value.slice.injEq, Option.some.injEq, Addr.mk.injEq, true_and, and_true] at hvc'
  obtain ⟨⟨rfl, rfl⟩, rfl⟩ := hvc'
  have d1 := hfr2 (vo + f)
  clear hfr2 b0 b1 b3 b4
  go_wp2
  go_end0
  exact ⟨rfl, by rw [HLL.out]; exact HS3.out, HK3.out⟩
 ·have hcq2 : (A.l[q]!.cnt == -1) = false := by rw [beq_eq_false_iff_ne]; exact hcq
  have HAE := Lib.hid (HAA.out.trans (if_neg hcq))
  rw [if_neg hcq] at HM
  have HS2 := Lib.hid HS1.out
  rw [HM.out] at HS2
  have hll : (aArr r A f q i).l = closeK A.l q f := by rw [HAE.out]
  have HLL := Lib.hid hll
  generalize A.l[q]!.cnt = cq at *
  clear hll HBX b0 b1 b3 b4 HRE hcq
  go_upto_region 3 with (fail)
  clear c0 b2
  have HS3 := Lib.hid (HS2.out.setB (q := q) (f := f) hq hf hvc)
  have HK3 := Lib.hid (HKT.out.tr (HS2.out.keepB hq hvc (vo + f) (.bool true)))
  have HBX := Lib.hid HS2.out.box
  have b0 := cellOf HBX.out 0
  have b1 := cellOf HBX.out 1
  have b2 := cellOf HBX.out 2
  have b3 := cellOf HBX.out 3
  have b4 := cellOf HBX.out 4
  simp only [List.getElem?_toArray, List.getElem?_cons_zero, List.getElem?_cons_succ, SV.lv, SV.mv] at b0 b1 b2 b3 b4
  obtain ⟨c0, c1, _, _⟩ := HS2.out.mks.cellsAt (i := q) (by rw [HS2.out.ll]; exact hq)
  obtain ⟨g2, o2, k2, hvc', _, hbw2, hnc2, d0, hfr2⟩ := HS2.out.mks.boolAt (j := f) hq hf
  rw [hvc] at c1 hvc'
  simp only [Value.slice.injEq, Option.some.injEq, Addr.mk.injEq, true_and, and_true] at hvc'
  obtain ⟨⟨rfl, rfl⟩, rfl⟩ := hvc'
  have d1 := hfr2 (vo + f)
  clear hfr2 b0 b1 b3 b4
  go_wp2
  go_end0
  exact ⟨rfl, by rw [HLL.out]; exact HS3.out, HK3.out⟩
end Go.Proofs.Ytfagfooggcinoaa
namespace Go.Proofs.Ytfagfooggcinoaa
open Go.RowKit
set_option linter.unusedVariables false
set_option maxHeartbeats 1000000 in
theorem letterP_calls (c : UInt8) (w : World) : Calls Try.prog 117 #[.int .u8 c.toNat] w fun e w' => e = .returned (.bool (letterB c)) ∧ w' = w := by
 have hb : letterB c = ((decide (97 ≤ (c.toNat : Int)) && decide ((c.toNat : Int) ≤ 122)) || (decide (65 ≤ (c.toNat : Int)) && decide ((c.toNat : Int) ≤ 90))) := by
  unfold letterB
  congr 1 <;> congr 1 <;> (rw [decide_eq_decide]; omega)
 have HB := Lib.hid hb
 generalize letterB c = b at *
 generalize hx : (c.toNat : Int) = x at *
 clear hb hx
 by_cases h1 : 97 ≤ x <;> by_cases h2 : x ≤ 122 <;> by_cases h3 : 65 ≤ x <;> by_cases h4 : x ≤ 90
 all_goals
  go_enter Try.func117, Try.ntmps117
  go_wp2
  go_ret
  refine ⟨?_, rfl⟩
  rw [HB.out]
  simp [h1, h2, h3, h4]
set_option maxHeartbeats 1000000 in
theorem letterR_calls (c : UInt8) (w : World) : Calls Try.prog 113 #[.int .u8 c.toNat] w fun e w' => e = .returned (.bool (letterB c)) ∧ w' = w := by
 have hb : letterB c = ((decide (97 ≤ (c.toNat : Int)) && decide ((c.toNat : Int) ≤ 122)) || (decide (65 ≤ (c.toNat : Int)) && decide ((c.toNat : Int) ≤ 90))) := by
  unfold letterB
  congr 1 <;> congr 1 <;> (rw [decide_eq_decide]; omega)
 have HB := Lib.hid hb
 generalize letterB c = b at *
 generalize hx : (c.toNat : Int) = x at *
 clear hb hx
 by_cases h1 : 97 ≤ x <;> by_cases h2 : x ≤ 122 <;> by_cases h3 : 65 ≤ x <;> by_cases h4 : x ≤ 90
 all_goals
  go_enter Try.func113, Try.ntmps113
  go_wp2
  go_ret
  refine ⟨?_, rfl⟩
  rw [HB.out]
  simp [h1, h2, h3, h4]
set_option maxHeartbeats 1000000 in
theorem digitP_calls (c : UInt8) (w : World) : Calls Try.prog 118 #[.int .u8 c.toNat] w fun e w' => e = .returned (.bool (digitB c)) ∧ w' = w := by
 have hb : digitB c = (decide (48 ≤ (c.toNat : Int)) && decide ((c.toNat : Int) ≤ 57)) := by
  unfold digitB
  congr 1 <;> (rw [decide_eq_decide]; omega)
 have HB := Lib.hid hb
 generalize digitB c = b at *
 generalize hx : (c.toNat : Int) = x at *
 clear hb hx
 by_cases h1 : 48 ≤ x <;> by_cases h2 : x ≤ 57
 all_goals
  go_enter Try.func118, Try.ntmps118
  go_wp2
  go_ret
  refine ⟨?_, rfl⟩
  rw [HB.out]
  simp [h1, h2]
set_option maxHeartbeats 1000000 in
theorem digitR_calls (c : UInt8) (w : World) : Calls Try.prog 114 #[.int .u8 c.toNat] w fun e w' => e = .returned (.bool (digitB c)) ∧ w' = w := by
 have hb : digitB c = (decide (48 ≤ (c.toNat : Int)) && decide ((c.toNat : Int) ≤ 57)) := by
  unfold digitB
  congr 1 <;> (rw [decide_eq_decide]; omega)
 have HB := Lib.hid hb
 generalize digitB c = b at *
 generalize hx : (c.toNat : Int) = x at *
 clear hb hx
 by_cases h1 : 48 ≤ x <;> by_cases h2 : x ≤ 57
 all_goals
  go_enter Try.func114, Try.ntmps114
  go_wp2
  go_ret
  refine ⟨?_, rfl⟩
  rw [HB.out]
  simp [h1, h2]
theorem inP_calls (x a b : Int) (w : World) : Calls Try.prog 78 #[.int .i64 x, .int .i64 a, .int .i64 b] w fun e w' => e = .returned (.bool (decide (a ≤ x) && decide (x ≤ b))) ∧ w' = w := by
 by_cases h1 : a ≤ x <;> by_cases h2 : x ≤ b
 all_goals
  go_enter Try.func78, Try.ntmps78
  go_wp2
  go_ret
  refine ⟨?_, rfl⟩
  simp [h1, h2]
theorem empty_of_size {s : ByteArray} (h : s.size = 0) : s = ByteArray.empty := by
 cases s with
 | mk d =>
   have h' : d.size = 0 := h
   have := Array.eq_empty_of_size_eq_zero h'
   rw [this]; rfl
theorem isEmpty_size (s : ByteArray) : s.toList.isEmpty = decide (s.size = 0) := by
 rw [← decide_eq_emptyBytes, decide_eq_decide]
 exact ⟨fun h => by rw [h]; rfl, empty_of_size⟩
theorem nameB_parts {s : ByteArray} : nameB s = true ↔ 1 ≤ s.size ∧ s.size ≤ 16 ∧ letterB s[0]! = true ∧ ∀ i, i < s.size → wordB s[i]! = true := by
 simp only [nameB, Bool.and_eq_true, decide_eq_true_eq, range_all]
set_option maxHeartbeats 2000000 in
theorem isNameP_calls (s : ByteArray) (w : World) : Calls Try.prog 103 #[.string s] w fun e w' => e = .returned (.bool (nameB s)) ∧ w' = w := by
 have hno : ¬ (1 ≤ s.size ∧ s.size ≤ 16 ∧ letterB s[0]! = true ∧ ∀ i, i < s.size → wordB s[i]! = true) → nameB s = false := fun h => by
  rw [Bool.eq_false_iff]; intro hv; exact h (nameB_parts.1 hv)
 have HNO := Lib.hid hno
 have HYES := Lib.hid (@nameB_parts s).2
 have hemp := isEmpty_size s
 generalize hnb : nameB s = nb at *
 have HNB := Lib.hid (show nb = nb from rfl)
 clear hno hnb
 by_cases h0 : s.size = 0
 ·have b0 : s.toList.isEmpty = true := by rw [hemp, h0]; rfl
  have d0 : decide ((s.size : Int) < 1) = true := decide_eq_true (by omega)
  have d0n : decide (s.size < 1) = true := decide_eq_true (by omega)
  have hnb : nb = false := HNO.out (fun h => by omega)
  subst hnb
  clear hemp h0
  go_enter Try.func103, Try.ntmps103
  go_wp2
  go_ret
  exact ⟨rfl, rfl⟩
 have b0 : s.toList.isEmpty = false := by rw [hemp]; simpa using h0
 have d0 : decide ((s.size : Int) < 1) = false := decide_eq_false (by omega)
 have d0n : decide (s.size < 1) = false := decide_eq_false (by omega)
 clear hemp
 by_cases h16 : 16 < s.size
 ·have b1 : decide (16 < (s.size : Int)) = true := by simp; omega
  have b1n : decide (16 < s.size) = true := by simp; omega
  have hnb : nb = false := HNO.out (fun h => by omega)
  subst hnb
  go_enter Try.func103, Try.ntmps103
  go_wp2
  go_ret
  exact ⟨rfl, rfl⟩
 have b1 : decide (16 < (s.size : Int)) = false := by simp; omega
 have b1n : decide (16 < s.size) = false := by simp; omega
 have hpos : 0 < s.size := by omega
 cases hl : letterB s[0] with
 | false =>
   have hnb : nb = false := HNO.out (fun h => by have := h.2.2.1; rw [getElem!_pos s 0 hpos, hl] at this; exact absurd this (by decide))
   subst hnb
   have HL := Lib.hid hl
   clear hl
   go_enter Try.func103, Try.ntmps103
   go_wp2_with fail
   refine (letterP_calls s[0] w).mono ?_
   rw [HL.out]
   rintro e w' ⟨rfl, rfl⟩
   go_wp2
   go_ret
   exact ⟨rfl, rfl⟩
 | true =>
   have HL := Lib.hid hl
   clear hl
   go_enter Try.func103, Try.ntmps103
   go_wp2_with fail
   refine (letterP_calls s[0] w).mono ?_
   rw [HL.out]
   rintro e w' ⟨rfl, rfl⟩
   have HW0 : Hid (wordB s[0]! = true) := Lib.hid (by rw [getElem!_pos s 0 hpos, wordB, HL.out]; rfl)
   have HL0 : Hid (letterB s[0]! = true) := Lib.hid (by rw [getElem!_pos s 0 hpos]; exact HL.out)
   go_wp2
   go_loopg [19] s.size (fun g s19 wr => ∃ k : Nat, k ≤ s.size ∧ s.size - k ≤ g ∧ s19 = .int .i64 k ∧ Aside (∀ j, j < k → wordB s[j]! = true) ∧ wr = w')
   case atStart => exact ⟨0, by omega, by omega, rfl, (fun j hj => (show j = 0 by omega) ▸ HW0.out), rfl⟩
   case round =>
    obtain ⟨k, hk, hg, rfl, A, rfl⟩ := hrel
    by_cases hlt : k < s.size
    ·have hltz : (k : Int) < (s.size : Int) := by omega
     have hkz : (0 : Int) ≤ (k : Int) := by omega
     have HGE := Lib.hid (getElem!_pos s k hlt)
     have HC1 := Lib.hid (letterP_calls s[k] wr)
     have HC2 := Lib.hid (digitP_calls s[k] wr)
     have HW := Lib.hid (show wordB s[k] = (letterB s[k] || digitB s[k] || decide (s[k].toNat = 95)) from rfl)
     cases h1 : letterB s[k] with
     | true =>
       rw [h1] at HC1 HW
       have HW := Lib.hid (show wordB s[k]! = true from by rw [HGE.out, HW.out]; simp)
       clear h1
       go_wp2_with fail
       refine HC1.out.mono ?_
       rintro e w2 ⟨rfl, rfl⟩
       go_wp2
       go_roundg (s.size - (k + 1))
       case measure => omega
       case rel =>
        refine ⟨k + 1, by omega, by omega, by go_num, (show Aside _ from fun j hj => ?_), rfl⟩
        by_cases e : j = k
        ·subst e; exact HW.out
        ·exact A.out j (by omega)
     | false =>
       rw [h1] at HC1 HW
       cases h2 : digitB s[k] with
       | true =>
         rw [h2] at HC2 HW
         have HW := Lib.hid (show wordB s[k]! = true from by rw [HGE.out, HW.out]; simp)
         clear h1 h2
         go_wp2_with fail
         refine HC1.out.mono ?_
         rintro e w2 ⟨rfl, rfl⟩
         go_wp2_with fail
         refine HC2.out.mono ?_
         rintro e w2 ⟨rfl, rfl⟩
         go_wp2
         go_roundg (s.size - (k + 1))
         case measure => omega
         case rel =>
          refine ⟨k + 1, by omega, by omega, by go_num, (show Aside _ from fun j hj => ?_), rfl⟩
          by_cases e : j = k
          ·subst e; exact HW.out
          ·exact A.out j (by omega)
       | false =>
         rw [h2] at HC2 HW
         by_cases h3 : s[k].toNat = 95
         ·have HW := Lib.hid (show wordB s[k]! = true from by rw [HGE.out, HW.out, h3]; simp)
          have c3 : ((s[k].toNat : Int) != 95) = false := by simp; omega
          clear h1 h2 h3
          go_wp2_with fail
          refine HC1.out.mono ?_
          rintro e w2 ⟨rfl, rfl⟩
          go_wp2_with fail
          refine HC2.out.mono ?_
          rintro e w2 ⟨rfl, rfl⟩
          go_wp2
          go_roundg (s.size - (k + 1))
          case measure => omega
          case rel =>
           refine ⟨k + 1, by omega, by omega, by go_num, (show Aside _ from fun j hj => ?_), rfl⟩
           by_cases e : j = k
           ·subst e; exact HW.out
           ·exact A.out j (by omega)
         ·have HW := Lib.hid (show wordB s[k]! = false from by rw [HGE.out, HW.out]; simpa using h3)
          have c3 : ((s[k].toNat : Int) != 95) = true := by simp; omega
          have hnb : nb = false := HNO.out (fun h => by have := h.2.2.2 k hlt; rw [HW.out] at this; exact absurd this (by decide))
          subst hnb
          clear h1 h2 h3
          go_wp2_with fail
          refine HC1.out.mono ?_
          rintro e w2 ⟨rfl, rfl⟩
          go_wp2_with fail
          refine HC2.out.mono ?_
          rintro e w2 ⟨rfl, rfl⟩
          go_wp2
          go_ret
          exact ⟨rfl, rfl⟩
    ·have hltz : ¬ (k : Int) < (s.size : Int) := by omega
     obtain rfl : nb = true := HYES.out ⟨by omega, by omega, HL0.out, fun i hi => A.out i (by omega)⟩
     go_wp2
     go_ret
     exact ⟨rfl, rfl⟩
set_option maxHeartbeats 2000000 in
theorem nameR_calls (s : ByteArray) (w : World) : Calls Try.prog 89 #[.string s] w fun e w' => e = .returned (.bool (nameB s)) ∧ w' = w := by
 have hno : ¬ (1 ≤ s.size ∧ s.size ≤ 16 ∧ letterB s[0]! = true ∧ ∀ i, i < s.size → wordB s[i]! = true) → nameB s = false := fun h => by
  rw [Bool.eq_false_iff]; intro hv; exact h (nameB_parts.1 hv)
 have HNO := Lib.hid hno
 have HYES := Lib.hid (@nameB_parts s).2
 have hemp := isEmpty_size s
 generalize hnb : nameB s = nb at *
 have HNB := Lib.hid (show nb = nb from rfl)
 clear hno hnb
 by_cases h0 : s.size = 0
 ·have b0 : s.toList.isEmpty = true := by rw [hemp, h0]; rfl
  have d0 : decide ((s.size : Int) < 1) = true := decide_eq_true (by omega)
  have d0n : decide (s.size < 1) = true := decide_eq_true (by omega)
  have hnb : nb = false := HNO.out (fun h => by omega)
  subst hnb
  clear hemp h0
  go_enter Try.func89, Try.ntmps89
  go_wp2
  go_ret
  exact ⟨rfl, rfl⟩
 have b0 : s.toList.isEmpty = false := by rw [hemp]; simpa using h0
 have d0 : decide ((s.size : Int) < 1) = false := decide_eq_false (by omega)
 have d0n : decide (s.size < 1) = false := decide_eq_false (by omega)
 clear hemp
 by_cases h16 : 16 < s.size
 ·have b1 : decide (16 < (s.size : Int)) = true := by simp; omega
  have b1n : decide (16 < s.size) = true := by simp; omega
  have hnb : nb = false := HNO.out (fun h => by omega)
  subst hnb
  go_enter Try.func89, Try.ntmps89
  go_wp2
  go_ret
  exact ⟨rfl, rfl⟩
 have b1 : decide (16 < (s.size : Int)) = false := by simp; omega
 have b1n : decide (16 < s.size) = false := by simp; omega
 have hpos : 0 < s.size := by omega
 cases hl : letterB s[0] with
 | false =>
   have hnb : nb = false := HNO.out (fun h => by have := h.2.2.1; rw [getElem!_pos s 0 hpos, hl] at this; exact absurd this (by decide))
   subst hnb
   have HL := Lib.hid hl
   clear hl
   go_enter Try.func89, Try.ntmps89
   go_wp2_with fail
   refine (letterR_calls s[0] w).mono ?_
   rw [HL.out]
   rintro e w' ⟨rfl, rfl⟩
   go_wp2
   go_ret
   exact ⟨rfl, rfl⟩
 | true =>
   have HL := Lib.hid hl
   clear hl
   go_enter Try.func89, Try.ntmps89
   go_wp2_with fail
   refine (letterR_calls s[0] w).mono ?_
   rw [HL.out]
   rintro e w' ⟨rfl, rfl⟩
   have HW0 : Hid (wordB s[0]! = true) := Lib.hid (by rw [getElem!_pos s 0 hpos, wordB, HL.out]; rfl)
   have HL0 : Hid (letterB s[0]! = true) := Lib.hid (by rw [getElem!_pos s 0 hpos]; exact HL.out)
   go_wp2
   go_loopg [3] s.size (fun g s19 wr => ∃ k : Nat, k ≤ s.size ∧ s.size - k ≤ g ∧ s19 = .int .i64 k ∧ Aside (∀ j, j < k → wordB s[j]! = true) ∧ wr = w')
   case atStart => exact ⟨1, by omega, by omega, rfl, (fun j hj => (show j = 0 by omega) ▸ HW0.out), rfl⟩
   case round =>
    obtain ⟨k, hk, hg, rfl, A, rfl⟩ := hrel
    by_cases hlt : k < s.size
    ·have hltz : (k : Int) < (s.size : Int) := by omega
     have hkz : (0 : Int) ≤ (k : Int) := by omega
     have HGE := Lib.hid (getElem!_pos s k hlt)
     have HC1 := Lib.hid (letterR_calls s[k] wr)
     have HC2 := Lib.hid (digitR_calls s[k] wr)
     have HW := Lib.hid (show wordB s[k] = (letterB s[k] || digitB s[k] || decide (s[k].toNat = 95)) from rfl)
     cases h1 : letterB s[k] with
     | true =>
       rw [h1] at HC1 HW
       have HW := Lib.hid (show wordB s[k]! = true from by rw [HGE.out, HW.out]; simp)
       clear h1
       go_wp2_with fail
       refine HC1.out.mono ?_
       rintro e w2 ⟨rfl, rfl⟩
       go_wp2
       go_roundg (s.size - (k + 1))
       case measure => omega
       case rel =>
        refine ⟨k + 1, by omega, by omega, by go_num, (show Aside _ from fun j hj => ?_), rfl⟩
        by_cases e : j = k
        ·subst e; exact HW.out
        ·exact A.out j (by omega)
     | false =>
       rw [h1] at HC1 HW
       cases h2 : digitB s[k] with
       | true =>
         rw [h2] at HC2 HW
         have HW := Lib.hid (show wordB s[k]! = true from by rw [HGE.out, HW.out]; simp)
         clear h1 h2
         go_wp2_with fail
         refine HC1.out.mono ?_
         rintro e w2 ⟨rfl, rfl⟩
         go_wp2_with fail
         refine HC2.out.mono ?_
         rintro e w2 ⟨rfl, rfl⟩
         go_wp2
         go_roundg (s.size - (k + 1))
         case measure => omega
         case rel =>
          refine ⟨k + 1, by omega, by omega, by go_num, (show Aside _ from fun j hj => ?_), rfl⟩
          by_cases e : j = k
          ·subst e; exact HW.out
          ·exact A.out j (by omega)
       | false =>
         rw [h2] at HC2 HW
         by_cases h3 : s[k].toNat = 95
         ·have HW := Lib.hid (show wordB s[k]! = true from by rw [HGE.out, HW.out, h3]; simp)
          have c3 : ((s[k].toNat : Int) != 95) = false := by simp; omega
          clear h1 h2 h3
          go_wp2_with fail
          refine HC1.out.mono ?_
          rintro e w2 ⟨rfl, rfl⟩
          go_wp2_with fail
          refine HC2.out.mono ?_
          rintro e w2 ⟨rfl, rfl⟩
          go_wp2
          go_roundg (s.size - (k + 1))
          case measure => omega
          case rel =>
           refine ⟨k + 1, by omega, by omega, by go_num, (show Aside _ from fun j hj => ?_), rfl⟩
           by_cases e : j = k
           ·subst e; exact HW.out
           ·exact A.out j (by omega)
         ·have HW := Lib.hid (show wordB s[k]! = false from by rw [HGE.out, HW.out]; simpa using h3)
          have c3 : ((s[k].toNat : Int) != 95) = true := by simp; omega
          have hnb : nb = false := HNO.out (fun h => by have := h.2.2.2 k hlt; rw [HW.out] at this; exact absurd this (by decide))
          subst hnb
          clear h1 h2 h3
          go_wp2_with fail
          refine HC1.out.mono ?_
          rintro e w2 ⟨rfl, rfl⟩
          go_wp2_with fail
          refine HC2.out.mono ?_
          rintro e w2 ⟨rfl, rfl⟩
          go_wp2
          go_ret
          exact ⟨rfl, rfl⟩
    ·have hltz : ¬ (k : Int) < (s.size : Int) := by omega
     obtain rfl : nb = true := HYES.out ⟨by omega, by omega, HL0.out, fun i hi => A.out i (by omega)⟩
     go_wp2
     go_ret
     exact ⟨rfl, rfl⟩
end Go.Proofs.Ytfagfooggcinoaa
namespace Go.Proofs.Ytfagfooggcinoaa
open Go.RowKit
set_option linter.unusedVariables false
set_option maxHeartbeats 400000 in
theorem indexFunc_procs {α : Type} [Inhabited α] (R : World → List Value → α → Prop) (hLasts : Lasts R) (g : Nat) (cb : Array Value) (eg : ∀ args w, (callFunc g args).run Try.prog w = .ok (.enter g args) w) (p : α → Bool) (v : Value) (l : List α) (w : World)
  (hv : Sl R 3 w v l) (hn : l.length ≤ 1000000) (hp : SaysOf Try.prog R encAgg g cb p l w) :
  Calls Try.prog 119 #[v, .func (.func g) #[] cb] w fun e w' => e = .returned (.int .i64 (firstAt p l)) ∧ Ext w w' := by
 obtain ⟨a, c, rfl, hlc, hv⟩ := hv
 have HLC := Lib.hid hlc; clear hlc
 have HV := Lib.hid hv; clear hv
 have HP := Lib.hid hp; clear hp
 have HT := Lib.hid hLasts; clear hLasts
 generalize hln : l.length = n at hn
 have HL := Lib.hid hln; clear hln
 go_enter Try.func119, Try.ntmps119
 go_wp2
 go_loopg [5, 8] n (fun m _ s8 wr => ∃ k : Nat, k ≤ n ∧ n - k ≤ m ∧ s8 = .int .i64 k ∧ Ext w wr ∧ Aside (∀ j, j < k → p l[j]! = false))
 case atStart => exact ⟨0, Nat.zero_le _, by omega, rfl, Below.refl _ _, (fun j hj => absurd hj (Nat.not_lt_zero _))⟩
 case round =>
  obtain ⟨k, hk, hm, rfl, he, A⟩ := hrel
  have HE := Lib.hid he; clear he
  by_cases hlt : k < n
  ·obtain ⟨b, off, rfl, hb, hc⟩ := HV.out (by intro e; have := HL.out; simp [e] at this; omega)
   obtain ⟨vs, hvs, hR, hcell⟩ := hc k (by rw [HL.out]; exact hlt)
   obtain ⟨c0, c1, c2, rfl⟩ : ∃ c0 c1 c2, vs = [c0, c1, c2] := by match vs, hvs with | [c0, c1, c2], _ => exact ⟨c0, c1, c2, rfl⟩
   have d0 : wr.cell? ⟨b, off + k * 3, none⟩ = some c0 := (HE.out.cell hb).trans (hcell 0 (by omega))
   have d1 : wr.cell? ⟨b, off + k * 3 + 1, none⟩ = some c1 := (HE.out.cell hb).trans (hcell 1 (by omega))
   have d2 : wr.cell? ⟨b, off + k * 3 + 2, none⟩ = some c2 := (HE.out.cell hb).trans (hcell 2 (by omega))
   have hltz : (k : Int) < (n : Int) := by omega
   clear hc hcell
   have hcall := HP.out _ (mem_at l k (by rw [HL.out]; exact hlt)) wr _ HE.out (HT.out _ _ _ _ hR HE.out)
   unfold encAgg at hcall
   generalize hy : l[k]! = y at hcall hR
   have B := Lib.hid hy
   clear hy hR hvs HV HT HP
   cases hq : p y with
   | true =>
     rw [hq] at hcall
     have HQ := Lib.hid hq; clear hq
     go_wp2_with (go_at_fn g; refine hcall.mono ?_; rintro e w' ⟨rfl, he'⟩)
     go_ret
     exact ⟨by rw [firstAt_hit p l k (by rw [HL.out]; omega) (by rw [B.out]; exact HQ.out) A.out]; rfl, HE.out.trans' he'⟩
   | false =>
     rw [hq] at hcall
     have HQ := Lib.hid hq; clear hq
     go_wp2_with (go_at_fn g; refine hcall.mono ?_; rintro e w' ⟨rfl, he'⟩)
     go_roundg (n - (k + 1))
     case measure => omega
     case rel =>
      refine ⟨k + 1, by omega, by omega, by go_num, HE.out.trans' he', (show Aside _ from fun j hj => ?_)⟩
      by_cases e : j = k
      ·subst e
       rw [B.out]; exact HQ.out
      ·exact A.out j (by omega)
  ·have hltz : ¬ (k : Int) < (n : Int) := by omega
   go_wp2
   go_ret
   exact ⟨by rw [firstAt_miss p l (fun j hj => A.out j (by rw [HL.out] at hj; omega))]; rfl, HE.out⟩
set_option maxHeartbeats 400000 in
theorem containsFunc_procs {α : Type} [Inhabited α] (R : World → List Value → α → Prop) (hLasts : Lasts R) (g : Nat) (cb : Array Value) (eg : ∀ args w, (callFunc g args).run Try.prog w = .ok (.enter g args) w) (p : α → Bool) (v : Value) (l : List α) (w : World)
  (hv : Sl R 3 w v l) (hn : l.length ≤ 1000000) (hp : SaysOf Try.prog R encAgg g cb p l w) :
  Calls Try.prog 104 #[v, .func (.func g) #[] cb] w fun e w' => e = .returned (.bool (l.any p)) ∧ Ext w w' := by
 have HI := Lib.hid (indexFunc_procs R hLasts g cb eg p v l w hv hn hp)
 clear hv hp eg hLasts
 rw [← firstAt_any]
 go_enter Try.func104, Try.ntmps104
 go_wp2_with (go_at_call 119; refine HI.out.mono ?_; rintro e w' ⟨rfl, he'⟩)
 go_ret
 exact ⟨rfl, he'⟩
set_option maxHeartbeats 400000 in
theorem indexFunc_vars {α : Type} [Inhabited α] (R : World → List Value → α → Prop) (hLasts : Lasts R) (g : Nat) (cb : Array Value) (eg : ∀ args w, (callFunc g args).run Try.prog w = .ok (.enter g args) w) (p : α → Bool) (v : Value) (l : List α) (w : World)
  (hv : Sl R 2 w v l) (hn : l.length ≤ 1000000) (hp : SaysOf Try.prog R encAgg g cb p l w) :
  Calls Try.prog 53 #[v, .func (.func g) #[] cb] w fun e w' => e = .returned (.int .i64 (firstAt p l)) ∧ Ext w w' := by
 obtain ⟨a, c, rfl, hlc, hv⟩ := hv
 have HLC := Lib.hid hlc; clear hlc
 have HV := Lib.hid hv; clear hv
 have HP := Lib.hid hp; clear hp
 have HT := Lib.hid hLasts; clear hLasts
 generalize hln : l.length = n at hn
 have HL := Lib.hid hln; clear hln
 go_enter Try.func53, Try.ntmps53
 go_wp2
 go_loopg [5, 8] n (fun m _ s8 wr => ∃ k : Nat, k ≤ n ∧ n - k ≤ m ∧ s8 = .int .i64 k ∧ Ext w wr ∧ Aside (∀ j, j < k → p l[j]! = false))
 case atStart => exact ⟨0, Nat.zero_le _, by omega, rfl, Below.refl _ _, (fun j hj => absurd hj (Nat.not_lt_zero _))⟩
 case round =>
  obtain ⟨k, hk, hm, rfl, he, A⟩ := hrel
  have HE := Lib.hid he; clear he
  by_cases hlt : k < n
  ·obtain ⟨b, off, rfl, hb, hc⟩ := HV.out (by intro e; have := HL.out; simp [e] at this; omega)
   obtain ⟨vs, hvs, hR, hcell⟩ := hc k (by rw [HL.out]; exact hlt)
   obtain ⟨c0, c1, rfl⟩ : ∃ c0 c1, vs = [c0, c1] := by match vs, hvs with | [c0, c1], _ => exact ⟨c0, c1, rfl⟩
   have d0 : wr.cell? ⟨b, off + k * 2, none⟩ = some c0 := (HE.out.cell hb).trans (hcell 0 (by omega))
   have d1 : wr.cell? ⟨b, off + k * 2 + 1, none⟩ = some c1 := (HE.out.cell hb).trans (hcell 1 (by omega))
   have hltz : (k : Int) < (n : Int) := by omega
   clear hc hcell
   have hcall := HP.out _ (mem_at l k (by rw [HL.out]; exact hlt)) wr _ HE.out (HT.out _ _ _ _ hR HE.out)
   unfold encAgg at hcall
   generalize hy : l[k]! = y at hcall hR
   have B := Lib.hid hy
   clear hy hR hvs HV HT HP
   cases hq : p y with
   | true =>
     rw [hq] at hcall
     have HQ := Lib.hid hq; clear hq
     go_wp2_with (go_at_fn g; refine hcall.mono ?_; rintro e w' ⟨rfl, he'⟩)
     go_ret
     exact ⟨by rw [firstAt_hit p l k (by rw [HL.out]; omega) (by rw [B.out]; exact HQ.out) A.out]; rfl, HE.out.trans' he'⟩
   | false =>
     rw [hq] at hcall
     have HQ := Lib.hid hq; clear hq
     go_wp2_with (go_at_fn g; refine hcall.mono ?_; rintro e w' ⟨rfl, he'⟩)
     go_roundg (n - (k + 1))
     case measure => omega
     case rel =>
      refine ⟨k + 1, by omega, by omega, by go_num, HE.out.trans' he', (show Aside _ from fun j hj => ?_)⟩
      by_cases e : j = k
      ·subst e
       rw [B.out]; exact HQ.out
      ·exact A.out j (by omega)
  ·have hltz : ¬ (k : Int) < (n : Int) := by omega
   go_wp2
   go_ret
   exact ⟨by rw [firstAt_miss p l (fun j hj => A.out j (by rw [HL.out] at hj; omega))]; rfl, HE.out⟩
set_option maxHeartbeats 400000 in
theorem containsFunc_vars {α : Type} [Inhabited α] (R : World → List Value → α → Prop) (hLasts : Lasts R) (g : Nat) (cb : Array Value) (eg : ∀ args w, (callFunc g args).run Try.prog w = .ok (.enter g args) w) (p : α → Bool) (v : Value) (l : List α) (w : World)
  (hv : Sl R 2 w v l) (hn : l.length ≤ 1000000) (hp : SaysOf Try.prog R encAgg g cb p l w) :
  Calls Try.prog 25 #[v, .func (.func g) #[] cb] w fun e w' => e = .returned (.bool (l.any p)) ∧ Ext w w' := by
 have HI := Lib.hid (indexFunc_vars R hLasts g cb eg p v l w hv hn hp)
 clear hv hp eg hLasts
 rw [← firstAt_any]
 go_enter Try.func25, Try.ntmps25
 go_wp2_with (go_at_call 53; refine HI.out.mono ?_; rintro e w' ⟨rfl, he'⟩)
 go_ret
 exact ⟨rfl, he'⟩
theorem enters_105 : ∀ args w, (callFunc 105 args).run Try.prog w = .ok (.enter 105 args) w := enters_of Try.func105 (by kernel_rfl) rfl
theorem enters_106 : ∀ args w, (callFunc 106 args).run Try.prog w = .ok (.enter 106 args) w := enters_of Try.func106 (by kernel_rfl) rfl
set_option maxHeartbeats 1000000 in
theorem procName_calls (vs : List Value) (x : Pr) (b : Nat) (s : ByteArray) (w : World) (hx : RPr w vs x) (hc : w.cell? ⟨b, 0, none⟩ = some (.string s)) :
  Calls Try.prog 105 #[.agg vs.toArray, .pointer (some ⟨b, 0, none⟩)] w fun e w' => e = .returned (.bool (x.name.toList == s.toList)) ∧ Ext w w' := by
 obtain ⟨vv, ve, rfl, _, _⟩ := hx
 have hbl := World.block_lt_of_cell? w _ hc
 have hbn : b ≠ w.heap.size := Nat.ne_of_lt hbl
 have hx0 := cell_new w #[.string x.name, vv, ve] 52 0 _ rfl
 go_enter Try.func105, Try.ntmps105
 go_wp2
 go_ret
 exact ⟨rfl, (by repeat (first | refine Ext.st ?_ (by first | exact Nat.le_refl _ | exact Nat.le_succ _ | assumption | omega) _ | refine Ext.al ?_ _ | refine Ext.dr ?_ | refine Ext.drN ?_ _ | exact Ext.rf _))⟩
set_option maxHeartbeats 1000000 in
theorem varName_calls (vs : List Value) (x : Vr) (b : Nat) (s : ByteArray) (w : World) (hx : RVr w vs x) (hc : w.cell? ⟨b, 0, none⟩ = some (.string s)) :
  Calls Try.prog 106 #[.agg vs.toArray, .pointer (some ⟨b, 0, none⟩)] w fun e w' => e = .returned (.bool (x.name.toList == s.toList)) ∧ Ext w w' := by
 have e : vs = [.string x.name, .int .i64 x.init] := hx
 subst e
 have hbl := World.block_lt_of_cell? w _ hc
 have hbn : b ≠ w.heap.size := Nat.ne_of_lt hbl
 have hx0 := cell_new w #[.string x.name, .int .i64 x.init] 60 0 _ rfl
 go_enter Try.func106, Try.ntmps106
 go_wp2
 go_ret
 exact ⟨rfl, (by repeat (first | refine Ext.st ?_ (by first | exact Nat.le_refl _ | exact Nat.le_succ _ | assumption | omega) _ | refine Ext.al ?_ _ | refine Ext.dr ?_ | refine Ext.drN ?_ _ | exact Ext.rf _))⟩
end Go.Proofs.Ytfagfooggcinoaa
namespace Go.Proofs.Ytfagfooggcinoaa
open Go.RowKit
set_option linter.unusedVariables false
attribute [local go_sem ↓] Go.wp_at_zero Go.wp_at_succ
set_option maxHeartbeats 4000000 in
set_option maxRecDepth 100000 in
theorem procFaultP_calls (v : Value) (t : Tr) (p : Nat) (w : World) (h : TrAt w v t) (hs : LooseTr t) (hp : p < t.length) :
  Calls Try.prog 79 #[.agg #[v], .int .i64 p] w fun e w' => ErrIff w w' e (headB t p) := by
 have HT := Lib.hid h
 obtain ⟨B, O, C, vv, ve, rfl, hlC, hB, hn0, hv0, he0, hV, hE0⟩ := proc_at h p hp
 obtain ⟨va, vc, rfl, hvc⟩ := hV.sh
 obtain ⟨ea, ec, rfl, hec⟩ := hE0.sh
 have hn := hs.1
 have hvn := (hs.2 p hp).1
 have HB := Lib.hid (@headB_parts t p)
 generalize hhb : headB t p = hb at *
 have HANY := Lib.hid (any_take t p (by omega) fun y => y.name.toList == t[p]!.name.toList)
 generalize hx : t[p]! = x at *
 generalize hln : t.length = n at *
 generalize hnv : x.vars.length = nv at *
 generalize hne : x.events.length = ne at *
 have HN := Lib.hid hln
 have HNV := Lib.hid hnv
 have HV := Lib.hid hV
 have HNM := Lib.hid (isNameP_calls x.name)
 have hpz : (0 : Int) ≤ (p : Int) := by omega
 have hpi : (p : Int) < (n : Int) := by omega
 have hpC : (p : Int) ≤ (C : Int) := by omega
 have hE1 : Ext w (w.alloc (.cells #[.slice (some ⟨B, O, none⟩) n C] 24)) := (Ext.rf w).al _
 have HX1 := Lib.hid (heap_new_eq (w := w.alloc (.cells #[.slice (some ⟨B, O, none⟩) n C] 24)) (o := .cells #[.string x.name, .slice va nv vc, .slice ea ne ec] 52) (b := w.heap.size + 1) (by simp))
 have HX0 := Lib.hid (((Ext.rf _).al (.cells #[.string x.name, .slice va nv vc, .slice ea ne ec] 52)).hp (heap_alloc_new w (.cells #[.slice (some ⟨B, O, none⟩) n C] 24)))
 have HE2 : Hid (Ext w ((w.alloc (.cells #[.slice (some ⟨B, O, none⟩) n C] 24)).alloc (.cells #[.string x.name, .slice va nv vc, .slice ea ne ec] 52))) := Lib.hid (((Ext.rf w).al _).al _)
 have hn1 := hE1.cl hn0
 have hv1 := hE1.cl hv0
 have he1 := hE1.cl he0
 have hT0 := cell_new w #[.slice (some ⟨B, O, none⟩) n C] 24 0 _ rfl
 clear hn0 hv0 he0 hV hE0 h hs hhb hE1 hx hln hnv hne
 cases hnm : nameB x.name with
 | false =>
   rw [hnm] at HNM
   obtain rfl : hb = false := by
    rw [Bool.eq_false_iff]; intro hbt; have := (HB.out.1 hbt).1; rw [hnm] at this; exact absurd this (by decide)
   clear hnm
   go_enter Try.func79, Try.ntmps79
   go_wp2_with fail
   refine (HNM.out _).mono ?_
   rintro e w2 ⟨rfl, rfl⟩
   go_wp2
   go_ret
   exact ⟨13, rfl, ⟨fun h => absurd h (by decide), fun h => absurd h (by decide)⟩, (by repeat (first | refine Ext.st ?_ (by first | exact Nat.le_refl _ | exact Nat.le_succ _ | assumption | omega) _ | refine Ext.al ?_ _ | refine Ext.dr ?_ | refine Ext.drN ?_ _ | exact Ext.rf _))⟩
 | true =>
   rw [hnm] at HNM
   have HNB := Lib.hid hnm
   have HCF := Lib.hid (fun W (hW : Ext w W) (hc : W.cell? ⟨w.heap.size + 1, 0, none⟩ = some (.string x.name)) => containsFunc_procs RPr rpr_lasts 105 #[.pointer (some ⟨w.heap.size + 1, 0, none⟩)] enters_105 (fun y => y.name.toList == x.name.toList) (.slice (some ⟨B, O, none⟩) p C) (t.take p) W ((HT.out.ext hW).take p (by rw [HN.out]; omega)) (by rw [List.length_take]; omega) (fun y hy W2 vs hW2 hR => procName_calls vs y _ x.name W2 hR (hW2.cl hc)))
   clear hnm
   cases hany : (t.take p).any (fun y => y.name.toList == x.name.toList) with
   | true =>
     rw [hany] at HCF
     obtain rfl : hb = false := by
      rw [Bool.eq_false_iff]; intro hbt
      rw [HANY.out, range_any] at hany
      obtain ⟨i, hi, hf⟩ := hany
      have := (HB.out.1 hbt).2.1 i hi
      rw [hf] at this; exact absurd this (by decide)
     clear hany
     go_enter Try.func79, Try.ntmps79
     go_wp2_with fail
     refine (HNM.out _).mono ?_
     rintro e w2 ⟨rfl, rfl⟩
     have x0 := cellOf HX1.out 0
     simp only [List.getElem?_toArray, List.getElem?_cons_zero] at x0
     have x1 := cellOf HX0.out 0
     simp only [List.getElem?_toArray, List.getElem?_cons_zero] at x1
     go_wp2_with fail
     refine (HCF.out _ HE2.out x0).mono ?_
     rintro e w3 ⟨rfl, hE3⟩
     have HE3 := Lib.hid (HE2.out.trans' hE3)
     clear hE3
     go_wp2
     go_ret
     exact ⟨13, rfl, ⟨fun h => absurd h (by decide), fun h => absurd h (by decide)⟩, HE3.out⟩
   | false =>
     rw [hany] at HCF
     have HNO := Lib.hid (show ∀ q, q < p → (t[q]!.name.toList == x.name.toList) = false from by
      rw [HANY.out, range_any_false] at hany; exact hany)
     clear hany
     by_cases h8 : 8 < nv
     ·have c8 : decide (8 < (nv : Int)) = true := by simp; omega
      have c8n : decide (8 < nv) = true := by simp; omega
      obtain rfl : hb = false := by
       rw [Bool.eq_false_iff]; intro hbt; have := (HB.out.1 hbt).2.2.1; omega
      go_enter Try.func79, Try.ntmps79
      go_wp2_with fail
      refine (HNM.out _).mono ?_
      rintro e w2 ⟨rfl, rfl⟩
      have x0 := cellOf HX1.out 0
      simp only [List.getElem?_toArray, List.getElem?_cons_zero] at x0
      have x1 := cellOf HX0.out 0
      simp only [List.getElem?_toArray, List.getElem?_cons_zero] at x1
      go_wp2_with fail
      refine (HCF.out _ HE2.out x0).mono ?_
      rintro e w3 ⟨rfl, hE3⟩
      have HX3 := Lib.hid (hE3.hp HX1.out)
      have HE3 := Lib.hid (HE2.out.trans' hE3)
      clear hE3 x0 x1
      have x0 := cellOf HX3.out 0
      have x1 := cellOf HX3.out 1
      have x2 := cellOf HX3.out 2
      simp only [List.getElem?_toArray, List.getElem?_cons_zero, List.getElem?_cons_succ] at x0 x1 x2
      go_wp2
      go_ret
      exact ⟨5, rfl, ⟨fun h => absurd h (by decide), fun h => absurd h (by decide)⟩, HE3.out⟩
     have c8 : decide (8 < (nv : Int)) = false := by simp; omega
     have c8n : decide (8 < nv) = false := by simp; omega
     go_enter Try.func79, Try.ntmps79
     go_wp2_with fail
     refine (HNM.out _).mono ?_
     rintro e w2 ⟨rfl, rfl⟩
     have x0 := cellOf HX1.out 0
     simp only [List.getElem?_toArray, List.getElem?_cons_zero] at x0
     have x1 := cellOf HX0.out 0
     simp only [List.getElem?_toArray, List.getElem?_cons_zero] at x1
     go_wp2_with fail
     refine (HCF.out _ HE2.out x0).mono ?_
     rintro e w3 ⟨rfl, hE3⟩
     have HX3 := Lib.hid (hE3.hp HX1.out)
     have HE3 := Lib.hid (HE2.out.trans' hE3)
     clear hE3 x0 x1
     have x0 := cellOf HX3.out 0
     have x1 := cellOf HX3.out 1
     have x2 := cellOf HX3.out 2
     simp only [List.getElem?_toArray, List.getElem?_cons_zero, List.getElem?_cons_succ] at x0 x1 x2
     go_wp2
     clear x0 x1 x2
     go_loopg [34] nv (fun g s34 wr => ∃ k : Nat, k ≤ nv ∧ nv - k ≤ g ∧ s34 = .int .i64 k ∧ Aside (∀ j, j < k → varB x.vars j = true) ∧ Aside (Ext w3 wr))
     case atStart => exact ⟨0, Nat.zero_le _, by omega, rfl, (fun j hj => absurd hj (Nat.not_lt_zero _)), Ext.rf _⟩
     case round =>
      obtain ⟨k, hk, hg, rfl, A, HEK⟩ := hrel
      have HEW := Lib.hid (HE3.out.trans' HEK.out)
      have HXK := Lib.hid (HEK.out.hp HX3.out)
      by_cases hlt : k < nv
      ·have hltz : (k : Int) < (nv : Int) := by omega
       have hkz : (0 : Int) ≤ (k : Int) := by omega
       have hkc : (k : Int) ≤ (vc : Int) := by omega
       obtain ⟨VB, VO, VC, hve, _, hVB, hvn0, hvi0⟩ := var_at HV.out k (by rw [HNV.out]; exact hlt)
       simp only [Value.slice.injEq] at hve
       obtain ⟨rfl, hzz, rfl⟩ := hve
       have hvn1 := HEW.out.cl hvn0
       have hvi1 := HEW.out.cl hvi0
       have HVP := Lib.hid (@varB_parts x.vars k)
       have HANV := Lib.hid (any_take x.vars k (by rw [HNV.out]; omega) fun y => y.name.toList == x.vars[k]!.name.toList)
       generalize hy : x.vars[k]! = y at *
       have HNY := Lib.hid (isNameP_calls y.name)
       have HBV := Lib.hid (heap_alloc_new wr (.cells #[.string y.name, .int .i64 y.init] 60))
       have HXV := Lib.hid (((Ext.rf wr).al (.cells #[.string y.name, .int .i64 y.init] 60)).hp HXK.out)
       have HEV := Lib.hid (HEK.out.al (.cells #[.string y.name, .int .i64 y.init] 60))
       clear hvn0 hvi0 hzz hy
       cases hny : nameB y.name with
       | false =>
         rw [hny] at HNY
         obtain rfl : hb = false := by
          rw [Bool.eq_false_iff]; intro hbt; have := (HVP.out.1 ((HB.out.1 hbt).2.2.2.1 k hlt)).1.1; rw [hny] at this; exact absurd this (by decide)
         clear hny
         go_wp2_with fail
         refine (HNY.out _).mono ?_
         rintro e w4 ⟨rfl, rfl⟩
         go_wp2
         go_ret
         exact ⟨13, rfl, ⟨fun h => absurd h (by decide), fun h => absurd h (by decide)⟩, HE3.out.trans' HEV.out⟩
       | true =>
         rw [hny] at HNY
         have HNYB := Lib.hid hny
         have HCV := Lib.hid (fun W (hW : Ext w W) (hc : W.cell? ⟨wr.heap.size, 0, none⟩ = some (.string y.name)) => containsFunc_vars RVr rvr_lasts 106 #[.pointer (some ⟨wr.heap.size, 0, none⟩)] enters_106 (fun z => z.name.toList == y.name.toList) (.slice (some ⟨VB, VO, none⟩) k vc) (x.vars.take k) W ((HV.out.ext rvr_lasts hW).take k (by rw [HNV.out]; omega)) (by rw [List.length_take]; omega) (fun z hz W2 vs hW2 hR => varName_calls vs z _ y.name W2 hR (hW2.cl hc)))
         have HIN := Lib.hid (inP_calls y.init (-1073741824) 1073741824)
         have y0 := cellOf HBV.out 0
         have x1 := cellOf HXV.out 1
         simp only [List.getElem?_toArray, List.getElem?_cons_zero, List.getElem?_cons_succ] at y0 x1
         clear hny
         cases hany : (x.vars.take k).any (fun z => z.name.toList == y.name.toList) with
         | true =>
           rw [hany] at HCV
           obtain rfl : hb = false := by
            rw [Bool.eq_false_iff]; intro hbt
            rw [HANV.out, range_any] at hany
            obtain ⟨i, hi, hf⟩ := hany
            have := (HVP.out.1 ((HB.out.1 hbt).2.2.2.1 k hlt)).1.2 i hi
            rw [hf] at this; exact absurd this (by decide)
           clear hany
           go_wp2_with fail
           refine (HNY.out _).mono ?_
           rintro e w4 ⟨rfl, rfl⟩
           go_wp2_with fail
           refine (HCV.out _ (HE3.out.trans' HEV.out) y0).mono ?_
           rintro e w5 ⟨rfl, hE5⟩
           have HE5 := Lib.hid (HE3.out.trans' (HEV.out.trans' hE5))
           clear hE5
           go_wp2
           go_ret
           exact ⟨13, rfl, ⟨fun h => absurd h (by decide), fun h => absurd h (by decide)⟩, HE5.out⟩
         | false =>
           rw [hany] at HCV
           have HNOV := Lib.hid (show ∀ j, j < k → (x.vars[j]!.name.toList == y.name.toList) = false from by
            rw [HANV.out, range_any_false] at hany; exact hany)
           clear hany
           have hvb : valueB y.init = (decide (-1073741824 ≤ y.init) && decide (y.init ≤ 1073741824)) := rfl
           rw [← hvb] at HIN
           cases hval : valueB y.init with
           | false =>
             rw [hval] at HIN
             obtain rfl : hb = false := by
              rw [Bool.eq_false_iff]; intro hbt; have := (HVP.out.1 ((HB.out.1 hbt).2.2.2.1 k hlt)).2; rw [hval] at this; exact absurd this (by decide)
             clear hval hvb
             go_wp2_with fail
             refine (HNY.out _).mono ?_
             rintro e w4 ⟨rfl, rfl⟩
             go_wp2_with fail
             refine (HCV.out _ (HE3.out.trans' HEV.out) y0).mono ?_
             rintro e w5 ⟨rfl, hE5⟩
             have HE5 := Lib.hid (HEV.out.trans' hE5)
             have HBV5 := Lib.hid (hE5.hp HBV.out)
             have z1 := cellOf HBV5.out 1
             simp only [List.getElem?_toArray, List.getElem?_cons_zero, List.getElem?_cons_succ] at z1
             clear hE5 y0 x1
             go_wp2_with fail
             refine (HIN.out _).mono ?_
             rintro e w6 ⟨rfl, rfl⟩
             go_wp2
             go_ret
             exact ⟨2, rfl, ⟨fun h => absurd h (by decide), fun h => absurd h (by decide)⟩, HE3.out.trans' HE5.out⟩
           | true =>
             rw [hval] at HIN
             have HVB := Lib.hid (HVP.out.2 ⟨⟨HNYB.out, HNOV.out⟩, hval⟩)
             clear hval hvb
             go_wp2_with fail
             refine (HNY.out _).mono ?_
             rintro e w4 ⟨rfl, rfl⟩
             go_wp2_with fail
             refine (HCV.out _ (HE3.out.trans' HEV.out) y0).mono ?_
             rintro e w5 ⟨rfl, hE5⟩
             have HE5 := Lib.hid (HEV.out.trans' hE5)
             have HBV5 := Lib.hid (hE5.hp HBV.out)
             have z1 := cellOf HBV5.out 1
             simp only [List.getElem?_toArray, List.getElem?_cons_zero, List.getElem?_cons_succ] at z1
             clear hE5 y0 x1
             go_wp2_with fail
             refine (HIN.out _).mono ?_
             rintro e w6 ⟨rfl, rfl⟩
             go_wp2
             go_roundg (nv - (k + 1))
             case measure => omega
             case rel =>
              refine ⟨k + 1, by omega, by omega, by go_num, (show Aside _ from fun j hj => ?_), (show Ext _ _ from HE5.out)⟩
              by_cases e : j = k
              ·subst e; exact HVB.out
              ·exact A.out j (by omega)
      ·have hltz : ¬ (k : Int) < (nv : Int) := by omega
       obtain rfl : nv = k := by omega
       have x0 := cellOf HXK.out 0
       have x1 := cellOf HXK.out 1
       have x2 := cellOf HXK.out 2
       simp only [List.getElem?_toArray, List.getElem?_cons_zero, List.getElem?_cons_succ] at x0 x1 x2
       by_cases h64 : 64 < ne
       ·have c64 : decide (64 < (ne : Int)) = true := by simp; omega
        have c64n : decide (64 < ne) = true := by simp; omega
        obtain rfl : hb = false := by
         rw [Bool.eq_false_iff]; intro hbt; have := (HB.out.1 hbt).2.2.2.2; omega
        go_wp2
        go_ret
        exact ⟨5, rfl, ⟨fun h => absurd h (by decide), fun h => absurd h (by decide)⟩, HEW.out⟩
       ·have c64 : decide (64 < (ne : Int)) = false := by simp; omega
        have c64n : decide (64 < ne) = false := by simp; omega
        obtain rfl : hb = true := HB.out.2 ⟨HNB.out, HNO.out, by omega, A.out, by omega⟩
        go_wp2
        go_ret
        exact ⟨0, rfl, ⟨fun _ => rfl, fun _ => rfl⟩, HEW.out⟩
end Go.Proofs.Ytfagfooggcinoaa
namespace Go.Proofs.Ytfagfooggcinoaa
open Go.RowKit
set_option linter.unusedVariables false
attribute [local go_sem ↓] Go.wp_at_zero Go.wp_at_succ
set_option maxHeartbeats 400000 in
theorem indexFunc_asgs {α : Type} [Inhabited α] (R : World → List Value → α → Prop) (hLasts : Lasts R) (g : Nat) (cb : Array Value) (eg : ∀ args w, (callFunc g args).run Try.prog w = .ok (.enter g args) w) (p : α → Bool) (v : Value) (l : List α) (w : World)
  (hv : Sl R 2 w v l) (hn : l.length ≤ 1000000) (hp : SaysOf Try.prog R encAgg g cb p l w) :
  Calls Try.prog 120 #[v, .func (.func g) #[] cb] w fun e w' => e = .returned (.int .i64 (firstAt p l)) ∧ Ext w w' := by
 obtain ⟨a, c, rfl, hlc, hv⟩ := hv
 have HLC := Lib.hid hlc; clear hlc
 have HV := Lib.hid hv; clear hv
 have HP := Lib.hid hp; clear hp
 have HT := Lib.hid hLasts; clear hLasts
 generalize hln : l.length = n at hn
 have HL := Lib.hid hln; clear hln
 go_enter Try.func120, Try.ntmps120
 go_wp2
 go_loopg [5, 8] n (fun m _ s8 wr => ∃ k : Nat, k ≤ n ∧ n - k ≤ m ∧ s8 = .int .i64 k ∧ Ext w wr ∧ Aside (∀ j, j < k → p l[j]! = false))
 case atStart => exact ⟨0, Nat.zero_le _, by omega, rfl, Below.refl _ _, (fun j hj => absurd hj (Nat.not_lt_zero _))⟩
 case round =>
  obtain ⟨k, hk, hm, rfl, he, A⟩ := hrel
  have HE := Lib.hid he; clear he
  by_cases hlt : k < n
  ·obtain ⟨b, off, rfl, hb, hc⟩ := HV.out (by intro e; have := HL.out; simp [e] at this; omega)
   obtain ⟨vs, hvs, hR, hcell⟩ := hc k (by rw [HL.out]; exact hlt)
   obtain ⟨c0, c1, rfl⟩ : ∃ c0 c1, vs = [c0, c1] := by match vs, hvs with | [c0, c1], _ => exact ⟨c0, c1, rfl⟩
   have d0 : wr.cell? ⟨b, off + k * 2, none⟩ = some c0 := (HE.out.cell hb).trans (hcell 0 (by omega))
   have d1 : wr.cell? ⟨b, off + k * 2 + 1, none⟩ = some c1 := (HE.out.cell hb).trans (hcell 1 (by omega))
   have hltz : (k : Int) < (n : Int) := by omega
   clear hc hcell
   have hcall := HP.out _ (mem_at l k (by rw [HL.out]; exact hlt)) wr _ HE.out (HT.out _ _ _ _ hR HE.out)
   unfold encAgg at hcall
   generalize hy : l[k]! = y at hcall hR
   have B := Lib.hid hy
   clear hy hR hvs HV HT HP
   cases hq : p y with
   | true =>
     rw [hq] at hcall
     have HQ := Lib.hid hq; clear hq
     go_wp2_with (go_at_fn g; refine hcall.mono ?_; rintro e w' ⟨rfl, he'⟩)
     go_ret
     exact ⟨by rw [firstAt_hit p l k (by rw [HL.out]; omega) (by rw [B.out]; exact HQ.out) A.out]; rfl, HE.out.trans' he'⟩
   | false =>
     rw [hq] at hcall
     have HQ := Lib.hid hq; clear hq
     go_wp2_with (go_at_fn g; refine hcall.mono ?_; rintro e w' ⟨rfl, he'⟩)
     go_roundg (n - (k + 1))
     case measure => omega
     case rel =>
      refine ⟨k + 1, by omega, by omega, by go_num, HE.out.trans' he', (show Aside _ from fun j hj => ?_)⟩
      by_cases e : j = k
      ·subst e
       rw [B.out]; exact HQ.out
      ·exact A.out j (by omega)
  ·have hltz : ¬ (k : Int) < (n : Int) := by omega
   go_wp2
   go_ret
   exact ⟨by rw [firstAt_miss p l (fun j hj => A.out j (by rw [HL.out] at hj; omega))]; rfl, HE.out⟩
set_option maxHeartbeats 400000 in
theorem containsFunc_asgs {α : Type} [Inhabited α] (R : World → List Value → α → Prop) (hLasts : Lasts R) (g : Nat) (cb : Array Value) (eg : ∀ args w, (callFunc g args).run Try.prog w = .ok (.enter g args) w) (p : α → Bool) (v : Value) (l : List α) (w : World)
  (hv : Sl R 2 w v l) (hn : l.length ≤ 1000000) (hp : SaysOf Try.prog R encAgg g cb p l w) :
  Calls Try.prog 109 #[v, .func (.func g) #[] cb] w fun e w' => e = .returned (.bool (l.any p)) ∧ Ext w w' := by
 have HI := Lib.hid (indexFunc_asgs R hLasts g cb eg p v l w hv hn hp)
 clear hv hp eg hLasts
 rw [← firstAt_any]
 go_enter Try.func109, Try.ntmps109
 go_wp2_with (go_at_call 120; refine HI.out.mono ?_; rintro e w' ⟨rfl, he'⟩)
 go_ret
 exact ⟨rfl, he'⟩
theorem enters_110 : ∀ args w, (callFunc 110 args).run Try.prog w = .ok (.enter 110 args) w := enters_of Try.func110 (by kernel_rfl) rfl
set_option maxHeartbeats 1000000 in
theorem asgVar_calls (vs : List Value) (x : Asg) (b : Nat) (s : Int) (w : World) (hx : RAsg w vs x) (hc : w.cell? ⟨b, 0, none⟩ = some (.int .i64 s)) :
  Calls Try.prog 110 #[.agg vs.toArray, .pointer (some ⟨b, 0, none⟩)] w fun e w' => e = .returned (.bool (decide (x.var = s))) ∧ Ext w w' := by
 have e : vs = [.int .i64 x.var, .int .i64 x.value] := hx
 subst e
 have hbl := World.block_lt_of_cell? w _ hc
 have hbn : b ≠ w.heap.size := Nat.ne_of_lt hbl
 have hx0 := cell_new w #[.int .i64 x.var, .int .i64 x.value] 140 0 _ rfl
 have hr : (x.var == s) = decide (x.var = s) := rfl
 go_enter Try.func110, Try.ntmps110
 go_wp2
 go_ret
 exact ⟨rfl, (by repeat (first | refine Ext.st ?_ (by first | exact Nat.le_refl _ | exact Nat.le_succ _ | assumption | omega) _ | refine Ext.al ?_ _ | refine Ext.dr ?_ | refine Ext.drN ?_ _ | exact Ext.rf _))⟩
theorem asgB_parts {nv : Nat} {l : List Asg} {k : Nat} : asgB nv l k = true ↔ 0 ≤ l[k]!.var ∧ l[k]!.var < nv ∧ valueB l[k]!.value = true ∧ ∀ j, j < k → decide (l[j]!.var = l[k]!.var) = false := by
 simp only [asgB, Bool.and_eq_true, decide_eq_true_eq, range_all, Bool.not_eq_true']
theorem eventB_parts {t : Tr} {p i : Nat} : eventB t p i = true ↔ formedB t.length p t[p]!.events[i]! = true ∧ 0 ≤ t[p]!.events[i]!.time ∧ t[p]!.events[i]!.time ≤ 1099511627776 ∧ (i = 0 ∨ t[p]!.events[i - 1]!.time ≤ t[p]!.events[i]!.time) ∧
  t[p]!.events[i]!.asg.length ≤ 8 ∧ ∀ k, k < t[p]!.events[i]!.asg.length → asgB t[p]!.vars.length t[p]!.events[i]!.asg k = true := by
 simp only [eventB, Bool.and_eq_true, decide_eq_true_eq, range_all]
end Go.Proofs.Ytfagfooggcinoaa
namespace Go.Proofs.Ytfagfooggcinoaa
open Go.RowKit
set_option linter.unusedVariables false
attribute [local go_sem ↓] Go.wp_at_zero Go.wp_at_succ
set_option maxHeartbeats 4000000 in
theorem formedP_calls (a : Option Addr) (n c p : Nat) (ea : Value) (kd pe ms ti : Int) (l : List Asg) (w : World) (hn : n ≤ 1000000) (hp : p < n) :
  Calls Try.prog 108 #[.agg #[.slice a n c], .int .i64 p, .agg #[.int .i64 kd, .int .i64 pe, .int .i64 ms, .int .i64 ti, ea]] w fun e w' => e = .returned (.bool (formedB n p ⟨kd, pe, ms, ti, l⟩)) ∧ Ext w w' := by
 generalize hfb : formedB n p ⟨kd, pe, ms, ti, l⟩ = fb
 have HFB := Lib.hid hfb.symm
 clear hfb
 have HE2 : Hid (Ext w ((w.alloc (.cells #[.slice a n c] 24)).alloc (.cells #[.int .i64 kd, .int .i64 pe, .int .i64 ms, .int .i64 ti, ea] 56))) := Lib.hid (((Ext.rf w).al _).al _)
 by_cases h1 : kd = 1
 ·subst h1
  have hbf : fb = (decide (pe = 0) && decide (ms = 0)) := by rw [HFB.out]; simp [formedB]
  by_cases h2 : pe = 0
  ·subst h2
   by_cases h3 : ms = 0
   ·subst h3
    obtain rfl : fb = true := by rw [hbf]; rfl
    clear hbf
    go_enter Try.func108, Try.ntmps108
    go_wp2
    go_ret
    exact ⟨rfl, (by repeat (first | refine Ext.st ?_ (by first | exact Nat.le_refl _ | exact Nat.le_succ _ | assumption | omega) _ | refine Ext.al ?_ _ | refine Ext.dr ?_ | refine Ext.drN ?_ _ | exact Ext.rf _))⟩
   ·have c3 : (ms == 0) = false := by simpa using h3
    obtain rfl : fb = false := by rw [hbf]; simp [h3]
    clear hbf h3
    go_enter Try.func108, Try.ntmps108
    go_wp2
    go_ret
    exact ⟨rfl, (by repeat (first | refine Ext.st ?_ (by first | exact Nat.le_refl _ | exact Nat.le_succ _ | assumption | omega) _ | refine Ext.al ?_ _ | refine Ext.dr ?_ | refine Ext.drN ?_ _ | exact Ext.rf _))⟩
  ·have c2 : (pe == 0) = false := by simpa using h2
   obtain rfl : fb = false := by rw [hbf]; simp [h2]
   clear hbf h2
   go_enter Try.func108, Try.ntmps108
   go_wp2
   go_ret
   exact ⟨rfl, (by repeat (first | refine Ext.st ?_ (by first | exact Nat.le_refl _ | exact Nat.le_succ _ | assumption | omega) _ | refine Ext.al ?_ _ | refine Ext.dr ?_ | refine Ext.drN ?_ _ | exact Ext.rf _))⟩
 by_cases h2 : kd = 2
 ·subst h2
  clear h1
  have HI1 := Lib.hid (inP_calls pe 0 ((n : Int) - 1))
  have HI2 := Lib.hid (inP_calls ms 0 199)
  by_cases h4 : 0 ≤ pe ∧ pe ≤ (n : Int) - 1
  ·have d4 : (decide (0 ≤ pe) && decide (pe ≤ (n : Int) - 1)) = true := by simp [h4.1]; omega
   rw [d4] at HI1
   by_cases h5 : pe = p
   ·have c5 : (pe != (p : Int)) = false := by simpa using h5
    have hbf : fb = false := by rw [HFB.out]; simp [formedB, h5]
    subst hbf
    clear d4 h4 h5
    go_enter Try.func108, Try.ntmps108
    go_wp2_with fail
    refine (HI1.out _).mono ?_
    rintro e w2 ⟨rfl, rfl⟩
    go_wp2
    go_ret
    exact ⟨rfl, (by repeat (first | refine Ext.st ?_ (by first | exact Nat.le_refl _ | exact Nat.le_succ _ | assumption | omega) _ | refine Ext.al ?_ _ | refine Ext.dr ?_ | refine Ext.drN ?_ _ | exact Ext.rf _))⟩
   ·have c5 : (pe != (p : Int)) = true := by simpa using h5
    have hbf : fb = (decide (0 ≤ ms) && decide (ms ≤ 199)) := by
     rw [HFB.out]; simp [formedB, h5, h4.1, show pe < (n : Int) from by omega]
    rw [← hbf] at HI2
    clear d4 h4 h5 hbf
    go_enter Try.func108, Try.ntmps108
    go_wp2_with fail
    refine (HI1.out _).mono ?_
    rintro e w2 ⟨rfl, rfl⟩
    go_wp2_with fail
    refine (HI2.out _).mono ?_
    rintro e w3 ⟨rfl, rfl⟩
    go_wp2
    go_ret
    exact ⟨rfl, (by repeat (first | refine Ext.st ?_ (by first | exact Nat.le_refl _ | exact Nat.le_succ _ | assumption | omega) _ | refine Ext.al ?_ _ | refine Ext.dr ?_ | refine Ext.drN ?_ _ | exact Ext.rf _))⟩
  ·have d4 : (decide (0 ≤ pe) && decide (pe ≤ (n : Int) - 1)) = false := by
    rw [Bool.and_eq_false_iff]; simp only [decide_eq_false_iff_not]; omega
   rw [d4] at HI1
   have hbf : fb = false := by rw [HFB.out]; simp [formedB]; intros; omega
   subst hbf
   clear d4 h4
   go_enter Try.func108, Try.ntmps108
   go_wp2_with fail
   refine (HI1.out _).mono ?_
   rintro e w2 ⟨rfl, rfl⟩
   go_wp2
   go_ret
   exact ⟨rfl, (by repeat (first | refine Ext.st ?_ (by first | exact Nat.le_refl _ | exact Nat.le_succ _ | assumption | omega) _ | refine Ext.al ?_ _ | refine Ext.dr ?_ | refine Ext.drN ?_ _ | exact Ext.rf _))⟩
 by_cases h3 : kd = 3
 ·subst h3
  clear h1 h2
  have HI1 := Lib.hid (inP_calls pe 0 ((n : Int) - 1))
  have HI2 := Lib.hid (inP_calls ms 0 199)
  by_cases h4 : 0 ≤ pe ∧ pe ≤ (n : Int) - 1
  ·have d4 : (decide (0 ≤ pe) && decide (pe ≤ (n : Int) - 1)) = true := by simp [h4.1]; omega
   rw [d4] at HI1
   by_cases h5 : pe = p
   ·have c5 : (pe != (p : Int)) = false := by simpa using h5
    have hbf : fb = false := by rw [HFB.out]; simp [formedB, h5]
    subst hbf
    clear d4 h4 h5
    go_enter Try.func108, Try.ntmps108
    go_wp2_with fail
    refine (HI1.out _).mono ?_
    rintro e w2 ⟨rfl, rfl⟩
    go_wp2
    go_ret
    exact ⟨rfl, (by repeat (first | refine Ext.st ?_ (by first | exact Nat.le_refl _ | exact Nat.le_succ _ | assumption | omega) _ | refine Ext.al ?_ _ | refine Ext.dr ?_ | refine Ext.drN ?_ _ | exact Ext.rf _))⟩
   ·have c5 : (pe != (p : Int)) = true := by simpa using h5
    have hbf : fb = (decide (0 ≤ ms) && decide (ms ≤ 199)) := by
     rw [HFB.out]; simp [formedB, h5, h4.1, show pe < (n : Int) from by omega]
    rw [← hbf] at HI2
    clear d4 h4 h5 hbf
    go_enter Try.func108, Try.ntmps108
    go_wp2_with fail
    refine (HI1.out _).mono ?_
    rintro e w2 ⟨rfl, rfl⟩
    go_wp2_with fail
    refine (HI2.out _).mono ?_
    rintro e w3 ⟨rfl, rfl⟩
    go_wp2
    go_ret
    exact ⟨rfl, (by repeat (first | refine Ext.st ?_ (by first | exact Nat.le_refl _ | exact Nat.le_succ _ | assumption | omega) _ | refine Ext.al ?_ _ | refine Ext.dr ?_ | refine Ext.drN ?_ _ | exact Ext.rf _))⟩
  ·have d4 : (decide (0 ≤ pe) && decide (pe ≤ (n : Int) - 1)) = false := by
    rw [Bool.and_eq_false_iff]; simp only [decide_eq_false_iff_not]; omega
   rw [d4] at HI1
   have hbf : fb = false := by rw [HFB.out]; simp [formedB]; intros; omega
   subst hbf
   clear d4 h4
   go_enter Try.func108, Try.ntmps108
   go_wp2_with fail
   refine (HI1.out _).mono ?_
   rintro e w2 ⟨rfl, rfl⟩
   go_wp2
   go_ret
   exact ⟨rfl, (by repeat (first | refine Ext.st ?_ (by first | exact Nat.le_refl _ | exact Nat.le_succ _ | assumption | omega) _ | refine Ext.al ?_ _ | refine Ext.dr ?_ | refine Ext.drN ?_ _ | exact Ext.rf _))⟩
 ·have c1 : (kd == 1) = false := by simpa using h1
  have c2 : (kd == 2) = false := by simpa using h2
  have c3 : (kd == 3) = false := by simpa using h3
  obtain rfl : fb = false := by rw [HFB.out]; simp [formedB, h1, h2, h3]
  clear h1 h2 h3
  go_enter Try.func108, Try.ntmps108
  go_wp2
  go_ret
  exact ⟨rfl, (by repeat (first | refine Ext.st ?_ (by first | exact Nat.le_refl _ | exact Nat.le_succ _ | assumption | omega) _ | refine Ext.al ?_ _ | refine Ext.dr ?_ | refine Ext.drN ?_ _ | exact Ext.rf _))⟩
end Go.Proofs.Ytfagfooggcinoaa
