import Derived.Test.YtodkcfebcjgahaaBase
import Derived.Test.YtodkcfebcjgahaaProg
import Derived.Test.YtodkcfebcjgahaaFault
import Derived.Test.YtodkcfebcjgahaaCheck
import Derived.Test.YtodkcfebcjgahaaBoxG
import Derived.Test.YtodkcfebcjgahaaTr
import Derived.Test.YtodkcfebcjgahaaWaiL
import Derived.BigQuiet
import Derived.Deep.QuietTactic
import Derived.Deep.LoopGhost
import Derived.Shelf.Abstract
import Derived.Laws.EntriesVeiled
import Derived.RegionTactic
import Derived.ChangeAlike
import Derived.BigRegion
import Derived.Deep.DeepCutAuto
/-
  The reference's deadlocks and stuck sets.
-/
namespace Go.Proofs.Ytodkcfebcjgahaa
open Go.RowKit
set_option linter.unusedVariables false

def freeTo (l s : List Int) (k : Nat) : Nat := ((l.take k).filter fun y => !s.contains y).length
theorem freeTo_yes {l s : List Int} {k : Nat} (hk : k < l.length) (h : s.contains l[k]! = false) : freeTo l s (k + 1) = freeTo l s k + 1 := by
  unfold freeTo
  rw [List.take_succ_eq_append_getElem hk, List.filter_append, List.length_append, ← getElem!_pos l k hk]
  simp only [List.filter_cons, h, Bool.not_false, if_true, List.filter_nil, List.length_singleton]
theorem freeTo_no {l s : List Int} {k : Nat} (hk : k < l.length) (h : s.contains l[k]! = true) : freeTo l s (k + 1) = freeTo l s k := by
  unfold freeTo
  rw [List.take_succ_eq_append_getElem hk, List.filter_append, List.length_append, ← getElem!_pos l k hk]
  simp only [List.filter_cons, h, Bool.not_true, Bool.false_eq_true, if_false, List.filter_nil, List.length_nil, Nat.add_zero]
theorem freeTo_le (l s : List Int) (k : Nat) : freeTo l s k ≤ k := by
  unfold freeTo
  exact Nat.le_trans (List.length_filter_le _ _) (by rw [List.length_take]; omega)
theorem ints_atW {w : World} {a : Option Addr} {m c : Nat} {l : List Int} (h : Ints w (.slice a m c) l) (i : Nat) (hi : i < l.length) : ∃ b o, a = some ⟨b, o, none⟩ ∧ b < w.heap.size ∧ w.cell? ⟨b, o + i, none⟩ = some (.int .i64 l[i]!) := by
  obtain ⟨a', c', e, _, h⟩ := h
  simp only [Value.slice.injEq] at e
  obtain ⟨rfl, _, _⟩ := e
  obtain ⟨b, o, rfl, hb, hc⟩ := h (by intro e; rw [e] at hi; simp at hi)
  exact ⟨b, o, rfl, hb, hc i hi⟩

set_option maxHeartbeats 4000000 in
set_option maxRecDepth 100000 in
theorem stays_calls (x : Wt) (s : List Int) (fv sv : Value) (w : World) (hf : Ints w fv x.fors) (hs : Ints w sv s) (hfl : x.fors.length ≤ 1000000) (hsl : s.length ≤ 1000000) :
    Calls Try.prog 37 #[.agg #[.int .i64 x.proc, .int .i64 x.need, fv], sv] w fun e w' => e = .returned (.bool (staysB x s)) ∧ Ext w w' := by
  have HF := Lib.hid hf
  have HIN := Lib.hid (fun W (hW : Ext w W) y => in51_calls y sv s W (hs.ext hW) hsl)
  obtain ⟨fa, fc, rfl, hfc, _⟩ := hf
  have HSB : Hid (staysB x s = decide ((freeTo x.fors s x.fors.length : Int) < x.need)) := Lib.hid (by unfold staysB freeTo; rw [List.take_length])
  have HFY := Lib.hid (fun k => @freeTo_yes x.fors s k)
  have HFN := Lib.hid (fun k => @freeTo_no x.fors s k)
  generalize x.proc = pr at *
  rw [HSB.out]
  clear HSB
  generalize x.need = nd at *
  generalize x.fors = l at *
  obtain ⟨F, hF⟩ : ∃ F, l.length = F := ⟨_, rfl⟩
  have HFL := Lib.hid hF
  rw [hF] at HF hfl ⊢
  have HX0 := Lib.hid (heap_alloc_new w (.cells #[.int .i64 pr, .int .i64 nd, .slice fa F fc] 31))
  have HE1 := Lib.hid ((Ext.rf w).al (.cells #[.int .i64 pr, .int .i64 nd, .slice fa F fc] 31))
  obtain ⟨sa, sc, rfl, _, _⟩ := hs
  generalize s.length = sl at *
  clear hF hfc
  go_enter Try.func37, Try.ntmps37
  go_wp2
  generalize hw1 : w.alloc (.cells #[.int .i64 pr, .int .i64 nd, .slice fa F fc] 31) = w1 at *
  clear hw1
  go_loopg [5, 6] F (fun g s5 s6 wr => ∃ k : Nat, k ≤ F ∧ F - k ≤ g ∧ s5 = .int .i64 (freeTo l s k) ∧ s6 = .int .i64 k ∧ Aside (Ext w1 wr))
  case atStart => exact ⟨0, Nat.zero_le _, by omega, rfl, rfl, Ext.rf _⟩
  case round =>
    obtain ⟨k, hk, hg, rfl, rfl, HX⟩ := hrel
    have x0 := cellOf (HX.out.hp HX0.out) 1
    have x2 := cellOf (HX.out.hp HX0.out) 2
    simp only [List.getElem?_toArray, List.getElem?_cons_zero, List.getElem?_cons_succ] at x0 x2
    have HEW := Lib.hid (HE1.out.trans' HX.out)
    by_cases hlt : k < F
    · have hltz : (k : Int) < (F : Int) := by omega
      have hkz : (0 : Int) ≤ (k : Int) := by omega
      obtain ⟨fb, fo, rfl, _, hcell⟩ := ints_atW HF.out k (by rw [HFL.out]; exact hlt)
      have f0 := HEW.out.cl hcell
      have HI := Lib.hid (HIN.out wr HEW.out l[k]!)
      have HY := Lib.hid (HFY.out k (by rw [HFL.out]; exact hlt))
      have HN := Lib.hid (HFN.out k (by rw [HFL.out]; exact hlt))
      have hfk := freeTo_le l s k
      generalize l[k]! = y at *
      obtain ⟨r, hr⟩ : ∃ r, s.contains y = r := ⟨_, rfl⟩
      rw [hr] at HI HY HN
      clear hr hcell
      go_wp2_with fail
      refine HI.out.mono ?_
      rintro e w9 ⟨rfl, rfl⟩
      cases r with
      | true =>
        have HN2 := Lib.hid (HN.out rfl)
        go_wp2
        go_roundg (F - (k + 1))
        case measure => omega
        case rel => exact ⟨k + 1, by omega, by omega, by rw [HN2.out], by go_num, (show Ext _ _ from HX.out)⟩
      | false =>
        have HN2 := Lib.hid (HY.out rfl)
        go_wp2
        go_roundg (F - (k + 1))
        case measure => omega
        case rel => exact ⟨k + 1, by omega, by omega, by rw [HN2.out]; go_num, by go_num, (show Ext _ _ from HX.out)⟩
    · have hltz : ¬ (k : Int) < (F : Int) := by omega
      obtain rfl : F = k := by omega
      go_wp2
      go_ret
      exact ⟨rfl, HEW.out⟩

theorem enters_37 : ∀ args w, (callFunc 37 args).run Try.prog w = .ok (.enter 37 args) w := enters_of Try.func37 (by kernel_rfl) rfl
theorem info_intW : (Try.prog.info? 3).map (fun i => (i.zero, i.size, i.bytes)) = some (some (.int .i64 0), 1, 8) := by kernel_rfl
theorem info_partsW {P : Program} {t : TypeId} {z : Value} {s b : Nat} (h : (P.info? t).map (fun i => (i.zero, i.size, i.bytes)) = some (some z, s, b)) : ∃ i, P.info? t = some i ∧ i.zero = some z ∧ i.size = s ∧ i.bytes = b := by
  cases hq : P.info? t with
  | none => rw [hq] at h; cases h
  | some i =>
    rw [hq] at h
    simp only [Option.map_some, Option.some.injEq, Prod.mk.injEq] at h
    exact ⟨i, rfl, h.1, h.2.1, h.2.2⟩
theorem rnds_ask {l : List Wt} {N : Nat} : ∀ r, Sub N (rndsM l N (askM l N) r) (askM l N) := by
  intro r
  induction r with
  | zero => exact fun i _ h => h
  | succ r ih => exact fun i hi h => ih i hi (rndM_sub l N _ i hi h)
/-- What the reference asks of a member is what the program asks. -/
theorem stays_marks {l : List Wt} {N : Nat} {B : List Bool} {p : Int} {i : Nat} (ok : DOk l N) (h : firstAt (fun x : Wt => x.proc == p) l = (i : Int)) : i < l.length ∧ staysB l[i]! (marks B N) = heldB l B p := by
  obtain ⟨h1, h2⟩ := heldB_hit (M := B) h
  refine ⟨h1, ?_⟩
  rw [h2]
  unfold staysB blockedB
  have hx := (ok l[i]! (mem_at l i h1)).2
  have : (l[i]!.fors.filter fun y => !(marks B N).contains y) = l[i]!.fors.filter fun y => !B[y.toNat]! := List.filter_congr fun y hy => by
    have h := hx y hy
    have e := marks_contains B N y.toNat (by omega)
    rw [show ((y.toNat : Nat) : Int) = y by omega] at e
    rw [e]
  rw [this]
theorem marks_step (M : List Bool) (k : Nat) : marks M (k + 1) = if M[k]! = true then marks M k ++ [(k : Int)] else marks M k := by
  cases h : M[k]! with
  | true => rw [marks_yes M k h]; rfl
  | false => rw [marks_no M k h]; rfl
abbrev RowD (w : World) (base : Nat) (v : Value) (l : List Int) : Prop := Row w base 3 1 v l.length (l.map (Value.int .i64))

set_option maxHeartbeats 8000000 in
set_option maxRecDepth 100000 in
theorem deadR_calls (u : Value) (l : List Wt) (N : Nat) (w : World) (hu : Sl RWait 3 w u l) (hn : l.length ≤ 1000000) (hfl : ∀ x, x ∈ l → x.fors.length ≤ 1000000) (hN : N ≤ 1000) (hgood : validL l (N : Int) = 0) :
    Calls Try.prog 18 #[u, .int .i64 N] w fun e w' => ∃ v, e = .returned v ∧ RowD w' w.heap.size v (marks (rndsM l N (askM l N) (N + 1)) N) ∧ Ext w w' := by
  obtain ⟨_, _, hok⟩ := validL_dok hgood
  rw [Int.toNat_natCast] at hok
  have OK := Lib.hid hok
  have HRQ := Lib.hid (fun (W : World) (hW : Ext w W) (p : Int) => request_calls p u l W (hu.ext rwait_lasts hW) hn)
  have HU := Lib.hid hu
  have HFL := Lib.hid hfl
  obtain ⟨ii, hii, iz0, iz1, iz2⟩ := info_partsW info_intW
  obtain ⟨ua, uc, rfl, huc⟩ := hu.sh
  obtain ⟨L, hL⟩ : ∃ L, l.length = L := ⟨_, rfl⟩
  have HL := Lib.hid hL
  rw [hL] at HU HRQ ⊢
  clear hu hok hgood hfl huc hL
  go_enter Try.func18, Try.ntmps18
  go_wp2
  go_loopg [5, 6] N (fun g s5 s6 wr => ∃ i : Nat, i ≤ N ∧ N - i ≤ g ∧ s6 = .int .i64 i ∧ Aside (RowD wr w.heap.size s5 (marks (askM l N) i)) ∧ Aside (Ext w wr))
  case atStart => exact ⟨0, Nat.zero_le _, by omega, rfl, (show RowD _ _ _ _ from Row.mkNil _ _ _ _), Ext.rf _⟩
  case round =>
    obtain ⟨i, hi, hg, rfl, HR, HX⟩ := hrel
    obtain ⟨ra, rc, rfl, _⟩ := HR.out.any
    by_cases hlt : i < N
    case pos =>
      have hltz : (i : Int) < (N : Int) := by omega
      have HQ := Lib.hid (HRQ.out wr HX.out i)
      have HMS := Lib.hid (marks_step (askM l N) i)
      have HAQ : Hid ((askM l N)[i]! = decide (0 ≤ reqAt l (i : Int))) := Lib.hid (by rw [askM_at hlt]; exact (firstAt_any _ _).symm)
      have hml : (marks (askM l N) i).length ≤ i := marks_len _ _
      have HR2 := Lib.hid HR.out
      obtain ⟨n, hn9⟩ : ∃ n, (marks (askM l N) i).length = n := ⟨_, rfl⟩
      have HNL := Lib.hid hn9
      rw [hn9] at hml ⊢
      rw [RowD, hn9] at HR2
      generalize reqAt l (i : Int) = q at *
      clear hn9
      go_wp2_with fail
      refine HQ.out.mono ?_
      rintro e w9 ⟨rfl, hw9⟩
      subst hw9
      have HX9 := Lib.hid (show Ext w w9 from HX.out)
      have HR9 := Lib.hid (show Row w9 _ _ _ _ _ _ from HR2.out)
      by_cases hq : 0 ≤ q
      · rw [HAQ.out, if_pos (decide_eq_true hq)] at HMS
        go_wp2_with ((at_builtin; go_loud (refine wpList_append_one rfl _ _ 26 rfl w.heap.size 3 ii (.int .i64 0) 1 8 Try.underlying26 hii iz0 iz1 iz2 rfl (by decide) _ n ((marks (askM l N) i).map (Value.int .i64)) rfl (HR9.out.al _) w9.heap.size 1 [.int .i64 (i : Int)] rfl rfl ⟨_, heap_alloc_new _ _⟩ (by simp [Value.oneCell']) (by unfold maxLen; omega) (by omega) (Nat.le_trans HX9.out.sz ((Ext.rf w9).al _).sz) ?_; intro v8 w8 hown8 hgrow8 hblk8; obtain ⟨a8, c8, rfl, _⟩ := hown8.any; have HOWN := Lib.hid hown8; have HX8 := Lib.hid ((HX9.out.al (.cells #[.int .i64 (i : Int)] 3)).gr hgrow8 (fun q hq => (HR9.out.lt q hq).1)); clear hown8 hgrow8 hblk8)))
        go_roundg (N - (i + 1))
        case measure => omega
        case rel =>
          refine ⟨i + 1, by omega, by omega, by go_num, (show RowD _ _ _ _ from ?_), (show Ext _ _ from HX8.out)⟩
          rw [HMS.out, RowD, List.length_append, HNL.out, List.length_singleton, List.map_append]
          exact HOWN.out
      · rw [HAQ.out, if_neg (by rw [decide_eq_true_eq]; exact hq)] at HMS
        go_wp2
        go_roundg (N - (i + 1))
        case measure => omega
        case rel =>
          refine ⟨i + 1, by omega, by omega, by go_num, (show RowD _ _ _ _ from ?_), (show Ext _ _ from HX9.out)⟩
          rw [HMS.out, RowD, HNL.out]
          exact HR9.out
    case neg =>
      have hltz : ¬ (i : Int) < (N : Int) := by omega
      obtain rfl : N = i := by omega
      have hml : (marks (askM l N) N).length ≤ N := marks_len _ _
      obtain ⟨n0, hn0⟩ : ∃ n, (marks (askM l N) N).length = n := ⟨_, rfl⟩
      rw [hn0]
      have HR0 := Lib.hid (show RowD wr w.heap.size (.slice ra n0 rc) (marks (rndsM l N (askM l N) 0) N) from by have h := HR.out; rw [hn0] at h; exact h)
      clear hn0 hml
      go_wp2
      go_loopg [5, 7] (N + 1) (fun g s5 s7 wr => ∃ r : Nat, r ≤ N + 1 ∧ N + 1 - r ≤ g ∧ s7 = .int .i64 r ∧ Aside (RowD wr w.heap.size s5 (marks (rndsM l N (askM l N) r) N)) ∧ Aside (Ext w wr))
      case atStart => exact ⟨0, Nat.zero_le _, by omega, rfl, (show RowD _ _ _ _ from HR0.out), (show Ext _ _ from HX.out)⟩
      case round =>
        obtain ⟨r, hr, hg2, rfl, HRR, HXR⟩ := hrel
        obtain ⟨sa, sc, rfl, _⟩ := HRR.out.any
        by_cases hrN : r ≤ N
        case neg =>
          have hrz : ¬ (r : Int) ≤ (N : Int) := by omega
          obtain rfl : r = N + 1 := by omega
          generalize hnn : (marks (rndsM l N (askM l N) (N + 1)) N).length = nn at *
          go_wp2
          go_ret
          exact ⟨_, rfl, HRR.out, HXR.out⟩
        case pos =>
          have hrz : (r : Int) ≤ (N : Int) := by omega
          have HSUB := Lib.hid (rnds_ask (l := l) (N := N) r)
          have HNX : Hid (marks (rndsM l N (askM l N) (r + 1)) N = (marks (rndsM l N (askM l N) r) N).filter fun p => heldB l (rndsM l N (askM l N) r) p) := Lib.hid (marks_rnd l N _)
          generalize rndsM l N (askM l N) r = B at *
          have hlN : (marks B N).length ≤ N := marks_len _ _
          have HMM := Lib.hid (fun p => mem_marks B N p)
          have HSTM := Lib.hid (fun p i h => stays_marks (B := B) (p := p) (i := i) OK.out h)
          have HRI := Lib.hid (show Ints wr _ (marks B N) from HRR.out.ints)
          generalize marks B N = lst at *
          obtain ⟨n, hn5⟩ : ∃ n, lst.length = n := ⟨_, rfl⟩
          have HNL := Lib.hid hn5
          rw [hn5] at hlN HRI ⊢
          clear hn5
          obtain ⟨wo, rfl⟩ : ∃ x, x = wr := ⟨_, rfl⟩
          go_wp2
          go_loopg [8, 9] n (fun g s8 s9 wr => ∃ i : Nat, i ≤ n ∧ n - i ≤ g ∧ s9 = .int .i64 i ∧ Aside (RowD wr wo.heap.size s8 ((lst.take i).filter fun p => heldB l B p)) ∧ Aside (Ext wo wr))
          case atStart => exact ⟨0, Nat.zero_le _, by omega, rfl, (show RowD _ _ _ _ from Row.mkNil _ _ _ _), Ext.rf _⟩
          case round =>
            obtain ⟨i, hi, hg3, rfl, HQ, HXQ⟩ := hrel
            obtain ⟨qa, qc, rfl, _⟩ := HQ.out.any
            have HEW := Lib.hid (HXR.out.trans' HXQ.out)
            by_cases hlt : i < n
            case neg =>
              have hltz : ¬ (i : Int) < (n : Int) := by omega
              obtain rfl : n = i := by omega
              have HQN : Hid (RowD wr w.heap.size (.slice qa ((lst.take n).filter fun p => heldB l B p).length qc) (marks (rndsM l N (askM l N) (r + 1)) N)) := Lib.hid (by
                have h := HQ.out.mono HXR.out.sz
                have e : lst.take n = lst := by rw [← HNL.out, List.take_length]
                rw [HNX.out]
                rw [e] at h ⊢
                exact h)
              generalize ((lst.take n).filter fun p => heldB l B p).length = nq at *
              go_wp2
              go_roundg (N + 1 - (r + 1))
              case measure => exact Nat.lt_of_lt_of_le (Nat.sub_lt_sub_left (Nat.lt_succ_of_le hrN) (Nat.lt_succ_self r)) hg2
              case rel => exact ⟨r + 1, by omega, by omega, by go_num, (show RowD _ _ _ _ from HQN.out), (show Ext _ _ from HEW.out)⟩
            case pos =>
              have hltz : (i : Int) < (n : Int) := by omega
              have hiz : (0 : Int) ≤ (i : Int) := by omega
              obtain ⟨sb, so, rfl, _, hcell⟩ := ints_atW HRI.out i (by rw [HNL.out]; exact hlt)
              have c0 := HXQ.out.cl hcell
              have hmem := (HMM.out lst[i]!).1 (mem_at lst i (by rw [HNL.out]; exact hlt))
              have HSNOC : Hid ((lst.take (i + 1)).filter (fun p => heldB l B p) = (lst.take i).filter (fun p => heldB l B p) ++ if heldB l B lst[i]! = true then [lst[i]!] else []) := Lib.hid (by
                rw [List.take_succ_eq_append_getElem (by rw [HNL.out]; exact hlt), List.filter_append, ← getElem!_pos lst i (by rw [HNL.out]; exact hlt)]
                simp only [List.filter_cons, List.filter_nil])
              have hql : ((lst.take i).filter fun p => heldB l B p).length ≤ i := Nat.le_trans (List.length_filter_le _ _) (by rw [List.length_take]; omega)
              generalize lst[i]! = p at *
              obtain ⟨j, hj⟩ : ∃ j : Nat, firstAt (fun x : Wt => x.proc == p) l = (j : Int) := by
                have h1 := HSUB.out p.toNat (by omega) hmem.2.2
                rw [askM_at (by omega), show ((p.toNat : Nat) : Int) = p by omega] at h1
                have h2 := firstAt_any (fun x : Wt => x.proc == p) l
                rw [h1, decide_eq_true_eq] at h2
                exact ⟨(firstAt (fun x : Wt => x.proc == p) l).toNat, by omega⟩
              obtain ⟨hjL, hst⟩ := HSTM.out p j hj
              have HRJ := Lib.hid (HRQ.out wr HEW.out p)
              unfold reqAt at HRJ
              rw [hj] at HRJ
              obtain ⟨WB, WO, WC, vs, hve, hlC, hB, hl3, hR, hcells⟩ := Sl.cellsOf HU.out j hjL
              simp only [Value.slice.injEq] at hve
              obtain ⟨rfl, hzz, rfl⟩ := hve
              obtain ⟨fv, rfl, hints⟩ := hR
              have w0 := HEW.out.cl (hcells 0 (by omega))
              have w1 := HEW.out.cl (hcells 1 (by omega))
              have w2 := HEW.out.cl (hcells 2 (by omega))
              simp only [List.getElem!_cons_zero, List.getElem!_cons_succ, Nat.add_zero] at w0 w1 w2
              have HSC := Lib.hid (stays_calls l[j]! lst fv _ wr (hints.ext HEW.out) (HRI.out.ext HXQ.out) (HFL.out _ (mem_at l j hjL)) (by rw [HNL.out]; omega))
              rw [hst] at HSC
              obtain ⟨fa, fc, rfl, _, _⟩ := hints
              have hjz : (j : Int) < (L : Int) := by have := HL.out; omega
              have hjz0 : (0 : Int) ≤ (j : Int) := by omega
              generalize l[j]!.proc = pr at *
              generalize l[j]!.need = nd at *
              generalize l[j]!.fors.length = F at *
              obtain ⟨hb, hhb⟩ : ∃ b, heldB l B p = b := ⟨_, rfl⟩
              rw [hhb] at HSC HSNOC
              have HQ2 := Lib.hid HQ.out
              obtain ⟨nq, hnq⟩ : ∃ q, ((lst.take i).filter fun p => heldB l B p).length = q := ⟨_, rfl⟩
              have HNQ := Lib.hid hnq
              rw [hnq] at hql ⊢
              rw [RowD, hnq] at HQ2
              clear hcell hmem hj hst hcells hzz hhb hnq hjL
              go_wp2_with fail
              refine HRJ.out.mono ?_
              rintro e w9 ⟨rfl, hw9⟩
              subst hw9
              go_wp2_with fail
              refine HSC.out.mono ?_
              rintro e w8 ⟨rfl, hX8⟩
              have HX8 := Lib.hid (HXQ.out.trans' hX8)
              have HR8 := Lib.hid (HQ2.out.ext hX8)
              have c8 := hX8.cl c0
              clear hX8 c0 w0 w1 w2
              cases hb with
              | true =>
                go_wp2_with ((at_builtin; go_loud (refine wpList_append_one rfl _ _ 26 rfl wo.heap.size 3 ii (.int .i64 0) 1 8 Try.underlying26 hii iz0 iz1 iz2 rfl (by decide) _ nq (((lst.take i).filter fun p => heldB l B p).map (Value.int .i64)) rfl (HR8.out.al _) w8.heap.size 1 [.int .i64 p] rfl rfl ⟨_, heap_alloc_new _ _⟩ (by simp [Value.oneCell']) (by unfold maxLen; omega) (by omega) (Nat.le_trans HX8.out.sz ((Ext.rf w8).al _).sz) ?_; intro v7 w7 hown7 hgrow7 hblk7; obtain ⟨a7, c7, rfl, _⟩ := hown7.any; have HOWN := Lib.hid hown7; have HX7 := Lib.hid ((HX8.out.al (.cells #[.int .i64 p] 3)).gr hgrow7 (fun q hq => (HR8.out.lt q hq).1)); clear hown7 hgrow7 hblk7)))
                go_roundg (n - (i + 1))
                case measure => exact Nat.lt_of_lt_of_le (Nat.sub_lt_sub_left hlt (Nat.lt_succ_self i)) hg3
                case rel =>
                  refine ⟨i + 1, by omega, by omega, by go_num, (show RowD _ _ _ _ from ?_), (show Ext _ _ from HX7.out)⟩
                  rw [HSNOC.out]; simp only [if_true]; rw [RowD, List.length_append, HNQ.out, List.length_singleton, List.map_append]
                  exact HOWN.out
              | false =>
                go_wp2
                go_roundg (n - (i + 1))
                case measure => exact Nat.lt_of_lt_of_le (Nat.sub_lt_sub_left hlt (Nat.lt_succ_self i)) hg3
                case rel =>
                  refine ⟨i + 1, by omega, by omega, by go_num, (show RowD _ _ _ _ from ?_), (show Ext _ _ from HX8.out)⟩
                  rw [HSNOC.out]; simp only [if_false, Bool.false_eq_true, List.append_nil]; rw [RowD, HNQ.out]
                  exact HR8.out

end Go.Proofs.Ytodkcfebcjgahaa

/-
  The reference's Stuck.
-/
namespace Go.Proofs.Ytodkcfebcjgahaa
open Go.RowKit
set_option linter.unusedVariables false

theorem find_hit {l : List Wt} {p : Int} {i : Nat} (h : firstAt (fun x : Wt => x.proc == p) l = (i : Int)) : i < l.length ∧ l.find? (fun x : Wt => x.proc == p) = some l[i]! := by
  unfold firstAt at h
  cases hf : l.findIdx? (fun x : Wt => x.proc == p) with
  | none => rw [hf] at h; simp only at h; omega
  | some j =>
    rw [hf] at h
    simp only at h
    obtain rfl : j = i := by omega
    obtain ⟨hj, hp, hn⟩ := List.findIdx?_eq_some_iff_getElem.1 hf
    refine ⟨hj, ?_⟩
    rw [getElem!_pos l j hj, List.find?_eq_some_iff_getElem]
    exact ⟨hp, j, hj, rfl, fun k hk => by simpa using hn k hk⟩
theorem find_miss {l : List Wt} {p : Int} (h : firstAt (fun x : Wt => x.proc == p) l < 0) : l.find? (fun x : Wt => x.proc == p) = none := by
  unfold firstAt at h
  cases hf : l.findIdx? (fun x : Wt => x.proc == p) with
  | some j => rw [hf] at h; simp only at h; omega
  | none => rw [List.find?_eq_none]; intro x hx; have := List.findIdx?_eq_none_iff.1 hf x hx; simp [this]
theorem stuckR_no {l : List Wt} {s : List Int} {i : Nat} (hi : i < s.length) (h : stuckAt l s i = false) : stuckR l s = false := by
  unfold stuckR
  rw [List.all_eq_false]
  exact ⟨i, List.mem_range.2 hi, by rw [h]; simp⟩
theorem stuckR_yes {l : List Wt} {s : List Int} (h : ∀ i, i < s.length → stuckAt l s i = true) : stuckR l s = true := by
  unfold stuckR
  rw [List.all_eq_true]
  exact fun i hi => h i (List.mem_range.1 hi)
theorem stuckAt_up {l : List Wt} {s : List Int} {i : Nat} (h : 0 < i) (h2 : s[i]! ≤ s[i - 1]!) : stuckAt l s i = false := by
  unfold stuckAt; rw [decide_eq_true h, decide_eq_true h2]; rfl
theorem stuckAt_miss {l : List Wt} {s : List Int} {i : Nat} (h : firstAt (fun x : Wt => x.proc == s[i]!) l < 0) : stuckAt l s i = false := by
  unfold stuckAt; rw [find_miss h]; simp
theorem stuckAt_hit {l : List Wt} {s : List Int} {i j : Nat} (h0 : 0 < i → ¬ s[i]! ≤ s[i - 1]!) (h : firstAt (fun x : Wt => x.proc == s[i]!) l = (j : Int)) : stuckAt l s i = staysB l[j]! s := by
  unfold stuckAt
  rw [(find_hit h).2]
  have : (decide (0 < i) && decide (s[i]! ≤ s[i - 1]!)) = false := by
    by_cases e : 0 < i
    · rw [decide_eq_false (h0 e), Bool.and_false]
    · rw [decide_eq_false e, Bool.false_and]
  rw [this]; rfl

theorem enters_19 : ∀ args w, (callFunc 19 args).run Try.prog w = .ok (.enter 19 args) w := enters_of Try.func19 (by kernel_rfl) rfl
set_option maxHeartbeats 8000000 in
set_option maxRecDepth 100000 in
theorem stuckR_calls (u v : Value) (l : List Wt) (s : List Int) (w : World) (hu : Sl RWait 3 w u l) (hs : Ints w v s) (hn : l.length ≤ 1000000) (hfl : ∀ x, x ∈ l → x.fors.length ≤ 1000000) (hsl : s.length ≤ 1000000) :
    Calls Try.prog 19 #[u, v] w fun e w' => e = .returned (.bool (stuckR l s)) ∧ Ext w w' := by
  have HRQ := Lib.hid (fun (W : World) (hW : Ext w W) (p : Int) => request_calls p u l W (hu.ext rwait_lasts hW) hn)
  have HU := Lib.hid hu
  have HFL := Lib.hid hfl
  have HSI := Lib.hid hs
  have HNO := Lib.hid (fun i hi h => stuckR_no (l := l) (s := s) (i := i) hi h)
  have HYES := Lib.hid (fun h => stuckR_yes (l := l) (s := s) h)
  obtain ⟨ua, uc, rfl, huc⟩ := hu.sh
  obtain ⟨L, hL⟩ : ∃ L, l.length = L := ⟨_, rfl⟩
  have HL := Lib.hid hL
  obtain ⟨sa, sc, rfl, _, _⟩ := hs
  obtain ⟨S, hS⟩ : ∃ S, s.length = S := ⟨_, rfl⟩
  have HS := Lib.hid hS
  rw [hL] at HU HRQ ⊢
  rw [hS] at HSI hsl HNO HYES ⊢
  generalize stuckR l s = ans at *
  clear hu hfl huc hL hS
  go_enter Try.func19, Try.ntmps19
  go_wp2
  go_loopg [5, 6] S (fun g s5 _ wr => ∃ i : Nat, i ≤ S ∧ S - i ≤ g ∧ s5 = .int .i64 i ∧ Aside (∀ j, j < i → stuckAt l s j = true) ∧ Aside (Ext w wr))
  case atStart => exact ⟨0, Nat.zero_le _, by omega, rfl, (show Aside _ from fun j hj => absurd hj (Nat.not_lt_zero _)), Ext.rf _⟩
  case round =>
    obtain ⟨i, hi, hg, rfl, HA, HX⟩ := hrel
    by_cases hlt : i < S
    case neg =>
      have hltz : ¬ (i : Int) < (S : Int) := by omega
      obtain rfl : S = i := by omega
      have HQ := Lib.hid (HYES.out HA.out)
      go_wp2
      go_ret
      exact ⟨by rw [HQ.out]; rfl, HX.out⟩
    case pos =>
      have hltz : (i : Int) < (S : Int) := by omega
      have hiz : (0 : Int) ≤ (i : Int) := by omega
      obtain ⟨sb, so, rfl, _, hcell⟩ := ints_atW HSI.out i (by rw [HS.out]; exact hlt)
      have c0 := HX.out.cl hcell
      have HN := Lib.hid (HNO.out i hlt)
      have HUP := Lib.hid (fun h1 h2 => stuckAt_up (l := l) (s := s) (i := i) h1 h2)
      have HMI := Lib.hid (fun h => stuckAt_miss (l := l) (s := s) (i := i) h)
      have HHI := Lib.hid (fun j h1 h2 => stuckAt_hit (l := l) (s := s) (i := i) (j := j) h1 h2)
      have HSUC := Lib.hid (fun (h : stuckAt l s i = true) => (show ∀ j, j < i + 1 → stuckAt l s j = true from fun j hj => by
        by_cases e : j = i
        · subst e; exact h
        · exact HA.out j (by omega)))
      have D1 := Lib.hid (fun (h : 0 < i) => (show wr.cell? ⟨sb, so + (i - 1), none⟩ = some (.int .i64 s[i - 1]!) from by
        obtain ⟨b2, o2, e2, _, h2⟩ := ints_atW HSI.out (i - 1) (by rw [HS.out]; omega)
        simp only [Option.some.injEq, Addr.mk.injEq] at e2
        obtain ⟨rfl, rfl, _⟩ := e2
        exact HX.out.cl h2))
      have HRP := Lib.hid (fun W hW => HRQ.out W hW s[i]!)
      have HSC := Lib.hid (fun (W : World) (hW : Ext w W) (j : Nat) (hj : j < L) (fv : Value) (hf : Ints W fv l[j]!.fors) => stays_calls l[j]! s fv (.slice (some ⟨sb, so, none⟩) S sc) W hf (HSI.out.ext hW) (HFL.out _ (mem_at l j (by rw [HL.out]; exact hj))) (by rw [HS.out]; exact hsl))
      generalize hp : s[i]! = p at *
      clear hcell hp
      by_cases h0 : 0 < i ∧ p ≤ s[i - 1]!
      · have HQ := Lib.hid (HN.out (HUP.out h0.1 h0.2))
        obtain ⟨h01, h02⟩ := h0
        have h0z : (0 : Int) < (i : Int) := by omega
        have d1 := D1.out h01
        obtain ⟨k, rfl⟩ : ∃ k, i = k + 1 := ⟨i - 1, by omega⟩
        rw [show k + 1 - 1 = k by omega] at d1 h02
        clear D1 HUP HMI HHI HSUC
        generalize s[k]! = z at *
        go_wp2
        go_region
        go_wp2
        go_ret
        exact ⟨by rw [HQ.out]; rfl, HX.out.dr⟩
      · have HNU : Hid (0 < i → ¬ p ≤ s[i - 1]!) := Lib.hid (fun a b => h0 ⟨a, b⟩)
        have HHJ := Lib.hid (fun j h => HHI.out j HNU.out h)
        unfold reqAt at HRP
        go_upto_region 6 with (fail)
        go_cut [26] (fun s26 wx => s26 = .bool false ∧ (wx = wr ∨ wx = wr.drew))
        case first =>
          by_cases h01 : 0 < i
          · have h0z : (0 : Int) < (i : Int) := by omega
            have d1 := D1.out h01
            have h02 := HNU.out h01
            obtain ⟨k, rfl⟩ : ∃ k, i = k + 1 := ⟨i - 1, by omega⟩
            rw [show k + 1 - 1 = k by omega] at d1 h02
            clear D1 HUP HMI HHI HSUC HNU HHJ
            generalize s[k]! = z at *
            go_wp2
            go_region
            go_wp2
            go_meet
            exact ⟨by rw [decide_eq_false (show ¬ p ≤ z by omega)], .inr rfl⟩
          · obtain rfl : i = 0 := by omega
            clear D1 HUP HMI HHI HSUC HNU HHJ
            go_wp2
            go_region
            go_wp2
            go_meet
            exact ⟨rfl, .inr rfl⟩
        case rest =>
          obtain ⟨rfl, hcut⟩ := hcut
          have HXC := Lib.hid (show Ext wr wc from hcut.elim (fun e => e ▸ Ext.rf _) (fun e => e ▸ (Ext.rf _).dr))
          have HXW := Lib.hid (HX.out.trans' HXC.out)
          have cc := HXC.out.cl c0
          have HRJ := Lib.hid (HRP.out wc HXW.out)
          clear hcut HNU HUP HRP D1 c0 h0
          by_cases hf : firstAt (fun x : Wt => x.proc == p) l < 0
          · have HQ := Lib.hid (HN.out (HMI.out hf))
            generalize firstAt (fun x : Wt => x.proc == p) l = q at *
            go_wp2_with fail
            refine HRJ.out.mono ?_
            rintro e w9 ⟨rfl, hw9⟩
            subst hw9
            have HXW9 := Lib.hid (show Ext w w9 from HXW.out)
            go_wp2
            go_ret
            exact ⟨by rw [HQ.out]; rfl, HXW9.out⟩
          · obtain ⟨j, hj⟩ : ∃ j : Nat, firstAt (fun x : Wt => x.proc == p) l = (j : Int) := ⟨(firstAt (fun x : Wt => x.proc == p) l).toNat, by omega⟩
            have hst := HHJ.out j hj
            rw [hj] at HRJ
            have hjL : j < L := by rw [← HL.out]; exact (find_hit hj).1
            obtain ⟨WB, WO, WC, vs, hve, hlC, hB, hl3, hR, hcells⟩ := Sl.cellsOf HU.out j (by rw [HL.out]; exact hjL)
            simp only [Value.slice.injEq] at hve
            obtain ⟨rfl, hzz, rfl⟩ := hve
            obtain ⟨fv, rfl, hints⟩ := hR
            have w0 := HXW.out.cl (hcells 0 (by omega))
            have w1 := HXW.out.cl (hcells 1 (by omega))
            have w2 := HXW.out.cl (hcells 2 (by omega))
            simp only [List.getElem!_cons_zero, List.getElem!_cons_succ, Nat.add_zero] at w0 w1 w2
            have HS2 := Lib.hid (HSC.out wc HXW.out j hjL fv (hints.ext HXW.out))
            rw [← hst] at HS2
            obtain ⟨fa, fc, rfl, _, _⟩ := hints
            have hjz : (j : Int) < (L : Int) := by omega
            have hjz0 : (0 : Int) ≤ (j : Int) := by omega
            have hjz1 : ¬ (j : Int) < 0 := by omega
            generalize l[j]!.proc = pr at *
            generalize l[j]!.need = nd at *
            generalize l[j]!.fors.length = F at *
            generalize stuckAt l s i = b at *
            clear hst hj hcells hzz hf HHJ HMI HHI HSC
            go_wp2_with fail
            refine HRJ.out.mono ?_
            rintro e w9 ⟨rfl, hw9⟩
            subst hw9
            have HXW9 := Lib.hid (show Ext w w9 from HXW.out)
            go_wp2_with fail
            refine HS2.out.mono ?_
            rintro e w8 ⟨rfl, hX8⟩
            have HX8 := Lib.hid (HXW9.out.trans' hX8)
            clear hX8 w0 w1 w2 cc
            cases b with
            | false =>
              have HQ := Lib.hid (HN.out rfl)
              go_wp2
              go_ret
              exact ⟨by rw [HQ.out]; rfl, HX8.out⟩
            | true =>
              have HA2 := Lib.hid (HSUC.out rfl)
              go_wp2
              go_roundg (S - (i + 1))
              case measure => exact Nat.lt_of_lt_of_le (Nat.sub_lt_sub_left hlt (Nat.lt_succ_self i)) hg
              case rel => exact ⟨i + 1, by omega, by omega, by go_num, (show Aside _ from HA2.out), (show Ext _ _ from HX8.out)⟩

end Go.Proofs.Ytodkcfebcjgahaa
