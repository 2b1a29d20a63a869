/-
  Which candidate is beaten: both texts.
-/
import Derived.Test.YtdcahdcnoeomhaaBase
import Derived.Test.YtdcahdcnoeomhaaProg
import Derived.BigQuiet
import Derived.Deep.QuietTactic
import Derived.Deep.LoopGhost
import Derived.Shelf.Abstract
import Derived.Test.YtdcahdcnoeomhaaCkA
namespace Go.Proofs.Ytdcahdcnoeomhaa
open Go.RowKit
set_option linter.unusedVariables false

def RInts (w : World) (cs : List Value) (x : List Int) : Prop := ∃ u, cs = [u] ∧ Ints w u x
theorem rints_lasts : Lasts RInts := fun _ _ _ _ ⟨u, h, hb⟩ e => ⟨u, h, hb.ext e⟩
def RQueue (w : World) (cs : List Value) (x : List (List Int)) : Prop := ∃ u, cs = [u] ∧ Sl RInts 1 w u x
theorem rqueue_lasts : Lasts RQueue := fun _ _ _ _ ⟨u, h, hb⟩ e => ⟨u, h, hb.ext rints_lasts e⟩
def RBool (w : World) (cs : List Value) (x : Bool) : Prop := cs = [.bool x]
theorem rbool_lasts : Lasts RBool := fun _ _ _ _ h _ => h

theorem Sl.at1 {α : Type} [Inhabited α] {R : World → List Value → α → Prop} {w : World} {v : Value} {l : List α} (h : Sl R 1 w v l) (k : Nat) (hk : k < l.length) :
    ∃ b off c cv, v = .slice (some ⟨b, off, none⟩) l.length c ∧ l.length ≤ c ∧ b < w.heap.size ∧ w.cell? ⟨b, off + k, none⟩ = some cv ∧ R w [cv] l[k]! := by
  obtain ⟨a, c, rfl, hlc, h⟩ := h
  obtain ⟨b, off, rfl, hb, hc⟩ := h (by intro e; simp [e] at hk)
  obtain ⟨vs, h1, h2, h3⟩ := hc k hk
  match vs, h1 with
  | [cv], _ => exact ⟨b, off, c, cv, rfl, hlc, hb, by have := h3 0 (by omega); simpa using this, h2⟩
theorem Ints.at1 {w : World} {v : Value} {l : List Int} (h : Ints w v l) (k : Nat) (hk : k < l.length) :
    ∃ b off c, v = .slice (some ⟨b, off, none⟩) l.length c ∧ l.length ≤ c ∧ b < w.heap.size ∧ w.cell? ⟨b, off + k, none⟩ = some (.int .i64 l[k]!) := by
  obtain ⟨a, c, rfl, hlc, h⟩ := h
  obtain ⟨b, off, rfl, hb, hc⟩ := h (by intro e; simp [e] at hk)
  exact ⟨b, off, c, rfl, hlc, hb, hc k hk⟩
theorem Sl.shape {α : Type} [Inhabited α] {R : World → List Value → α → Prop} {k : Nat} {w : World} {v : Value} {l : List α} (h : Sl R k w v l) : ∃ a c, v = .slice a l.length c ∧ l.length ≤ c := by
  obtain ⟨a, c, h1, h2, _⟩ := h; exact ⟨a, c, h1, h2⟩

/-- The stamps have a number for each queue. -/
def FitQ (qs : List (List (List Int))) : Prop := qs.length ≤ 8 ∧ ∀ p, p < qs.length → qs[p]!.length ≤ 1000 ∧ ∀ i, i < qs[p]!.length → qs[p]![i]!.length = qs.length
theorem form_fit {s : Ck} (h : formB s = true) : FitQ s.qs := by
  obtain ⟨h1, h2, h3, h4⟩ := form_parts.1 h
  refine ⟨h2, fun p hp => ?_⟩
  obtain ⟨g1, g2⟩ := queue_parts.1 (h4 p hp)
  refine ⟨by omega, fun i hi => ?_⟩
  have := (g2 i hi).1
  simp only [stampB, Bool.and_eq_true, decide_eq_true_eq] at this
  exact this.1

/-- The cells that are looked at, for two queues. -/
theorem heads_at {w : World} {uq : Value} {qs : List (List (List Int))} (h : Sl RQueue 1 w uq qs) (hf : FitQ qs) (p : Nat) (hp : p < qs.length) :
    ∃ B O C a m c, uq = .slice (some ⟨B, O, none⟩) qs.length C ∧ w.cell? ⟨B, O + p, none⟩ = some (.slice a m c) ∧ m = qs[p]!.length ∧ m ≤ c ∧ Sl RInts 1 w (.slice a m c) qs[p]! ∧
      (0 < m → ∃ b o e f g, a = some ⟨b, o, none⟩ ∧ w.cell? ⟨b, o, none⟩ = some (.slice (some ⟨e, f, none⟩) qs.length g) ∧ ∀ k, k < qs.length → w.cell? ⟨e, f + k, none⟩ = some (.int .i64 qs[p]![0]![k]!)) := by
  obtain ⟨B, O, C, cv, rfl, _, hB, hc, ⟨u, hu, hs⟩⟩ := h.at1 p hp
  simp only [List.cons.injEq, and_true] at hu
  subst hu
  obtain ⟨a, c, rfl, hlc⟩ := hs.shape
  refine ⟨B, O, C, a, _, c, rfl, hc, rfl, hlc, hs, fun hm => ?_⟩
  obtain ⟨b, o, c2, cv, he, _, hb, hc2, ⟨u2, hu2, hi⟩⟩ := hs.at1 0 hm
  simp only [List.cons.injEq, and_true] at hu2
  subst hu2
  simp only [Value.slice.injEq, true_and] at he
  obtain ⟨rfl, rfl⟩ := he
  obtain ⟨e, f, g, rfl, _, he2, hc3⟩ := hi.at1 p (by rw [(hf.2 p hp).2 0 hm]; exact hp)
  rw [(hf.2 p hp).2 0 hm] at hc2
  refine ⟨b, o, e, f, g, rfl, by simpa using hc2, fun k hk => ?_⟩
  obtain ⟨e', f', g', heq, _, _, hc4⟩ := hi.at1 k (by rw [(hf.2 p hp).2 0 hm]; exact hk)
  simp only [Value.slice.injEq, Option.some.injEq, Addr.mk.injEq, and_true, true_and] at heq
  obtain ⟨⟨rfl, rfl⟩, rfl⟩ := heq
  exact hc4

theorem heads_in {w : World} {B O N C : Nat} {qs : List (List (List Int))} (h : Sl RQueue 1 w (.slice (some ⟨B, O, none⟩) N C) qs) (hf : FitQ qs) (p : Nat) (hp : p < qs.length) :
    ∃ a m c, w.cell? ⟨B, O + p, none⟩ = some (.slice a m c) ∧ m = qs[p]!.length ∧ m ≤ c ∧ Sl RInts 1 w (.slice a m c) qs[p]! ∧
      (0 < m → ∃ b o e f g, a = some ⟨b, o, none⟩ ∧ w.cell? ⟨b, o, none⟩ = some (.slice (some ⟨e, f, none⟩) qs.length g) ∧ ∀ k, k < qs.length → w.cell? ⟨e, f + k, none⟩ = some (.int .i64 qs[p]![0]![k]!)) := by
  obtain ⟨B', O', C', a, m, c, he, h1⟩ := heads_at h hf p hp
  simp only [Value.slice.injEq, Option.some.injEq, Addr.mk.injEq, and_true] at he
  obtain ⟨⟨rfl, rfl⟩, _, rfl⟩ := he
  exact ⟨a, m, c, h1⟩


/-- What a pair of queues comes to. -/
theorem beats_same (qs : List (List (List Int))) (p : Nat) : beatsB qs p p = false := by simp [beatsB]
theorem beats_p (qs : List (List (List Int))) (p o : Nat) (h : qs[p]!.length = 0) : beatsB qs p o = false := by
  unfold beatsB; rw [h]; simp
theorem beats_o (qs : List (List (List Int))) (p o : Nat) (h : qs[o]!.length = 0) : beatsB qs p o = false := by
  unfold beatsB; rw [h]; simp
theorem beats_all (qs : List (List (List Int))) (p o : Nat) (h : o ≠ p) (h1 : 0 < qs[p]!.length) (h2 : 0 < qs[o]!.length) : beatsB qs p o = decide (qs[p]![0]![p]! < qs[o]![0]![p]!) := by
  unfold beatsB
  rw [decide_eq_true h, decide_eq_true h1, decide_eq_true h2]
  simp



set_option maxHeartbeats 8000000 in
set_option maxRecDepth 100000 in
theorem beatenP_calls (uq ue uc : Value) (d : Bool) (qs : List (List (List Int))) (w : World) (hq : Sl RQueue 1 w uq qs) (hf : FitQ qs) :
    Calls Try.prog 39 #[.agg #[uq, ue, .bool d, uc]] w fun e w' => e = .returned (.int .i64 (beatenL qs)) ∧ Ext w w' := by
  have HQ := Lib.hid hq
  have HF := Lib.hid hf
  have hn8 := hf.1
  obtain ⟨a, c, rfl, hlc⟩ := hq.shape
  generalize hr : beatenL qs = r
  have HBL := Lib.hid hr.symm
  generalize hn : qs.length = n at *
  have HN := Lib.hid hn
  clear hq hf hr hn
  have HX0 := Lib.hid (cell_new w #[.slice a n c, ue, .bool d, uc] 26 0 _ rfl)
  go_enter Try.func39, Try.ntmps39
  go_wp2
  go_loopg [10] n (fun g s10 wr => ∃ p : Nat, p ≤ n ∧ n - p ≤ g ∧ s10 = .int .i64 p ∧ Aside (Drawn (w.alloc (.cells #[.slice a n c, ue, .bool d, uc] 26)) wr) ∧ Aside (∀ j, j < p → beatenAt qs j = false))
  case atStart => exact ⟨0, Nat.zero_le _, by omega, rfl, Drawn.rf _, fun j hj => absurd hj (Nat.not_lt_zero _)⟩
  case round =>
    obtain ⟨p, hp, hg, rfl, HD, A⟩ := hrel
    have cb := (HD.out.cell _).trans HX0.out
    by_cases hlt : p < n
    · have hltz : (p : Int) < (n : Int) := by omega
      have hp0 : (0 : Int) ≤ (p : Int) := by omega
      obtain ⟨B, O, C, a1, m1, c1, hue0, hcp0, M1, hmc1, HS1, HD1⟩ := heads_at HQ.out HF.out p (by rw [HN.out]; exact hlt)
      simp only [Value.slice.injEq] at hue0
      obtain ⟨rfl, hnn, rfl⟩ := hue0
      have HM1 := Lib.hid M1
      have HHD1 := Lib.hid HD1
      have HCP0 := Lib.hid hcp0
      clear M1 HD1 HS1 hnn
      have HEW0 := Lib.hid (((Ext.rf w).al _).trans' HD.out.ext)
      have hcpw := HEW0.out.cl hcp0
      clear hcp0
      go_wp2
      clear cb hcpw
      obtain ⟨wo, rfl⟩ : ∃ x, x = wr := ⟨_, rfl⟩
      go_loopg [18] n (fun g2 s18 wr => ∃ o : Nat, o ≤ n ∧ n - o ≤ g2 ∧ s18 = .int .i64 o ∧ Aside (Drawn wo wr) ∧ Aside (∀ j, j < o → beatsB qs p j = false))
      case atStart => exact ⟨0, Nat.zero_le _, by omega, rfl, Drawn.rf _, fun j hj => absurd hj (Nat.not_lt_zero _)⟩
      case round =>
        obtain ⟨o, ho, hg2, rfl, HDI, AI⟩ := hrel
        by_cases hlt2 : o < n
        · have hltz2 : (o : Int) < (n : Int) := by omega
          have HEW := Lib.hid (HEW0.out.trans' HDI.out.ext)
          obtain ⟨hpq, hoq⟩ : p < qs.length ∧ o < qs.length := by rw [HN.out]; exact ⟨hlt, hlt2⟩
          obtain ⟨a2, m2, c2, hco0, M2, hmc2, HS2, HD2⟩ := heads_in HQ.out HF.out o hoq
          have hcp := HEW.out.cl HCP0.out
          have hco := HEW.out.cl hco0
          clear hco0 HS2
          have hpz0 : (0 : Int) ≤ (p : Int) := by omega
          have hpz1 : (p : Int) < (n : Int) := by omega
          have hoz0 : (0 : Int) ≤ (o : Int) := by omega
          have hoz1 : (o : Int) < (n : Int) := by omega
          have HM2 := Lib.hid M2
          have HHD2 := Lib.hid HD2
          clear M2 HD2
          by_cases hop : o = p
          · have b1 : ((o : Int) != (p : Int)) = false := by simp; omega
            have HBE := Lib.hid (show beatsB qs p o = false from by rw [hop]; exact beats_same qs p)
            clear hop
            go_wp2
            go_quiet (fail)
            go_wp2
            go_roundg (n - (o + 1))
            case measure => omega
            case rel =>
              refine ⟨o + 1, by omega, by omega, by go_num, (show Drawn _ _ from HDI.out.drN _), (show Aside _ from fun j hj => ?_)⟩
              by_cases e : j = o
              · subst e; exact HBE.out
              · exact AI.out j (by omega)
          · have b1 : ((o : Int) != (p : Int)) = true := by simp; omega
            rcases Nat.eq_zero_or_pos m1 with h1 | h1
            · have b2 : decide (0 < (m1 : Int)) = false := by simp; omega
              have b2' : decide (0 < m1) = false := by simp; omega
              have HBE := Lib.hid (show beatsB qs p o = false from beats_p qs p o (by rw [← HM1.out]; exact h1))
              clear h1 hop
              go_wp2
              go_quiet (fail)
              go_wp2
              go_roundg (n - (o + 1))
              case measure => omega
              case rel =>
                refine ⟨o + 1, by omega, by omega, by go_num, (show Drawn _ _ from HDI.out.drN _), (show Aside _ from fun j hj => ?_)⟩
                by_cases e : j = o
                · subst e; exact HBE.out
                · exact AI.out j (by omega)
            · have b2 : decide (0 < (m1 : Int)) = true := by simp; omega
              have b2' : decide (0 < m1) = true := by simp; omega
              rcases Nat.eq_zero_or_pos m2 with h2 | h2
              · have b3 : decide (0 < (m2 : Int)) = false := by simp; omega
                have b3' : decide (0 < m2) = false := by simp; omega
                have HBE := Lib.hid (show beatsB qs p o = false from beats_o qs p o (by rw [← HM2.out]; exact h2))
                clear h2 h1 hop
                go_wp2
                go_quiet (fail)
                go_wp2
                go_roundg (n - (o + 1))
                case measure => omega
                case rel =>
                  refine ⟨o + 1, by omega, by omega, by go_num, (show Drawn _ _ from HDI.out.drN _), (show Aside _ from fun j hj => ?_)⟩
                  by_cases e : j = o
                  · subst e; exact HBE.out
                  · exact AI.out j (by omega)
              · have b3 : decide (0 < (m2 : Int)) = true := by simp; omega
                have b3' : decide (0 < m2) = true := by simp; omega
                obtain ⟨x1, y1, e1, f1, g1, rfl, hd1, hk1⟩ := HHD1.out h1
                obtain ⟨x2, y2, e2, f2, g2, rfl, hd2, hk2⟩ := HHD2.out h2
                have hz1 : (0 : Int) < (m1 : Int) := by omega
                have hz2 : (0 : Int) < (m2 : Int) := by omega
                rw [HN.out] at hd1 hd2
                have k1 := HEW.out.cl hd1
                have k2 := HEW.out.cl hd2
                have k3 := HEW.out.cl (hk1 p hpq)
                have k4 := HEW.out.cl (hk2 p hpq)
                have hbe := beats_all qs p o hop (by rw [← HM1.out]; exact h1) (by rw [← HM2.out]; exact h2)
                clear hd1 hd2 hk1 hk2
                generalize qs[p]![0]![p]! = x at *
                generalize qs[o]![0]![p]! = y at *
                by_cases hxy : x < y
                · have b4 : decide (x < y) = true := by simpa using hxy
                  have HBE := Lib.hid (show beatsB qs p o = true from by rw [hbe]; exact b4)
                  clear hbe hxy hop
                  go_wp2
                  go_quiet (fail)
                  go_wp2
                  go_ret
                  refine ⟨?_, HEW.out.drN _⟩
                  rw [HBL.out, beaten_hit qs p hpq ((range_any _ _).2 ⟨o, hoq, HBE.out⟩) A.out]
                  rfl
                · have b4 : decide (x < y) = false := by simpa using hxy
                  have HBE := Lib.hid (show beatsB qs p o = false from by rw [hbe]; exact b4)
                  clear hbe hxy hop
                  go_wp2
                  go_quiet (fail)
                  go_wp2
                  go_roundg (n - (o + 1))
                  case measure => omega
                  case rel =>
                    refine ⟨o + 1, by omega, by omega, by go_num, (show Drawn _ _ from HDI.out.drN _), (show Aside _ from fun j hj => ?_)⟩
                    by_cases e : j = o
                    · subst e; exact HBE.out
                    · exact AI.out j (by omega)
        · have hltz2 : ¬ (o : Int) < (n : Int) := by omega
          go_wp2
          go_roundg (n - (p + 1))
          case measure => omega
          case rel =>
            refine ⟨p + 1, by omega, by omega, by go_num, (show Drawn _ _ from HD.out.trans HDI.out), (show Aside _ from fun j hj => ?_)⟩
            by_cases e : j = p
            · subst e; exact (range_any_false _ _).2 (fun i hi => AI.out i (by rw [HN.out] at hi; omega))
            · exact A.out j (by omega)
    · have hltz : ¬ (p : Int) < (n : Int) := by omega
      go_wp2
      go_ret
      refine ⟨?_, ((Ext.rf w).al _).trans' HD.out.ext⟩
      rw [HBL.out, beaten_miss qs (fun j hj => A.out j (by rw [HN.out] at hj; omega))]
      rfl

set_option maxHeartbeats 8000000 in
set_option maxRecDepth 100000 in
theorem beatenR_calls (uq : Value) (qs : List (List (List Int))) (w : World) (hq : Sl RQueue 1 w uq qs) (hf : FitQ qs) :
    Calls Try.prog 28 #[uq] w fun e w' => e = .returned (.int .i64 (beatenL qs)) ∧ Drawn w w' := by
  have HQ := Lib.hid hq
  have HF := Lib.hid hf
  have hn8 := hf.1
  obtain ⟨a, c, rfl, hlc⟩ := hq.shape
  generalize hr : beatenL qs = r
  have HBL := Lib.hid hr.symm
  generalize hn : qs.length = n at *
  have HN := Lib.hid hn
  clear hq hf hr hn
  go_enter Try.func28, Try.ntmps28
  go_wp2
  go_loopg [3, 4] n (fun g s3 _ wr => ∃ p : Nat, p ≤ n ∧ n - p ≤ g ∧ s3 = .int .i64 p ∧ Aside (Drawn w wr) ∧ Aside (∀ j, j < p → beatenAt qs j = false))
  case atStart => exact ⟨0, Nat.zero_le _, by omega, rfl, Drawn.rf _, fun j hj => absurd hj (Nat.not_lt_zero _)⟩
  case round =>
    obtain ⟨p, hp, hg, rfl, HD, A⟩ := hrel
    by_cases hlt : p < n
    · have hltz : (p : Int) < (n : Int) := by omega
      have hp0 : (0 : Int) ≤ (p : Int) := by omega
      obtain ⟨B, O, C, a1, m1, c1, hue0, hcp0, M1, hmc1, HS1, HD1⟩ := heads_at HQ.out HF.out p (by rw [HN.out]; exact hlt)
      simp only [Value.slice.injEq] at hue0
      obtain ⟨rfl, hnn, rfl⟩ := hue0
      have HM1 := Lib.hid M1
      have HHD1 := Lib.hid HD1
      have HCP0 := Lib.hid hcp0
      clear M1 HD1 HS1 hnn
      have HEW0 := Lib.hid HD.out.ext
      clear hcp0
      go_wp2
      obtain ⟨wo, rfl⟩ : ∃ x, x = wr := ⟨_, rfl⟩
      go_loopg [4] n (fun g2 s4 wr => ∃ o : Nat, o ≤ n ∧ n - o ≤ g2 ∧ s4 = .int .i64 o ∧ Aside (Drawn wo wr) ∧ Aside (∀ j, j < o → beatsB qs p j = false))
      case atStart => exact ⟨0, Nat.zero_le _, by omega, rfl, Drawn.rf _, fun j hj => absurd hj (Nat.not_lt_zero _)⟩
      case round =>
        obtain ⟨o, ho, hg2, rfl, HDI, AI⟩ := hrel
        by_cases hlt2 : o < n
        · have hltz2 : (o : Int) < (n : Int) := by omega
          have HEW := Lib.hid (HEW0.out.trans' HDI.out.ext)
          obtain ⟨hpq, hoq⟩ : p < qs.length ∧ o < qs.length := by rw [HN.out]; exact ⟨hlt, hlt2⟩
          obtain ⟨a2, m2, c2, hco0, M2, hmc2, HS2, HD2⟩ := heads_in HQ.out HF.out o hoq
          have hcp := HEW.out.cl HCP0.out
          have hco := HEW.out.cl hco0
          clear hco0 HS2
          have hpz0 : (0 : Int) ≤ (p : Int) := by omega
          have hpz1 : (p : Int) < (n : Int) := by omega
          have hoz0 : (0 : Int) ≤ (o : Int) := by omega
          have hoz1 : (o : Int) < (n : Int) := by omega
          have HM2 := Lib.hid M2
          have HHD2 := Lib.hid HD2
          clear M2 HD2
          by_cases hop : o = p
          · have b1 : ((p : Int) != (o : Int)) = false := by simp; omega
            have HBE := Lib.hid (show beatsB qs p o = false from by rw [hop]; exact beats_same qs p)
            clear hop
            go_wp2
            go_quiet (fail)
            go_wp2
            go_roundg (n - (o + 1))
            case measure => omega
            case rel =>
              refine ⟨o + 1, by omega, by omega, by go_num, (show Drawn _ _ from HDI.out.drN _), (show Aside _ from fun j hj => ?_)⟩
              by_cases e : j = o
              · subst e; exact HBE.out
              · exact AI.out j (by omega)
          · have b1 : ((p : Int) != (o : Int)) = true := by simp; omega
            rcases Nat.eq_zero_or_pos m1 with h1 | h1
            · have b2 : decide (0 < (m1 : Int)) = false := by simp; omega
              have b2' : decide (0 < m1) = false := by simp; omega
              have HBE := Lib.hid (show beatsB qs p o = false from beats_p qs p o (by rw [← HM1.out]; exact h1))
              clear h1 hop
              go_wp2
              go_quiet (fail)
              go_wp2
              go_roundg (n - (o + 1))
              case measure => omega
              case rel =>
                refine ⟨o + 1, by omega, by omega, by go_num, (show Drawn _ _ from HDI.out.drN _), (show Aside _ from fun j hj => ?_)⟩
                by_cases e : j = o
                · subst e; exact HBE.out
                · exact AI.out j (by omega)
            · have b2 : decide (0 < (m1 : Int)) = true := by simp; omega
              have b2' : decide (0 < m1) = true := by simp; omega
              rcases Nat.eq_zero_or_pos m2 with h2 | h2
              · have b3 : decide (0 < (m2 : Int)) = false := by simp; omega
                have b3' : decide (0 < m2) = false := by simp; omega
                have HBE := Lib.hid (show beatsB qs p o = false from beats_o qs p o (by rw [← HM2.out]; exact h2))
                clear h2 h1 hop
                go_wp2
                go_quiet (fail)
                go_wp2
                go_roundg (n - (o + 1))
                case measure => omega
                case rel =>
                  refine ⟨o + 1, by omega, by omega, by go_num, (show Drawn _ _ from HDI.out.drN _), (show Aside _ from fun j hj => ?_)⟩
                  by_cases e : j = o
                  · subst e; exact HBE.out
                  · exact AI.out j (by omega)
              · have b3 : decide (0 < (m2 : Int)) = true := by simp; omega
                have b3' : decide (0 < m2) = true := by simp; omega
                obtain ⟨x1, y1, e1, f1, g1, rfl, hd1, hk1⟩ := HHD1.out h1
                obtain ⟨x2, y2, e2, f2, g2, rfl, hd2, hk2⟩ := HHD2.out h2
                have hz1 : (0 : Int) < (m1 : Int) := by omega
                have hz2 : (0 : Int) < (m2 : Int) := by omega
                rw [HN.out] at hd1 hd2
                have k1 := HEW.out.cl hd1
                have k2 := HEW.out.cl hd2
                have k3 := HEW.out.cl (hk1 p hpq)
                have k4 := HEW.out.cl (hk2 p hpq)
                have hbe := beats_all qs p o hop (by rw [← HM1.out]; exact h1) (by rw [← HM2.out]; exact h2)
                clear hd1 hd2 hk1 hk2
                generalize qs[p]![0]![p]! = x at *
                generalize qs[o]![0]![p]! = y at *
                by_cases hxy : x < y
                · have b4 : decide (x < y) = true := by simpa using hxy
                  have HBE := Lib.hid (show beatsB qs p o = true from by rw [hbe]; exact b4)
                  clear hbe hxy hop
                  go_wp2
                  go_quiet (fail)
                  go_wp2
                  go_ret
                  refine ⟨?_, (HD.out.trans HDI.out).drN _⟩
                  rw [HBL.out, beaten_hit qs p hpq ((range_any _ _).2 ⟨o, hoq, HBE.out⟩) A.out]
                  rfl
                · have b4 : decide (x < y) = false := by simpa using hxy
                  have HBE := Lib.hid (show beatsB qs p o = false from by rw [hbe]; exact b4)
                  clear hbe hxy hop
                  go_wp2
                  go_quiet (fail)
                  go_wp2
                  go_roundg (n - (o + 1))
                  case measure => omega
                  case rel =>
                    refine ⟨o + 1, by omega, by omega, by go_num, (show Drawn _ _ from HDI.out.drN _), (show Aside _ from fun j hj => ?_)⟩
                    by_cases e : j = o
                    · subst e; exact HBE.out
                    · exact AI.out j (by omega)
        · have hltz2 : ¬ (o : Int) < (n : Int) := by omega
          go_wp2
          go_roundg (n - (p + 1))
          case measure => omega
          case rel =>
            refine ⟨p + 1, by omega, by omega, by go_num, (show Drawn _ _ from HD.out.trans HDI.out), (show Aside _ from fun j hj => ?_)⟩
            by_cases e : j = p
            · subst e; exact (range_any_false _ _).2 (fun i hi => AI.out i (by rw [HN.out] at hi; omega))
            · exact A.out j (by omega)
    · have hltz : ¬ (p : Int) < (n : Int) := by omega
      go_wp2
      go_ret
      refine ⟨?_, HD.out⟩
      rw [HBL.out, beaten_miss qs (fun j hj => A.out j (by rw [HN.out] at hj; omega))]
      rfl

end Go.Proofs.Ytdcahdcnoeomhaa
