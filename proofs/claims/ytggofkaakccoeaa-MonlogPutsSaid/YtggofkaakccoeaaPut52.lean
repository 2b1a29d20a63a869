import Derived.Test.YtggofkaakccoeaaBase
import Derived.Test.YtggofkaakccoeaaProg
import Derived.Test.YtggofkaakccoeaaJourD52
import Derived.BigQuiet
import Derived.Deep.QuietTactic
import Derived.Deep.LoopGhost
import Derived.Shelf.Abstract
/-
  The library's IndexFunc and ContainsFunc on slices of numbers.
-/
namespace Go.Proofs.Ytggofkaakccoeaa
open Go.RowKit
set_option linter.unusedVariables false

set_option maxHeartbeats 400000 in
theorem indexFunc_int (g : Nat) (cb : Array Value) (eg : ∀ args w, (callFunc g args).run Try.prog w = .ok (.enter g args) w) (p : Int → Bool) (v : Value) (l : List Int) (w : World)
    (hv : Ints w v l) (hn : l.length ≤ 1000000) (hp : Says Try.prog g cb p l w) :
    Calls Try.prog 68 #[v, .func (.func g) #[] cb] w fun e w' => e = .returned (.int .i64 (firstAt p l)) ∧ Ext w w' := by
  obtain ⟨a, c, rfl, hlc, hv⟩ := hv
  have HLC := Lib.hid hlc; clear hlc
  have HV := Lib.hid hv; clear hv
  have HP := Lib.hid hp; clear hp
  generalize hln : l.length = n at hn
  have HL := Lib.hid hln; clear hln
  go_enter Try.func68, Try.ntmps68
  go_wp2
  go_loopg [5, 8] n (fun m _ s8 wr => ∃ k : Nat, k ≤ n ∧ n - k ≤ m ∧ s8 = .int .i64 k ∧ Ext w wr ∧ Aside (∀ j, j < k → p l[j]! = false))
  case atStart => exact ⟨0, Nat.zero_le _, by omega, rfl, Below.refl _ _, (fun j hj => absurd hj (Nat.not_lt_zero _))⟩
  case round =>
    obtain ⟨k, hk, hm, rfl, he, A⟩ := hrel
    have HE := Lib.hid he; clear he
    by_cases hlt : k < n
    · obtain ⟨b, off, rfl, hb, hc⟩ := HV.out (by intro e; have := HL.out; simp [e] at this; omega)
      have hcell : wr.cell? ⟨b, off + k, none⟩ = some (.int .i64 l[k]!) := (HE.out.cell hb).trans (hc k (by rw [HL.out]; exact hlt))
      have hltz : (k : Int) < (n : Int) := by omega
      clear hc
      have hcall := HP.out _ (mem_at l k (by rw [HL.out]; exact hlt)) _ HE.out
      generalize hy : l[k]! = y at hcell hcall
      have B := Lib.hid hy
      clear hy
      cases hq : p y with
      | true =>
        rw [hq] at hcall
        have HQ := Lib.hid hq; clear hq
        go_wp2_with (go_at_fn g; refine hcall.mono ?_; rintro e w' ⟨rfl, he'⟩)
        go_ret
        exact ⟨by rw [firstAt_hit p l k (by rw [HL.out]; omega) (by rw [B.out]; exact HQ.out) A.out]; rfl, HE.out.trans' he'⟩
      | false =>
        rw [hq] at hcall
        have HQ := Lib.hid hq; clear hq
        go_wp2_with (go_at_fn g; refine hcall.mono ?_; rintro e w' ⟨rfl, he'⟩)
        go_roundg (n - (k + 1))
        case measure => omega
        case rel =>
          refine ⟨k + 1, by omega, by omega, by go_num, HE.out.trans' he', (show Aside _ from fun j hj => ?_)⟩
          by_cases e : j = k
          · subst e
            rw [B.out]; exact HQ.out
          · exact A.out j (by omega)
    · have hltz : ¬ (k : Int) < (n : Int) := by omega
      go_wp2
      go_ret
      exact ⟨by rw [firstAt_miss p l (fun j hj => A.out j (by rw [HL.out] at hj; omega))]; rfl, HE.out⟩

theorem enters_68 : ∀ args w, (callFunc 68 args).run Try.prog w = .ok (.enter 68 args) w := enters_of Try.func68 (by kernel_rfl) rfl

set_option maxHeartbeats 400000 in
theorem containsFunc_int (g : Nat) (cb : Array Value) (eg : ∀ args w, (callFunc g args).run Try.prog w = .ok (.enter g args) w) (p : Int → Bool) (v : Value) (l : List Int) (w : World)
    (hv : Ints w v l) (hn : l.length ≤ 1000000) (hp : Says Try.prog g cb p l w) :
    Calls Try.prog 51 #[v, .func (.func g) #[] cb] w fun e w' => e = .returned (.bool (l.any p)) ∧ Ext w w' := by
  have HI := Lib.hid (indexFunc_int g cb eg p v l w hv hn hp)
  clear hv hp eg
  rw [← firstAt_any]
  go_enter Try.func51, Try.ntmps51
  go_wp2_with (go_at_call 68; refine HI.out.mono ?_; rintro e w' ⟨rfl, he'⟩)
  go_ret
  exact ⟨rfl, he'⟩

end Go.Proofs.Ytggofkaakccoeaa

/-
  The walk of monlog.Put.
-/
namespace Go.Proofs.Ytggofkaakccoeaa
open Go.RowKit
set_option linter.unusedVariables false

def stampL (p : Int) (v : List Int) : List Int := [p, (v.length : Int)] ++ (v.map fun x => wordL x 8).flatten
def outS (x : Int) : Bool := decide (x < 0) || decide (64 < x)
theorem flat_len (v : List Int) : ((v.map fun x => wordL x 8).flatten).length = 8 * v.length := by
  induction v with
  | nil => rfl
  | cons x r ih => simp only [List.map_cons, List.flatten_cons, List.length_append, word_len, ih, List.length_cons]; omega
theorem stampL_len (p : Int) (v : List Int) : (stampL p v).length = 2 + 8 * v.length := by
  unfold stampL
  rw [List.length_append, flat_len]; rfl
theorem stampL_byte {p : Int} {v : List Int} (hp : Byte p) (hv : v.length < 256) : ∀ x, x ∈ stampL p v → Byte x := by
  intro x hx
  unfold stampL at hx
  rcases List.mem_append.1 hx with h | h
  · simp only [List.mem_cons, List.not_mem_nil, or_false] at h
    rcases h with rfl | rfl
    · exact hp
    · exact ⟨by omega, by omega⟩
  · obtain ⟨l, hl, hx⟩ := List.mem_flatten.1 h
    obtain ⟨y, _, rfl⟩ := List.mem_map.1 hl
    exact word_byte y 8 x hx
theorem flat_snoc (v : List Int) (k : Nat) (hk : k < v.length) : ((v.take (k + 1)).map fun x => wordL x 8).flatten = ((v.take k).map fun x => wordL x 8).flatten ++ wordL v[k]! 8 := by
  rw [take_snoc' v k hk, List.map_append, List.flatten_append]; simp

theorem enters_53 : ∀ args w, (callFunc 53 args).run Try.prog w = .ok (.enter 53 args) w := enters_of Try.func53 (by kernel_rfl) rfl

set_option maxHeartbeats 400000 in
theorem put1_calls (x : Int) (w : World) : Calls Try.prog 53 #[.int .i64 x] w fun e w' => e = .returned (.bool (outS x)) ∧ Ext w w' := by
  by_cases h1 : x < 0
  · have b1 : decide (x < 0) = true := by simpa using h1
    go_enter Try.func53, Try.ntmps53
    go_wp2
    go_ret
    exact ⟨by simp [outS, h1], Ext.rf _⟩
  · have b1 : decide (x < 0) = false := by simpa using h1
    go_enter Try.func53, Try.ntmps53
    go_wp2
    go_ret
    exact ⟨by simp [outS, b1], Ext.rf _⟩


set_option maxHeartbeats 4000000 in
set_option maxRecDepth 100000 in
theorem put_invalid (a : Option Addr) (n c : Nat) (d f p : Int) (u : Value) (w : World) (hn : n ≤ 9223372036854775807) (hval : validJ n d f = false) :
    Calls Try.prog 29 #[.agg #[.slice a n c, .int .i64 d, .int .i64 f], .int .i64 p, u] w fun e w' => JOut w w' e [] 0 0 1 := by
  have HVAL := Lib.hid hval
  go_enter Try.func29, Try.ntmps29
  go_wp2_with fail
  refine (valid_calls _ _ _ _ _ _ (by omega)).mono ?_
  rw [HVAL.out]
  rintro e w1 ⟨rfl, hE1⟩
  obtain ⟨hb1, hb2, hb3, hb4⟩ := two_boxes hE1
  have HE1 := Lib.hid hE1
  have HB1 := Lib.hid hb1
  have HB2 := Lib.hid hb2
  have HB4 := Lib.hid hb4
  clear hb1 hb2 hb4 hE1
  have c0 := cell_of HB1.out 0
  have c1 := cell_of HB1.out 1
  have c2 := cell_of HB1.out 2
  simp only [List.getElem?_toArray, List.getElem?_cons_zero, List.getElem?_cons_succ] at c0 c1 c2
  have r0 := cell_of HB2.out 0
  have r1 := cell_of HB2.out 1
  have r2 := cell_of HB2.out 2
  simp only [List.getElem?_toArray, List.getElem?_cons_zero, List.getElem?_cons_succ] at r0 r1 r2
  have q0 := free_of HB2.out 0
  have q1 := free_of HB2.out 1
  have q2 := free_of HB2.out 2
  go_wp2
  refine bodyPost_ret (v := .tuple #[.agg #[.slice none 0 0, .int .i64 0, .int .i64 0], .int .i64 1]) (by simp [results, Try.results29, go_sem, r0, r1, r2]) rfl ⟨_, rfl, Row.mkNil _ _ _ _, (by repeat (first | refine Ext.st ?_ (by first | exact Nat.le_refl _ | exact Nat.le_succ _ | assumption | omega) _ | refine Ext.al ?_ _ | refine Ext.dr ?_ | refine Ext.drN ?_ _ | exact HB4.out))⟩

set_option maxHeartbeats 4000000 in
set_option maxRecDepth 100000 in
theorem put_range (a : Option Addr) (n c : Nat) (d f p : Int) (u : Value) (vs : List Int) (w : World) (hn : n ≤ 9223372036854775807) (hval : validJ n d f = true) (hvs : Ints w u vs) (hvn : vs.length ≤ 100000) (h : p < 0 ∨ 8 ≤ p ∨ 8 < vs.length ∨ vs.any outS = true) :
    Calls Try.prog 29 #[.agg #[.slice a n c, .int .i64 d, .int .i64 f], .int .i64 p, u] w fun e w' => JOut w w' e [] 0 0 2 := by
  have HVAL := Lib.hid hval
  have HVS := Lib.hid hvs
  obtain ⟨va, vc, rfl, _, hvx⟩ := hvs
  clear hvx
  by_cases h1 : p < 0
  · have b1 : decide (p < 0) = true := by simpa using h1
    go_enter Try.func29, Try.ntmps29
    go_wp2_with fail
    refine (valid_calls _ _ _ _ _ _ (by omega)).mono ?_
    rw [HVAL.out]
    rintro e w1 ⟨rfl, hE1⟩
    obtain ⟨hb1, hb2, hb3, hb4⟩ := two_boxes hE1
    have HE1 := Lib.hid hE1
    have HB1 := Lib.hid hb1
    have HB2 := Lib.hid hb2
    have HB4 := Lib.hid hb4
    clear hb1 hb2 hb4 hE1
    have c0 := cell_of HB1.out 0
    have c1 := cell_of HB1.out 1
    have c2 := cell_of HB1.out 2
    simp only [List.getElem?_toArray, List.getElem?_cons_zero, List.getElem?_cons_succ] at c0 c1 c2
    have r0 := cell_of HB2.out 0
    have r1 := cell_of HB2.out 1
    have r2 := cell_of HB2.out 2
    simp only [List.getElem?_toArray, List.getElem?_cons_zero, List.getElem?_cons_succ] at r0 r1 r2
    have q0 := free_of HB2.out 0
    have q1 := free_of HB2.out 1
    have q2 := free_of HB2.out 2
    go_wp2
    refine bodyPost_ret (v := .tuple #[.agg #[.slice none 0 0, .int .i64 0, .int .i64 0], .int .i64 2]) (by simp [results, Try.results29, go_sem, r0, r1, r2]) rfl ⟨_, rfl, Row.mkNil _ _ _ _, (by repeat (first | refine Ext.st ?_ (by first | exact Nat.le_refl _ | exact Nat.le_succ _ | assumption | omega) _ | refine Ext.al ?_ _ | refine Ext.dr ?_ | refine Ext.drN ?_ _ | exact HB4.out))⟩
  have b1 : decide (p < 0) = false := by simpa using h1
  by_cases h2 : 8 ≤ p
  · have b2 : decide (8 ≤ p) = true := by simpa using h2
    go_enter Try.func29, Try.ntmps29
    go_wp2_with fail
    refine (valid_calls _ _ _ _ _ _ (by omega)).mono ?_
    rw [HVAL.out]
    rintro e w1 ⟨rfl, hE1⟩
    obtain ⟨hb1, hb2, hb3, hb4⟩ := two_boxes hE1
    have HE1 := Lib.hid hE1
    have HB1 := Lib.hid hb1
    have HB2 := Lib.hid hb2
    have HB4 := Lib.hid hb4
    clear hb1 hb2 hb4 hE1
    have c0 := cell_of HB1.out 0
    have c1 := cell_of HB1.out 1
    have c2 := cell_of HB1.out 2
    simp only [List.getElem?_toArray, List.getElem?_cons_zero, List.getElem?_cons_succ] at c0 c1 c2
    have r0 := cell_of HB2.out 0
    have r1 := cell_of HB2.out 1
    have r2 := cell_of HB2.out 2
    simp only [List.getElem?_toArray, List.getElem?_cons_zero, List.getElem?_cons_succ] at r0 r1 r2
    have q0 := free_of HB2.out 0
    have q1 := free_of HB2.out 1
    have q2 := free_of HB2.out 2
    go_wp2
    refine bodyPost_ret (v := .tuple #[.agg #[.slice none 0 0, .int .i64 0, .int .i64 0], .int .i64 2]) (by simp [results, Try.results29, go_sem, r0, r1, r2]) rfl ⟨_, rfl, Row.mkNil _ _ _ _, (by repeat (first | refine Ext.st ?_ (by first | exact Nat.le_refl _ | exact Nat.le_succ _ | assumption | omega) _ | refine Ext.al ?_ _ | refine Ext.dr ?_ | refine Ext.drN ?_ _ | exact HB4.out))⟩
  have b2 : decide (8 ≤ p) = false := by simpa using h2
  by_cases h3 : 8 < vs.length
  · have b3 : decide (8 < (vs.length : Int)) = true := by simp; omega
    go_enter Try.func29, Try.ntmps29
    go_wp2_with fail
    refine (valid_calls _ _ _ _ _ _ (by omega)).mono ?_
    rw [HVAL.out]
    rintro e w1 ⟨rfl, hE1⟩
    obtain ⟨hb1, hb2, hb3, hb4⟩ := two_boxes hE1
    have HE1 := Lib.hid hE1
    have HB1 := Lib.hid hb1
    have HB2 := Lib.hid hb2
    have HB4 := Lib.hid hb4
    clear hb1 hb2 hb4 hE1
    have c0 := cell_of HB1.out 0
    have c1 := cell_of HB1.out 1
    have c2 := cell_of HB1.out 2
    simp only [List.getElem?_toArray, List.getElem?_cons_zero, List.getElem?_cons_succ] at c0 c1 c2
    have r0 := cell_of HB2.out 0
    have r1 := cell_of HB2.out 1
    have r2 := cell_of HB2.out 2
    simp only [List.getElem?_toArray, List.getElem?_cons_zero, List.getElem?_cons_succ] at r0 r1 r2
    have q0 := free_of HB2.out 0
    have q1 := free_of HB2.out 1
    have q2 := free_of HB2.out 2
    go_wp2
    refine bodyPost_ret (v := .tuple #[.agg #[.slice none 0 0, .int .i64 0, .int .i64 0], .int .i64 2]) (by simp [results, Try.results29, go_sem, r0, r1, r2]) rfl ⟨_, rfl, Row.mkNil _ _ _ _, (by repeat (first | refine Ext.st ?_ (by first | exact Nat.le_refl _ | exact Nat.le_succ _ | assumption | omega) _ | refine Ext.al ?_ _ | refine Ext.dr ?_ | refine Ext.drN ?_ _ | exact HB4.out))⟩
  have b3 : decide (8 < (vs.length : Int)) = false := by simp; omega
  have hany : vs.any outS = true := by rcases h with h | h | h | h <;> first | omega | exact h
  have HANY := Lib.hid hany
  go_enter Try.func29, Try.ntmps29
  go_wp2_with fail
  refine (valid_calls _ _ _ _ _ _ (by omega)).mono ?_
  rw [HVAL.out]
  rintro e w1 ⟨rfl, hE1⟩
  obtain ⟨hb1, hb2, hb3, hb4⟩ := two_boxes hE1
  have HE1 := Lib.hid hE1
  have HB1 := Lib.hid hb1
  have HB2 := Lib.hid hb2
  have HB4 := Lib.hid hb4
  clear hb1 hb2 hb4 hE1
  have c0 := cell_of HB1.out 0
  have c1 := cell_of HB1.out 1
  have c2 := cell_of HB1.out 2
  simp only [List.getElem?_toArray, List.getElem?_cons_zero, List.getElem?_cons_succ] at c0 c1 c2
  have r0 := cell_of HB2.out 0
  have r1 := cell_of HB2.out 1
  have r2 := cell_of HB2.out 2
  simp only [List.getElem?_toArray, List.getElem?_cons_zero, List.getElem?_cons_succ] at r0 r1 r2
  have q0 := free_of HB2.out 0
  have q1 := free_of HB2.out 1
  have q2 := free_of HB2.out 2
  go_wp2_with fail
  refine (containsFunc_int 53 #[] enters_53 outS _ vs w1 (HVS.out.ext HB4.out) (by first | (rw [HQ.out]; omega) | omega) (fun x hx W hW => by simpa using put1_calls x W)).mono ?_
  rw [HANY.out]
  rintro e w2 ⟨rfl, hE2⟩
  obtain ⟨hb1, hb2, hb5, hb4⟩ := two_boxes (HE1.out.trans' hE2)
  clear c0 c1 c2 r0 r1 r2 q0 q1 q2 HB1 HB2 HB4
  have HE1 := Lib.hid (HE1.out.trans' hE2)
  have HB1 := Lib.hid hb1
  have HB2 := Lib.hid hb2
  have HB4 := Lib.hid hb4
  clear hb1 hb2 hb4 hE2
  have c0 := cell_of HB1.out 0
  have c1 := cell_of HB1.out 1
  have c2 := cell_of HB1.out 2
  simp only [List.getElem?_toArray, List.getElem?_cons_zero, List.getElem?_cons_succ] at c0 c1 c2
  have r0 := cell_of HB2.out 0
  have r1 := cell_of HB2.out 1
  have r2 := cell_of HB2.out 2
  simp only [List.getElem?_toArray, List.getElem?_cons_zero, List.getElem?_cons_succ] at r0 r1 r2
  have q0 := free_of HB2.out 0
  have q1 := free_of HB2.out 1
  have q2 := free_of HB2.out 2
  go_wp2
  refine bodyPost_ret (v := .tuple #[.agg #[.slice none 0 0, .int .i64 0, .int .i64 0], .int .i64 2]) (by simp [results, Try.results29, go_sem, r0, r1, r2]) rfl ⟨_, rfl, Row.mkNil _ _ _ _, (by repeat (first | refine Ext.st ?_ (by first | exact Nat.le_refl _ | exact Nat.le_succ _ | assumption | omega) _ | refine Ext.al ?_ _ | refine Ext.dr ?_ | refine Ext.drN ?_ _ | exact HB4.out))⟩

/-- The stamp's bytes, up to its k-th number. -/
def stampTo (p : Int) (v : List Int) (k : Nat) : List Int := [p, (v.length : Int)] ++ ((v.take k).map fun x => wordL x 8).flatten
theorem stampTo_len (p : Int) (v : List Int) (k : Nat) (hk : k ≤ v.length) : (stampTo p v k).length = 2 + 8 * k := by
  unfold stampTo
  rw [List.length_append, flat_len, List.length_take, Nat.min_eq_left hk]; rfl
theorem stampTo_succ (p : Int) (v : List Int) (k : Nat) (hk : k < v.length) : stampTo p v (k + 1) = stampTo p v k ++ wordL v[k]! 8 := by
  unfold stampTo
  rw [flat_snoc v k hk, List.append_assoc]
theorem stampTo_all (p : Int) (v : List Int) : stampTo p v v.length = stampL p v := by
  unfold stampTo stampL
  rw [List.take_length]
theorem outS_in {v : List Int} (h : v.any outS = false) (k : Nat) (hk : k < v.length) : 0 ≤ v[k]! ∧ v[k]! ≤ 64 := by
  have hx := List.any_eq_false.1 h _ (mem_at v k hk)
  generalize v[k]! = x at *
  simp [outS] at hx
  omega


set_option maxHeartbeats 8000000 in
set_option maxRecDepth 100000 in
theorem put_full (a : Option Addr) (c : Nat) (l : List Int) (d f p : Int) (u : Value) (vs : List Int) (w : World) (E : Int) (hv : Bys w (.slice a l.length c) l) (hn : l.length ≤ 1000000) (hval : validJ l.length d f = true) (hvs : Ints w u vs) (hp0 : 0 ≤ p) (hp1 : p < 8) (hvn : vs.length ≤ 8) (hany : vs.any outS = false) (hE : checkN l d f (2 + 8 * vs.length) = E) (h0 : E ≠ 0) :
    Calls Try.prog 29 #[.agg #[.slice a l.length c, .int .i64 d, .int .i64 f], .int .i64 p, u] w fun e w' => JOut w w' e [] 0 0 E := by
  have HVAL := Lib.hid hval
  have HVS := Lib.hid hvs
  have HANY := Lib.hid hany
  have HV := Lib.hid hv
  have HSB := Lib.hid (stampL_byte (p := p) (v := vs) ⟨hp0, by omega⟩ (by omega))
  have HSL := Lib.hid (stampL_len p vs)
  obtain ⟨va, vc, rfl, _, hvx⟩ := hvs
  have HVX := Lib.hid hvx
  have HCK := Lib.hid hE
  generalize hqv : vs.length = q at *
  have HQ := Lib.hid hqv
  have b1 : decide (p < 0) = false := by simp; omega
  have b2 : decide (8 ≤ p) = false := by simp; omega
  have b3 : decide (8 < (q : Int)) = false := by simp; omega
  have hcp : IntKind.u8.wrap p = p := by rw [IntKind.wrap_u8]; omega
  have hcq : IntKind.u8.wrap (q : Int) = q := by rw [IntKind.wrap_u8]; omega
  clear hvx hany hv hval hE hqv
  have e0 : (E != 0) = true := by simpa using h0
  clear h0
  go_enter Try.func29, Try.ntmps29
  go_wp2_with fail
  refine (valid_calls _ _ _ _ _ _ (by omega)).mono ?_
  rw [HVAL.out]
  rintro e w1 ⟨rfl, hE1⟩
  obtain ⟨hb1, hb2, hb3, hb4⟩ := two_boxes hE1
  have HE1 := Lib.hid hE1
  have HB1 := Lib.hid hb1
  have HB2 := Lib.hid hb2
  have HB4 := Lib.hid hb4
  clear hb1 hb2 hb4 hE1
  have c0 := cell_of HB1.out 0
  have c1 := cell_of HB1.out 1
  have c2 := cell_of HB1.out 2
  simp only [List.getElem?_toArray, List.getElem?_cons_zero, List.getElem?_cons_succ] at c0 c1 c2
  have r0 := cell_of HB2.out 0
  have r1 := cell_of HB2.out 1
  have r2 := cell_of HB2.out 2
  simp only [List.getElem?_toArray, List.getElem?_cons_zero, List.getElem?_cons_succ] at r0 r1 r2
  have q0 := free_of HB2.out 0
  have q1 := free_of HB2.out 1
  have q2 := free_of HB2.out 2
  go_wp2_with fail
  refine (containsFunc_int 53 #[] enters_53 outS _ vs w1 (HVS.out.ext HB4.out) (by first | (rw [HQ.out]; omega) | omega) (fun x hx W hW => by simpa using put1_calls x W)).mono ?_
  rw [HANY.out]
  rintro e w2 ⟨rfl, hE2⟩
  obtain ⟨hb1, hb2, hb5, hb4⟩ := two_boxes (HE1.out.trans' hE2)
  clear c0 c1 c2 r0 r1 r2 q0 q1 q2 HB1 HB2 HB4
  have HE1 := Lib.hid (HE1.out.trans' hE2)
  have HB1 := Lib.hid hb1
  have HB2 := Lib.hid hb2
  have HB4 := Lib.hid hb4
  clear hb1 hb2 hb4 hE2
  have c0 := cell_of HB1.out 0
  have c1 := cell_of HB1.out 1
  have c2 := cell_of HB1.out 2
  simp only [List.getElem?_toArray, List.getElem?_cons_zero, List.getElem?_cons_succ] at c0 c1 c2
  have r0 := cell_of HB2.out 0
  have r1 := cell_of HB2.out 1
  have r2 := cell_of HB2.out 2
  simp only [List.getElem?_toArray, List.getElem?_cons_zero, List.getElem?_cons_succ] at r0 r1 r2
  have q0 := free_of HB2.out 0
  have q1 := free_of HB2.out 1
  have q2 := free_of HB2.out 2
  go_wp2
  go_loopg [8, 41] q (fun m s8 s41 wr => ∃ k : Nat, k ≤ q ∧ q - k ≤ m ∧ s41 = .int .i64 k ∧ Aside (Row wr w2.heap.size 5 1 s8 (2 + 8 * k) ((stampTo p vs k).map (Value.int .u8))) ∧ Aside (Ext w2 wr))
  case atStart =>
    refine ⟨0, Nat.zero_le _, by omega, rfl, (show Row _ _ _ _ _ _ _ from ⟨by simp [stampTo], .inr ⟨w2.heap.size, 0, 2, #[.int .u8 p, .int .u8 q], rfl, Nat.le_refl _, heap_alloc_new _ _, by omega, by decide, by simp, ?_⟩⟩), (show Ext _ _ from (by repeat (first | refine Ext.st ?_ (by first | exact Nat.le_refl _ | exact Nat.le_succ _ | assumption | omega) _ | refine Ext.al ?_ _ | refine Ext.dr ?_ | refine Ext.drN ?_ _ | exact Ext.rf _)))⟩
    have := HQ.out
    simp [stampTo, this]
  case round =>
    obtain ⟨k, hk, hm, rfl, HR8, HXR⟩ := hrel
    by_cases hlt : k < q
    · have hltz : (k : Int) < (q : Int) := by omega
      obtain ⟨b, off, rfl, hb, hc⟩ := HVX.out (by intro e; have := HQ.out; simp [e] at this; omega)
      have hcell : wr.cell? ⟨b, off + k, none⟩ = some (.int .i64 vs[k]!) := (HB4.out.trans' HXR.out).cl (hc k hlt)
      obtain ⟨x0, x1⟩ := outS_in HANY.out k (by rw [HQ.out]; exact hlt)
      have ST := Lib.hid (stampTo_succ p vs k (by rw [HQ.out]; exact hlt))
      have SL := Lib.hid (stampTo_len p vs k (by rw [HQ.out]; exact hk))
      clear hc
      generalize vs[k]! = x at *
      have hconv : IntKind.u64.wrap x = x := by rw [IntKind.wrap_u64]; omega
      go_wp2_with fail
      refine (number_calls _ (stampTo p vs k) x 8 w2.heap.size wr (by rw [SL.out]; exact HR8.out) HXR.out.sz (by rw [SL.out]; omega) (by omega) x0 (by omega)).mono ?_
      rintro e w' ⟨v', rfl, hR', hB'⟩
      rw [SL.out] at hR'
      have HR' := Lib.hid hR'
      have HX' := Lib.hid (show Ext w2 w' from Below.trans HXR.out hB')
      clear hR' hB'
      go_wp2
      go_roundg (q - (k + 1))
      case measure => omega
      case rel =>
        refine ⟨k + 1, by omega, by omega, by go_num, (show Row _ _ _ _ _ _ _ from ?_), HX'.out⟩
        rw [ST.out, show 2 + 8 * (k + 1) = 2 + 8 * k + 8 from by omega]
        exact HR'.out
    · have hltz : ¬ (k : Int) < (q : Int) := by omega
      obtain rfl : k = q := by omega
      have hR8 := HR8.out
      rw [show stampTo p vs k = stampL p vs from by rw [← HQ.out]; exact stampTo_all p vs] at hR8
      obtain ⟨ba, bm, rfl, _, hsh⟩ := hR8.any
      clear hsh
      have HBR := Lib.hid (hR8.bys HSB.out)
      have HX2 := Lib.hid HXR.out
      obtain ⟨hb1, hb2, hb5, hb4⟩ := two_boxes (HE1.out.trans' HX2.out)
      clear c0 c1 c2 r0 r1 r2 q0 q1 q2 HB1 HB2 HB4 hR8
      have HB1 := Lib.hid hb1
      have HB2 := Lib.hid hb2
      have HB4 := Lib.hid hb4
      clear hb1 hb2 hb4
      have c0 := cell_of HB1.out 0
      have c1 := cell_of HB1.out 1
      have c2 := cell_of HB1.out 2
      simp only [List.getElem?_toArray, List.getElem?_cons_zero, List.getElem?_cons_succ] at c0 c1 c2
      have r0 := cell_of HB2.out 0
      have r1 := cell_of HB2.out 1
      have r2 := cell_of HB2.out 2
      simp only [List.getElem?_toArray, List.getElem?_cons_zero, List.getElem?_cons_succ] at r0 r1 r2
      have q0 := free_of HB2.out 0
      have q1 := free_of HB2.out 1
      have q2 := free_of HB2.out 2
      go_wp2_with fail
      refine (check_calls a c l d f ba (2 + 8 * k) bm wr (HV.out.ext HB4.out) (by omega) (by omega)).mono ?_
      rw [HCK.out]
      rintro e w3 ⟨rfl, hE3⟩
      obtain ⟨hb1, hb2, hb6, hb4⟩ := two_boxes ((HE1.out.trans' HX2.out).trans' hE3)
      have HBR3 := Lib.hid (HBR.out.ext hE3)
      have HE3 := Lib.hid hE3
      clear c0 c1 c2 r0 r1 r2 q0 q1 q2 HB1 HB2 HB4
      have HB1 := Lib.hid hb1
      have HB2 := Lib.hid hb2
      have HB4 := Lib.hid hb4
      clear hb1 hb2 hb4 hE3
      have c0 := cell_of HB1.out 0
      have c1 := cell_of HB1.out 1
      have c2 := cell_of HB1.out 2
      simp only [List.getElem?_toArray, List.getElem?_cons_zero, List.getElem?_cons_succ] at c0 c1 c2
      have r0 := cell_of HB2.out 0
      have r1 := cell_of HB2.out 1
      have r2 := cell_of HB2.out 2
      simp only [List.getElem?_toArray, List.getElem?_cons_zero, List.getElem?_cons_succ] at r0 r1 r2
      have q0 := free_of HB2.out 0
      have q1 := free_of HB2.out 1
      have q2 := free_of HB2.out 2
      go_wp2
      refine bodyPost_ret (v := .tuple #[.agg #[.slice none 0 0, .int .i64 0, .int .i64 0], .int .i64 E]) (by simp [results, Try.results29, go_sem, r0, r1, r2]) rfl ⟨_, rfl, Row.mkNil _ _ _ _, (by repeat (first | refine Ext.st ?_ (by first | exact Nat.le_refl _ | exact Nat.le_succ _ | assumption | omega) _ | refine Ext.al ?_ _ | refine Ext.dr ?_ | refine Ext.drN ?_ _ | exact HB4.out))⟩

def putD (l : List Int) (d f : Int) (b : List Int) : Int := if leftF f (recL b) = 0 then min d (wholeR (recordsL l)) else (appL l f b).length
def putE (f : Int) (b : List Int) : Int := if leftF f (recL b) = 0 then 19 else 0
theorem crash_left {f : Int} {b : List Int} (h : crashF f b = true) : leftF f b = 0 := by
  simp only [crashF, Bool.and_eq_true, decide_eq_true_eq] at h
  unfold leftF
  rw [if_neg (by omega), if_neg (by omega)]

set_option maxHeartbeats 16000000 in
set_option maxRecDepth 100000 in
theorem put_ok (a : Option Addr) (c : Nat) (l : List Int) (d f p : Int) (u : Value) (vs : List Int) (w : World) (E : Int) (hv : Bys w (.slice a l.length c) l) (hn : l.length ≤ 1000000) (hval : validJ l.length d f = true) (hvs : Ints w u vs) (hp0 : 0 ≤ p) (hp1 : p < 8) (hvn : vs.length ≤ 8) (hany : vs.any outS = false) (hE : checkN l d f (2 + 8 * vs.length) = E) (h0 : E = 0) :
    Calls Try.prog 29 #[.agg #[.slice a l.length c, .int .i64 d, .int .i64 f], .int .i64 p, u] w fun e w' => JOut w w' e (appL l f (stampL p vs)) (putD l d f (stampL p vs)) (leftF f (recL (stampL p vs))) (putE f (stampL p vs)) := by
  have hWL := whole_le' l hv.1
  have hrl := rec_len (stampL p vs)
  rw [stampL_len] at hrl
  have hvp : -1 ≤ f ∧ f ≤ 1073741824 := by
    simp only [validJ, Bool.and_eq_true, decide_eq_true_eq] at hval
    exact ⟨hval.2.2.2.1, hval.2.2.2.2⟩
  have HPD := Lib.hid (show putD l d f (stampL p vs) = if leftF f (recL (stampL p vs)) = 0 then min d (wholeR (recordsL l)) else (l.take (wholeR (recordsL l)) ++ wrote f (recL (stampL p vs))).length from rfl)
  have HPE := Lib.hid (show putE f (stampL p vs) = if leftF f (recL (stampL p vs)) = 0 then 19 else 0 from rfl)
  have HCL := Lib.hid (crash_left (f := f) (b := recL (stampL p vs)))
  have HLL := Lib.hid (show appL l f (stampL p vs) = l.take (wholeR (recordsL l)) ++ wrote f (recL (stampL p vs)) from rfl)
  generalize putD l d f (stampL p vs) = pd at *
  generalize putE f (stampL p vs) = pe at *
  generalize appL l f (stampL p vs) = LL at *
  have HTR := Lib.hid (fun W => trimmed_calls a c l d f W)
  have HTK := Lib.hid (hv.take (wholeR (recordsL l)) hWL)
  generalize hT : wholeR (recordsL l) = T at *
  have HT := Lib.hid hT
  generalize hrc : recL (stampL p vs) = R at *
  have HR := Lib.hid hrc
  generalize hlf : leftF f R = lf at *
  have HLF := Lib.hid hlf
  clear hlf
  have HRL := Lib.hid hrl
  clear hT hrc hrl
  generalize hdm : min d (T : Int) = dm at *
  have HVAL := Lib.hid hval
  have HVS := Lib.hid hvs
  have HANY := Lib.hid hany
  have HV := Lib.hid hv
  have HSB := Lib.hid (stampL_byte (p := p) (v := vs) ⟨hp0, by omega⟩ (by omega))
  have HSL := Lib.hid (stampL_len p vs)
  obtain ⟨va, vc, rfl, _, hvx⟩ := hvs
  have HVX := Lib.hid hvx
  have HCK := Lib.hid hE
  generalize hqv : vs.length = q at *
  have HQ := Lib.hid hqv
  have b1 : decide (p < 0) = false := by simp; omega
  have b2 : decide (8 ≤ p) = false := by simp; omega
  have b3 : decide (8 < (q : Int)) = false := by simp; omega
  have hcp : IntKind.u8.wrap p = p := by rw [IntKind.wrap_u8]; omega
  have hcq : IntKind.u8.wrap (q : Int) = q := by rw [IntKind.wrap_u8]; omega
  clear hvx hany hv hval hE hqv
  have e0 : (E != 0) = false := by simpa using h0
  clear h0
  go_enter Try.func29, Try.ntmps29
  go_wp2_with fail
  refine (valid_calls _ _ _ _ _ _ (by omega)).mono ?_
  rw [HVAL.out]
  rintro e w1 ⟨rfl, hE1⟩
  obtain ⟨hb1, hb2, hb3, hb4⟩ := two_boxes hE1
  have HE1 := Lib.hid hE1
  have HB1 := Lib.hid hb1
  have HB2 := Lib.hid hb2
  have HB4 := Lib.hid hb4
  clear hb1 hb2 hb4 hE1
  have c0 := cell_of HB1.out 0
  have c1 := cell_of HB1.out 1
  have c2 := cell_of HB1.out 2
  simp only [List.getElem?_toArray, List.getElem?_cons_zero, List.getElem?_cons_succ] at c0 c1 c2
  have r0 := cell_of HB2.out 0
  have r1 := cell_of HB2.out 1
  have r2 := cell_of HB2.out 2
  simp only [List.getElem?_toArray, List.getElem?_cons_zero, List.getElem?_cons_succ] at r0 r1 r2
  have q0 := free_of HB2.out 0
  have q1 := free_of HB2.out 1
  have q2 := free_of HB2.out 2
  go_wp2_with fail
  refine (containsFunc_int 53 #[] enters_53 outS _ vs w1 (HVS.out.ext HB4.out) (by first | (rw [HQ.out]; omega) | omega) (fun x hx W hW => by simpa using put1_calls x W)).mono ?_
  rw [HANY.out]
  rintro e w2 ⟨rfl, hE2⟩
  obtain ⟨hb1, hb2, hb5, hb4⟩ := two_boxes (HE1.out.trans' hE2)
  clear c0 c1 c2 r0 r1 r2 q0 q1 q2 HB1 HB2 HB4
  have HE1 := Lib.hid (HE1.out.trans' hE2)
  have HB1 := Lib.hid hb1
  have HB2 := Lib.hid hb2
  have HB4 := Lib.hid hb4
  clear hb1 hb2 hb4 hE2
  have c0 := cell_of HB1.out 0
  have c1 := cell_of HB1.out 1
  have c2 := cell_of HB1.out 2
  simp only [List.getElem?_toArray, List.getElem?_cons_zero, List.getElem?_cons_succ] at c0 c1 c2
  have r0 := cell_of HB2.out 0
  have r1 := cell_of HB2.out 1
  have r2 := cell_of HB2.out 2
  simp only [List.getElem?_toArray, List.getElem?_cons_zero, List.getElem?_cons_succ] at r0 r1 r2
  have q0 := free_of HB2.out 0
  have q1 := free_of HB2.out 1
  have q2 := free_of HB2.out 2
  go_wp2
  go_loopg [8, 41] q (fun m s8 s41 wr => ∃ k : Nat, k ≤ q ∧ q - k ≤ m ∧ s41 = .int .i64 k ∧ Aside (Row wr w2.heap.size 5 1 s8 (2 + 8 * k) ((stampTo p vs k).map (Value.int .u8))) ∧ Aside (Ext w2 wr))
  case atStart =>
    refine ⟨0, Nat.zero_le _, by omega, rfl, (show Row _ _ _ _ _ _ _ from ⟨by simp [stampTo], .inr ⟨w2.heap.size, 0, 2, #[.int .u8 p, .int .u8 q], rfl, Nat.le_refl _, heap_alloc_new _ _, by omega, by decide, by simp, ?_⟩⟩), (show Ext _ _ from (by repeat (first | refine Ext.st ?_ (by first | exact Nat.le_refl _ | exact Nat.le_succ _ | assumption | omega) _ | refine Ext.al ?_ _ | refine Ext.dr ?_ | refine Ext.drN ?_ _ | exact Ext.rf _)))⟩
    have := HQ.out
    simp [stampTo, this]
  case round =>
    obtain ⟨k, hk, hm, rfl, HR8, HXR⟩ := hrel
    by_cases hlt : k < q
    · have hltz : (k : Int) < (q : Int) := by omega
      obtain ⟨b, off, rfl, hb, hc⟩ := HVX.out (by intro e; have := HQ.out; simp [e] at this; omega)
      have hcell : wr.cell? ⟨b, off + k, none⟩ = some (.int .i64 vs[k]!) := (HB4.out.trans' HXR.out).cl (hc k hlt)
      obtain ⟨x0, x1⟩ := outS_in HANY.out k (by rw [HQ.out]; exact hlt)
      have ST := Lib.hid (stampTo_succ p vs k (by rw [HQ.out]; exact hlt))
      have SL := Lib.hid (stampTo_len p vs k (by rw [HQ.out]; exact hk))
      clear hc
      generalize vs[k]! = x at *
      have hconv : IntKind.u64.wrap x = x := by rw [IntKind.wrap_u64]; omega
      go_wp2_with fail
      refine (number_calls _ (stampTo p vs k) x 8 w2.heap.size wr (by rw [SL.out]; exact HR8.out) HXR.out.sz (by rw [SL.out]; omega) (by omega) x0 (by omega)).mono ?_
      rintro e w' ⟨v', rfl, hR', hB'⟩
      rw [SL.out] at hR'
      have HR' := Lib.hid hR'
      have HX' := Lib.hid (show Ext w2 w' from Below.trans HXR.out hB')
      clear hR' hB'
      go_wp2
      go_roundg (q - (k + 1))
      case measure => omega
      case rel =>
        refine ⟨k + 1, by omega, by omega, by go_num, (show Row _ _ _ _ _ _ _ from ?_), HX'.out⟩
        rw [ST.out, show 2 + 8 * (k + 1) = 2 + 8 * k + 8 from by omega]
        exact HR'.out
    · have hltz : ¬ (k : Int) < (q : Int) := by omega
      obtain rfl : k = q := by omega
      have hR8 := HR8.out
      rw [show stampTo p vs k = stampL p vs from by rw [← HQ.out]; exact stampTo_all p vs] at hR8
      obtain ⟨ba, bm, rfl, _, hsh⟩ := hR8.any
      clear hsh
      have HBR := Lib.hid (hR8.bys HSB.out)
      have HX2 := Lib.hid HXR.out
      obtain ⟨hb1, hb2, hb5, hb4⟩ := two_boxes (HE1.out.trans' HX2.out)
      clear c0 c1 c2 r0 r1 r2 q0 q1 q2 HB1 HB2 HB4 hR8
      have HB1 := Lib.hid hb1
      have HB2 := Lib.hid hb2
      have HB4 := Lib.hid hb4
      clear hb1 hb2 hb4
      have c0 := cell_of HB1.out 0
      have c1 := cell_of HB1.out 1
      have c2 := cell_of HB1.out 2
      simp only [List.getElem?_toArray, List.getElem?_cons_zero, List.getElem?_cons_succ] at c0 c1 c2
      have r0 := cell_of HB2.out 0
      have r1 := cell_of HB2.out 1
      have r2 := cell_of HB2.out 2
      simp only [List.getElem?_toArray, List.getElem?_cons_zero, List.getElem?_cons_succ] at r0 r1 r2
      have q0 := free_of HB2.out 0
      have q1 := free_of HB2.out 1
      have q2 := free_of HB2.out 2
      go_wp2_with fail
      refine (check_calls a c l d f ba (2 + 8 * k) bm wr (HV.out.ext HB4.out) (by omega) (by omega)).mono ?_
      rw [HCK.out]
      rintro e w3 ⟨rfl, hE3⟩
      obtain ⟨hb1, hb2, hb6, hb4⟩ := two_boxes ((HE1.out.trans' HX2.out).trans' hE3)
      have HBR3 := Lib.hid (HBR.out.ext hE3)
      have HE3 := Lib.hid hE3
      clear c0 c1 c2 r0 r1 r2 q0 q1 q2 HB1 HB2 HB4
      have HB1 := Lib.hid hb1
      have HB2 := Lib.hid hb2
      have HB4 := Lib.hid hb4
      clear hb1 hb2 hb4 hE3
      have c0 := cell_of HB1.out 0
      have c1 := cell_of HB1.out 1
      have c2 := cell_of HB1.out 2
      simp only [List.getElem?_toArray, List.getElem?_cons_zero, List.getElem?_cons_succ] at c0 c1 c2
      have r0 := cell_of HB2.out 0
      have r1 := cell_of HB2.out 1
      have r2 := cell_of HB2.out 2
      simp only [List.getElem?_toArray, List.getElem?_cons_zero, List.getElem?_cons_succ] at r0 r1 r2
      have q0 := free_of HB2.out 0
      have q1 := free_of HB2.out 1
      have q2 := free_of HB2.out 2
      go_wp2_with fail
      refine (HTR.out w3 (HV.out.ext HB4.out) hn).mono ?_
      rintro e w4 ⟨rfl, hE4⟩
      have HE4 := Lib.hid hE4
      clear hE4
      go_wp2_with fail
      refine (open_calls _ (l.take T) _ _ w4 (HTK.out.ext (HB4.out.trans' HE4.out)) (by rw [List.length_take]; omega)).mono ?_
      rintro e w5 ⟨g, u5, rfl, hW5, hE5⟩
      have HW5 := Lib.hid hW5
      have HE5 := Lib.hid hE5
      clear hW5 hE5
      go_wp2_with fail
      refine (record_calls _ (stampL p vs) _ ((HBR3.out.ext HE4.out).ext HE5.out) (by rw [HSL.out]; omega)).mono ?_
      rintro e w6 ⟨v6, rfl, hR6, hE6⟩
      have HR6 := Lib.hid hR6
      have HE6 := Lib.hid hE6
      clear hR6 hE6
      go_wp2_with fail
      have hby6 : Bys w6 v6 R := by
        have := HR6.out.bys (rec_byte HSB.out)
        rw [HR.out] at this; exact this
      refine (write_calls g w4.heap.size u5 (l.take T) _ f v6 R w6 (HW5.out.ext HE6.out) (by have := HE5.out.sz; have := HE6.out.sz; omega) hby6 (by have := HRL.out; omega) (by rw [List.length_take]; omega) hvp.1 hvp.2 ?_).mono ?_
      · intro k hk
        have h1 := (HR6.out.lt k hk).1
        have h2 := (Array.getElem?_eq_some_iff.1 HW5.out.2.1).1
        refine ⟨by omega, fun h => ?_⟩
        have := (HW5.out.2.2.1.lt k h).2
        omega
      rintro e w7 ⟨⟨x, rfl⟩, ⟨u7, hW7⟩, hB7⟩
      have HX7 := Lib.hid (show Ext w4 w7 from Below.trans (HE5.out.trans' HE6.out) hB7)
      have HW7 := Lib.hid hW7
      have hcell7 := (writer_facts hW7).2.2.2.1
      clear hW7 hB7 hby6
      cases hcr : crashF f R with
      | true =>
        rw [hcr] at hcell7
        have HCR := Lib.hid hcr; clear hcr
        go_wp2_with fail
        have HX8 := HX7
        have hw8 := HW7.out
        have hl0 : lf = 0 := HCL.out HCR.out
        have hpd : pd = dm := by rw [HPD.out, if_pos hl0]
        have hpe : pe = 19 := by rw [HPE.out, if_pos hl0]
        rw [HCR.out, HLF.out, ← hpd] at hw8
        have HW8 := Lib.hid hw8
        clear hw8 hl0 hpd
        refine (result_calls g _ u7 _ _ _ _ w7 HW8.out).mono ?_
        rw [show (if true = true then (19 : Int) else 0) = pe from by rw [hpe]; rfl]
        clear hpe
        rintro e w9 ⟨rfl, hE9⟩
        obtain ⟨hb1, hb2, hb7, hb4⟩ := two_boxes (((HE1.out.trans' HX2.out).trans' HE3.out).trans' (HE4.out.trans' (HX8.out.trans' hE9)))
        have hrow := HW8.out.2.2.1.ext hE9
        rw [← HLL.out] at hrow
        obtain ⟨ua, uc, rfl, _, hsh⟩ := hrow.any
        have HROW := Lib.hid hrow
        have HB2' := Lib.hid hb2
        have HB4' := Lib.hid hb4
        have hs4 := (HB4.out.trans' HE4.out).sz
        have hs5 := HE4.out.sz
        clear hrow hsh hb1 hb2 hb4 hE9 r0 r1 r2 q0 q1 q2
        have r0 := cell_of HB2'.out 0
        have r1 := cell_of HB2'.out 1
        have r2 := cell_of HB2'.out 2
        simp only [List.getElem?_toArray, List.getElem?_cons_zero, List.getElem?_cons_succ] at r0 r1 r2
        have q0 := free_of HB2'.out 0
        have q1 := free_of HB2'.out 1
        have q2 := free_of HB2'.out 2
        go_wp2
        exact bodyPost_ret (v := .tuple #[.agg #[.slice ua LL.length uc, .int .i64 pd, .int .i64 lf], .int .i64 pe]) (by simp [results, Try.results29, go_sem, r0, r1, r2]) rfl ⟨_, rfl, (Row.st3 (base := w4.heap.size) (g := w.heap.size + 1) HROW.out (by omega) _ _ _).mono (by omega), (by repeat (first | refine Ext.st ?_ (by first | exact Nat.le_refl _ | exact Nat.le_succ _ | assumption | omega) _ | refine Ext.al ?_ _ | refine Ext.dr ?_ | refine Ext.drN ?_ _ | exact HB4'.out))⟩
      | false =>
        rw [hcr] at hcell7
        have HCR := Lib.hid hcr; clear hcr
        go_wp2_with fail
        have hw7 := HW7.out
        rw [HCR.out, HLF.out] at hw7
        refine (sync_calls g _ u7 _ _ _ w7 hw7).mono ?_
        rintro e w8 ⟨⟨x8, rfl⟩, hw8, hB8⟩
        have HX8 := Lib.hid (show Ext w4 w8 from Below.trans HX7.out hB8)
        rw [← HPD.out] at hw8
        have HW8 := Lib.hid hw8
        clear hw8 hw7 hB8
        go_wp2_with fail
        refine (result_calls g _ u7 _ _ _ _ w8 HW8.out).mono ?_
        rw [show (if decide (lf = 0) = true then (19 : Int) else 0) = pe from by rw [HPE.out]; simp only [decide_eq_true_eq]]
        rintro e w9 ⟨rfl, hE9⟩
        obtain ⟨hb1, hb2, hb7, hb4⟩ := two_boxes (((HE1.out.trans' HX2.out).trans' HE3.out).trans' (HE4.out.trans' (HX8.out.trans' hE9)))
        have hrow := HW8.out.2.2.1.ext hE9
        rw [← HLL.out] at hrow
        obtain ⟨ua, uc, rfl, _, hsh⟩ := hrow.any
        have HROW := Lib.hid hrow
        have HB2' := Lib.hid hb2
        have HB4' := Lib.hid hb4
        have hs4 := (HB4.out.trans' HE4.out).sz
        have hs5 := HE4.out.sz
        clear hrow hsh hb1 hb2 hb4 hE9 r0 r1 r2 q0 q1 q2
        have r0 := cell_of HB2'.out 0
        have r1 := cell_of HB2'.out 1
        have r2 := cell_of HB2'.out 2
        simp only [List.getElem?_toArray, List.getElem?_cons_zero, List.getElem?_cons_succ] at r0 r1 r2
        have q0 := free_of HB2'.out 0
        have q1 := free_of HB2'.out 1
        have q2 := free_of HB2'.out 2
        go_wp2
        exact bodyPost_ret (v := .tuple #[.agg #[.slice ua LL.length uc, .int .i64 pd, .int .i64 lf], .int .i64 pe]) (by simp [results, Try.results29, go_sem, r0, r1, r2]) rfl ⟨_, rfl, (Row.st3 (base := w4.heap.size) (g := w.heap.size + 1) HROW.out (by omega) _ _ _).mono (by omega), (by repeat (first | refine Ext.st ?_ (by first | exact Nat.le_refl _ | exact Nat.le_succ _ | assumption | omega) _ | refine Ext.al ?_ _ | refine Ext.dr ?_ | refine Ext.drN ?_ _ | exact HB4'.out))⟩

end Go.Proofs.Ytggofkaakccoeaa
