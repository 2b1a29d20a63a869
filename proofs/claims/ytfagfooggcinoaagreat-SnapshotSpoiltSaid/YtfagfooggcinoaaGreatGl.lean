import Derived.Test.YtfagfooggcinoaaGreatGb
import Derived.Test.YtfagfooggcinoaaGreatJa
import Derived.Test.YtfagfooggcinoaaGreatProg
import Derived.Test.YtfagfooggcinoaaGreatGd
import Derived.Test.YtfagfooggcinoaaGreatGk
import Derived.Test.YtfagfooggcinoaaGreatGf
import Derived.Test.YtfagfooggcinoaaGreatGi
import Derived.Test.YtfagfooggcinoaaGreatGh
import Derived.Test.YtfagfooggcinoaaGreatGj
import Derived.BigQuiet
import Derived.Deep.QuietTactic
import Derived.Deep.LoopGhost
import Derived.Shelf.Abstract
import Derived.Deep.DeepCutAuto
namespace Go.Proofs.YtfagfooggcinoaaGreat
set_option linter.unusedVariables false
theorem nodup_leV {α : Type} [DecidableEq α] : ∀ {l m : List α}, l.Nodup → (∀ x ∈ l, x ∈ m) → l.length ≤ m.length := by
 intro l
 induction l with
 | nil => intro m _ _; exact Nat.zero_le _
 | cons a l ih =>
   intro m hn hs
   rw [List.nodup_cons] at hn
   have ha := hs a (by simp)
   have := ih (m := m.erase a) hn.2 fun x hx => (List.mem_erase_of_ne (by rintro rfl; exact hn.1 hx)).2 (hs x (by simp [hx]))
   rw [List.length_erase_of_mem ha] at this
   have hp := List.length_pos_of_mem ha
   rw [List.length_cons]; omega
def msX (l : List Mk) (i j x : Nat) : List Int := (l.take i).flatMap (fun m => m.chan.flatten) ++ ((l[i]!.chan.take j).flatten ++ (l[i]!.chan[j]!).take x)
section
variable {l : List Mk} {i j x : Nat}
theorem take_succ_get {α : Type} [Inhabited α] {l : List α} {k : Nat} (hk : k < l.length) : l.take (k + 1) = l.take k ++ [l[k]!] := by
 rw [List.take_add_one, List.getElem?_eq_getElem hk, getElem!_pos l k hk]; rfl
theorem drop_get {α : Type} [Inhabited α] {l : List α} {k : Nat} (hk : k < l.length) : l.drop k = l[k]! :: l.drop (k + 1) := by
 rw [List.drop_eq_getElem_cons hk, getElem!_pos l k hk]
theorem msX_zero : msX l 0 0 0 = [] := by simp [msX]
theorem msX_step (hx : x < (l[i]!.chan[j]!).length) : msX l i j (x + 1) = msX l i j x ++ [(l[i]!.chan[j]!)[x]!] := by
 unfold msX
 rw [take_succ_get hx, ← List.append_assoc, ← List.append_assoc, ← List.append_assoc]
theorem msX_nextJ (hj : j < l[i]!.chan.length) : msX l i j (l[i]!.chan[j]!).length = msX l i (j + 1) 0 := by
 unfold msX
 rw [take_succ_get hj, List.take_length, List.flatten_append]; simp
theorem msX_nextI (hi : i < l.length) : msX l i l[i]!.chan.length 0 = msX l (i + 1) 0 0 := by
 unfold msX
 rw [take_succ_get hi, List.take_length]; simp
theorem msX_all : msX l l.length 0 0 = allMsgs l := by
 unfold msX allMsgs
 rw [List.take_length]; simp
theorem msX_pre (hi : i < l.length) (hj : j < l[i]!.chan.length) : ∃ r, allMsgs l = msX l i j x ++ r := by
 have h1 : allMsgs l = (l.take i).flatMap (fun m => m.chan.flatten) ++ (l[i]!.chan.flatten ++ (l.drop (i + 1)).flatMap (fun m => m.chan.flatten)) := by
  conv => lhs; unfold allMsgs; rw [← List.take_append_drop i l, drop_get hi]
  rw [List.flatMap_append, List.flatMap_cons]
 have h2 : l[i]!.chan.flatten = (l[i]!.chan.take j).flatten ++ (l[i]!.chan[j]! ++ (l[i]!.chan.drop (j + 1)).flatten) := by
  conv => lhs; rw [← List.take_append_drop j l[i]!.chan, drop_get hj]
  rw [List.flatten_append, List.flatten_cons]
 have h3 : l[i]!.chan[j]! = (l[i]!.chan[j]!).take x ++ (l[i]!.chan[j]!).drop x := (List.take_append_drop _ _).symm
 refine ⟨(l[i]!.chan[j]!).drop x ++ (l[i]!.chan.drop (j + 1)).flatten ++ (l.drop (i + 1)).flatMap (fun m => m.chan.flatten), ?_⟩
 unfold msX
 rw [h1, h2]
 conv => lhs; rw [h3]
 simp only [List.append_assoc]
def OkMs (ms : List Int) : Prop := ms.Nodup ∧ ∀ y ∈ ms, 0 ≤ y ∧ y ≤ 199
theorem OkMs.nil : OkMs [] := ⟨List.nodup_nil, fun y hy => by cases hy⟩
theorem OkMs.snoc {ms : List Int} {y : Int} (h : OkMs ms) (h0 : 0 ≤ y) (h1 : y ≤ 199) (hn : y ∉ ms) : OkMs (ms ++ [y]) := by
 refine ⟨?_, fun z hz => ?_⟩
 ·rw [List.nodup_append]
  refine ⟨h.1, by simp, fun a ha b hb => ?_⟩
  rw [List.mem_singleton] at hb
  subst hb
  rintro rfl
  exact hn ha
 ·rcases List.mem_append.1 hz with hz | hz
  ·exact h.2 z hz
  ·rw [List.mem_singleton] at hz; subst hz; exact ⟨h0, h1⟩
theorem OkMs.len {ms : List Int} (h : OkMs ms) : ms.length ≤ 200 := by
 have h2 := nodup_leV (l := ms) (m := (List.range 200).map fun (k : Nat) => (k : Int)) h.1 fun y hy => by
  have := h.2 y hy
  exact List.mem_map.2 ⟨y.toNat, List.mem_range.2 (by omega), by omega⟩
 simpa using h2
theorem validK_mark (hi : i < l.length) (h : markB l.length i l[i]! = false) : validK l = false := by
 unfold validK
 have : (List.range l.length).all (fun i => markB l.length i l[i]!) = false := by
  rw [List.all_eq_false]
  exact ⟨i, List.mem_range.2 hi, by rw [h]; simp⟩
 rw [this]; simp
theorem validK_len (h : ¬ (1 ≤ l.length ∧ l.length ≤ 8)) : validK l = false := by
 unfold validK
 by_cases h1 : 1 ≤ l.length
 ·rw [decide_eq_false (show ¬ l.length ≤ 8 by omega)]; simp
 ·rw [decide_eq_false h1]; simp
theorem validK_out {r : List Int} {ms : List Int} {y : Int} (h : allMsgs l = ms ++ [y] ++ r) (hy : ¬ (0 ≤ y ∧ y ≤ 199)) : validK l = false := by
 unfold validK
 have : ((allMsgs l).all fun x => decide (0 ≤ x) && decide (x ≤ 199)) = false := by
  rw [List.all_eq_false]
  refine ⟨y, by rw [h]; simp, ?_⟩
  simp only [Bool.and_eq_true, decide_eq_true_eq]; exact hy
 rw [this]; simp
theorem validK_twice {r : List Int} {ms : List Int} {y : Int} (h : allMsgs l = ms ++ [y] ++ r) (hy : y ∈ ms) : validK l = false := by
 unfold validK
 have : ¬ (allMsgs l).Nodup := by
  rw [h]
  intro hn
  have := (List.nodup_append.1 hn).1
  have := (List.nodup_append.1 this).2.2 y hy y (by simp)
  exact this rfl
 rw [decide_eq_false this]; simp
theorem validK_yes (h1 : 1 ≤ l.length) (h2 : l.length ≤ 8) (h : ∀ i, i < l.length → markB l.length i l[i]! = true) (hm : OkMs (allMsgs l)) : validK l = true := by
 unfold validK
 rw [decide_eq_true h1, decide_eq_true h2, decide_eq_true hm.1, show (List.range l.length).all (fun i => markB l.length i l[i]!) = true from by rw [List.all_eq_true]; exact fun i hi => h i (List.mem_range.1 hi),
  show ((allMsgs l).all fun x => decide (0 ≤ x) && decide (x ≤ 199)) = true from by rw [List.all_eq_true]; exact fun y hy => by have := hm.2 y hy; simp; exact this]
 rfl
def seenF (ms : List Int) : List Bool := (List.range 200).map fun (y : Nat) => decide ((y : Int) ∈ ms)
theorem seenF_len (ms : List Int) : (seenF ms).length = 200 := by simp [seenF]
theorem seenF_at {ms : List Int} {k : Nat} (hk : k < 200) : (seenF ms)[k]! = decide ((k : Int) ∈ ms) := by
 rw [getElem!_pos _ k (by rw [seenF_len]; exact hk)]; simp [seenF]
theorem seenF_nil {k : Nat} (hk : k < 200) : (seenF [])[k]! = false := by rw [seenF_at hk]; simp
theorem seenF_snoc {ms : List Int} {y : Int} (h0 : 0 ≤ y) (h1 : y ≤ 199) : (seenF ms).set y.toNat true = seenF (ms ++ [y]) :=
 listG_ext (by simp [seenF]) fun k hk => by
  have hk2 : k < 200 := by simpa [seenF] using hk
  by_cases e : k = y.toNat
  ·subst e
   rw [setG_at (by rw [seenF_len]; exact hk2), seenF_at hk2, show ((y.toNat : Nat) : Int) = y by omega]; simp
  ·rw [setG_ne e, seenF_at hk2, seenF_at hk2]
   have : ((k : Int) ∈ ms ++ [y]) = ((k : Int) ∈ ms) := by
    rw [eq_iff_iff, List.mem_append, List.mem_singleton]
    exact ⟨fun h => h.resolve_right (by omega), .inl⟩
   simp only [this]
end
end Go.Proofs.YtfagfooggcinoaaGreat
namespace Go.Proofs.YtfagfooggcinoaaGreat
open Go.RowKit
set_option linter.unusedVariables false
theorem zero_boolV : ∀ w, (zeroValue 4).run Tryz.prog w = .ok (.bool false) w := fun w => by kernel_rfl
set_option maxHeartbeats 400000 in
theorem indexYes_calls (v : Value) (l : List Bool) (w : World) (hv : Bools w v l) (hn : l.length ≤ 1000000) :
  Calls Tryz.prog 105 #[v, .bool true] w fun e w' => e = .returned (.int .i64 (firstAt (fun y => y) l)) ∧ w = w' := by
 have HV := Lib.hid hv
 obtain ⟨_, a, c, rfl, hlc, hz⟩ := hv
 clear hz
 generalize hln : l.length = n at *
 have HL := Lib.hid hln; clear hln
 go_enter Tryz.func105, Tryz.ntmps105
 go_wp2
 go_loopg [5, 8] n (fun m _ s8 wr => ∃ k : Nat, k ≤ n ∧ n - k ≤ m ∧ s8 = .int .i64 k ∧ wr = w ∧ Aside (∀ j, j < k → (fun y => y) l[j]! = false))
 case atStart => exact ⟨0, Nat.zero_le _, by omega, rfl, rfl, (fun j hj => absurd hj (Nat.not_lt_zero _))⟩
 case round =>
  obtain ⟨k, hk, hm, rfl, rfl, A⟩ := hrel
  by_cases hlt : k < n
  ·obtain ⟨b, off, rfl, _, _, hcell⟩ := bool_at HV.out k (by rw [HL.out]; exact hlt)
   have hltz : (k : Int) < (n : Int) := by omega
   generalize hy : l[k]! = y at hcell
   have B := Lib.hid hy
   clear hy
   cases y with
   | true =>
     go_wp2
     go_ret
     exact ⟨by rw [firstAt_hit (fun y => y) l k (by rw [HL.out]; omega) (by rw [B.out]) A.out]; rfl, rfl⟩
   | false =>
     go_wp2
     go_roundg (n - (k + 1))
     case measure => omega
     case rel =>
      refine ⟨k + 1, by omega, by omega, by go_num, rfl, (show Aside _ from fun j hj => ?_)⟩
      by_cases e : j = k
      ·subst e
       rw [B.out]
      ·exact A.out j (by omega)
  ·have hltz : ¬ (k : Int) < (n : Int) := by omega
   go_wp2
   go_ret
   exact ⟨by rw [firstAt_miss (fun y => y) l (fun j hj => A.out j (by rw [HL.out] at hj; omega))]; rfl, rfl⟩
set_option maxHeartbeats 400000 in
theorem containsYes_calls (v : Value) (l : List Bool) (w : World) (hv : Bools w v l) (hn : l.length ≤ 1000000) :
  Calls Tryz.prog 70 #[v, .bool true] w fun e w' => e = .returned (.bool (l.any fun y => y)) ∧ w' = w := by
 have HI := Lib.hid (indexYes_calls v l w hv hn)
 obtain ⟨_, a, c, rfl, hlc, hz⟩ := hv
 clear hz
 rw [← firstAt_any]
 go_enter Tryz.func70, Tryz.ntmps70
 go_wp2_with (go_at_call 105; refine HI.out.mono ?_; rintro e w' ⟨rfl, rfl⟩)
 go_ret
 exact ⟨rfl, rfl⟩
theorem markB_cnt {n i : Nat} {m : Mk} (h : ¬ (-1 ≤ m.cnt ∧ m.cnt ≤ 64 ∧ m.closed.length = n ∧ m.chan.length = n)) : markB n i m = false := by
 unfold markB
 by_cases h1 : -1 ≤ m.cnt
 ·by_cases h2 : m.cnt ≤ 64
  ·by_cases h3 : m.closed.length = n
   ·rw [decide_eq_false (show ¬ m.chan.length = n from fun h4 => h ⟨h1, h2, h3, h4⟩)]; simp
   ·rw [decide_eq_false h3]; simp
  ·rw [decide_eq_false h2]; simp
 ·rw [decide_eq_false h1]; simp
theorem markB_eq {n i : Nat} {m : Mk} (h1 : -1 ≤ m.cnt) (h2 : m.cnt ≤ 64) (h3 : m.closed.length = n) (h4 : m.chan.length = n) :
  markB n i m = if m.cnt = -1 then !(m.closed.any fun y => y) && m.chan.all (fun c => c.isEmpty) else m.closed[i]! && m.chan[i]!.isEmpty := by
 unfold markB
 rw [decide_eq_true h1, decide_eq_true h2, decide_eq_true h3, decide_eq_true h4]
 simp only [Bool.true_and]
 have : m.closed.all (fun b => !b) = !(m.closed.any fun y => y) := by simp [List.not_any_eq_all_not]
 rw [this]
theorem chan_full {m : Mk} {j x : Nat} (hj : j < m.chan.length) (hx : x < (m.chan[j]!).length) : m.chan.all (fun c => c.isEmpty) = false := by
 rw [List.all_eq_false]
 refine ⟨m.chan[j]!, ?_, ?_⟩
 ·rw [getElem!_pos m.chan j hj]; exact List.getElem_mem hj
 ·intro h
  rw [List.isEmpty_iff] at h
  rw [h] at hx
  exact absurd hx (Nat.not_lt_zero _)
theorem chan_none {m : Mk} (h : ∀ j, j < m.chan.length → (m.chan[j]!).length = 0) : m.chan.all (fun c => c.isEmpty) = true := by
 rw [List.all_eq_true]
 intro c hc
 obtain ⟨j, hj, rfl⟩ := List.getElem_of_mem hc
 have := h j hj
 rw [getElem!_pos m.chan j hj] at this
 rw [List.isEmpty_iff]; exact List.eq_nil_of_length_eq_zero this
def VkI (w wr : World) (mb : Nat) (ms : List Int) : Prop := Ext w wr ∧ (∃ mm, mm ≤ ms.length ∧ BMap wr Tryz.prog 3 4 mb mm 200 (seenF ms)) ∧ OkMs ms
theorem VkI.al {w wr : World} {mb : Nat} {ms : List Int} (h : VkI w wr mb ms) (o : Obj) : VkI w (wr.alloc o) mb ms := by
 obtain ⟨h1, ⟨mm, h2, h3⟩, h4⟩ := h
 exact ⟨h1.al o, ⟨mm, h2, h3.ext ((Ext.rf wr).al o)⟩, h4⟩
set_option maxHeartbeats 8000000 in
set_option maxRecDepth 100000 in
theorem snapValid_calls (v : Value) (l : List Mk) (w : World) (h : Sl RMk 3 w v l) (hl : LightM l) :
  Calls Tryz.prog 27 #[v] w fun e w' => e = .returned (.bool (validK l)) ∧ Ext w w' := by
 have hmm := @run_makeMap Tryz.prog
 have HS := Lib.hid h
 have HLI := Lib.hid hl
 have hl1 := hl.1
 obtain ⟨va, vcap, rfl, hvc⟩ := h.sh
 clear h hl
 by_cases hn8 : 1 ≤ l.length ∧ l.length ≤ 8
 case neg =>
  have HA := Lib.hid (validK_len hn8)
  by_cases hn1 : 1 ≤ l.length
  ·have d1 : decide ((l.length : Int) < 1) = false := decide_eq_false (by omega)
   have d2 : decide (8 < (l.length : Int)) = true := decide_eq_true (by omega)
   have d3 : decide (8 < l.length) = true := decide_eq_true (by omega)
   generalize l.length = n at *
   clear hn8 hn1
   go_enter Tryz.func27, Tryz.ntmps27
   go_wp2
   go_ret
   exact ⟨by rw [HA.out]; rfl, Ext.rf _⟩
  ·have hz : l.length = 0 := by omega
   rw [hz]
   clear hn8 hn1 hz hvc hl1
   go_enter Tryz.func27, Tryz.ntmps27
   go_wp2
   go_ret
   exact ⟨by rw [HA.out]; rfl, Ext.rf _⟩
 case pos =>
  have HMB := Lib.hid (fun i hi => validK_mark (l := l) (i := i) hi)
  obtain ⟨n, hn⟩ : ∃ n, l.length = n := ⟨_, rfl⟩
  have HN := Lib.hid hn
  have h1 : 1 ≤ n := by omega
  have h8 : n ≤ 8 := by omega
  have d1 : decide ((n : Int) < 1) = false := decide_eq_false (by omega)
  have d2 : decide (8 < (n : Int)) = false := decide_eq_false (by omega)
  have d3 : decide (8 < n) = false := decide_eq_false (by omega)
  have d4 : decide (n = 0) = false := decide_eq_false (by omega)
  rw [hn] at hl1 hvc ⊢
  clear hn8 hn
  go_enter Tryz.func27, Tryz.ntmps27
  go_wp2
  have HI0 : Hid (VkI w (w.alloc (.map #[] 0)) w.heap.size (msX l 0 0 0)) := Lib.hid ⟨(Ext.rf w).al _, ⟨0, Nat.zero_le _, BMap.made w (fun i hi => by rw [msX_zero]; exact seenF_nil hi)⟩, by rw [msX_zero]; exact OkMs.nil⟩
  generalize hmb : w.heap.size = mb at *
  have HMBE := Lib.hid hmb
  clear hmb hmm
  go_loopg [5, 6, 8, 10, 22] n (fun g s5 s6 s8 s10 s22 wr => ∃ i : Nat, i ≤ n ∧ n - i ≤ g ∧ s22 = .int .i64 i ∧ Aside (VkI w wr mb (msX l i 0 0)) ∧ Aside (∀ a, a < i → markB n a l[a]! = true))
  case atStart => exact ⟨0, Nat.zero_le _, by omega, rfl, (show VkI _ _ _ _ from HI0.out), (fun a ha => absurd ha (Nat.not_lt_zero _))⟩
  case round =>
   obtain ⟨i, hi, hgi, rfl, HI, HM⟩ := hrel
   clear HI0
   by_cases hlt : i < n
   case neg =>
    have hiz : ¬ (i : Int) < (n : Int) := by omega
    have HA : Hid (validK l = true) := Lib.hid (validK_yes (by rw [HN.out]; exact h1) (by rw [HN.out]; exact h8) (fun a ha => by rw [HN.out] at ha ⊢; exact HM.out a (by omega)) (by
     have h := HI.out.2.2
     rwa [show i = l.length by rw [HN.out]; omega, msX_all] at h))
    go_wp2
    go_ret
    exact ⟨by rw [HA.out]; rfl, HI.out.1⟩
   case pos =>
    have hiz : (i : Int) < (n : Int) := by omega
    have hiz0 : (0 : Int) ≤ (i : Int) := by omega
    have HIL := Lib.hid (show i < l.length by rw [HN.out]; exact hlt)
    have HB := Lib.hid (fun h => HMB.out i HIL.out (by rw [HN.out]; exact h))
    obtain ⟨B, O, C, ua, uc, y, hve, hlC, hBw, p0, p1, p2, hb, hs⟩ := mark_at HS.out i HIL.out
    simp only [Value.slice.injEq] at hve
    obtain ⟨rfl, hz1, rfl⟩ := hve
    obtain ⟨ya, yc, rfl, _⟩ := hs.sh
    have P0 := HI.out.1.cl p0
    have P1 := HI.out.1.cl p1
    have P2 := HI.out.1.cl p2
    have HBL := Lib.hid hb
    have HCH := Lib.hid hs
    obtain ⟨hli1, hli2, hli3⟩ := HLI.out.2 i HIL.out
    have HLI3 := Lib.hid hli3
    have HMC := Lib.hid (markB_cnt (n := n) (i := i) (m := l[i]!))
    have HME := Lib.hid (markB_eq (n := n) (i := i) (m := l[i]!))
    have HB6 := Lib.hid (heap_alloc_new wr (.cells #[.int .i64 l[i]!.cnt, .slice ua l[i]!.closed.length uc, .slice ya l[i]!.chan.length yc] 53))
    have HIB := Lib.hid (HI.out.al (.cells #[.int .i64 l[i]!.cnt, .slice ua l[i]!.closed.length uc, .slice ya l[i]!.chan.length yc] 53))
    have x0 := cellOf HB6.out 0
    have x1 := cellOf HB6.out 1
    have x2 := cellOf HB6.out 2
    simp only [List.getElem?_toArray, List.getElem?_cons_zero, List.getElem?_cons_succ] at x0 x1 x2
    obtain ⟨cn, hcn⟩ : ∃ x, l[i]!.cnt = x := ⟨_, rfl⟩
    obtain ⟨cl, hcl⟩ : ∃ x, l[i]!.closed.length = x := ⟨_, rfl⟩
    obtain ⟨ch, hch⟩ : ∃ x, l[i]!.chan.length = x := ⟨_, rfl⟩
    have HCN := Lib.hid hcn
    have HCL := Lib.hid hcl
    have HCHL := Lib.hid hch
    rw [hcn] at P0 HMC HME HB6 HIB x0 x1 x2
    rw [hcl] at P1 HMC HME HB6 HIB x0 x1 x2 HBL hli1
    rw [hch] at P2 HMC HME HB6 HIB x0 x1 x2 HCH hli2
    have HLT : Hid (mb < wr.heap.size) := Lib.hid (by obtain ⟨mm, _, hbm⟩ := HI.out.2.1; exact hbm.lt)
    clear p0 p1 p2 hb hs hli3 hcn hcl hch hz1 HI
    by_cases e1 : -1 ≤ cn
    case neg =>
     have g1 : decide (cn < -1) = true := decide_eq_true (by omega)
     have HF := Lib.hid (HB.out (HMC.out (fun h => e1 h.1)))
     clear e1
     go_wp2
     go_ret
     exact ⟨by rw [HF.out]; rfl, HIB.out.1⟩
    case pos =>
    have g1 : decide (cn < -1) = false := decide_eq_false (by omega)
    by_cases e2 : cn ≤ 64
    case neg =>
     have g2 : decide (64 < cn) = true := decide_eq_true (by omega)
     have HF := Lib.hid (HB.out (HMC.out (fun h => e2 h.2.1)))
     clear e1 e2
     go_wp2
     go_ret
     exact ⟨by rw [HF.out]; rfl, HIB.out.1⟩
    case pos =>
    have g2 : decide (64 < cn) = false := decide_eq_false (by omega)
    by_cases e3 : cl = n
    case neg =>
     have g3 : ((cl : Int) != (n : Int)) = true := by rw [bne_iff_ne]; omega
     have HF := Lib.hid (HB.out (HMC.out (fun h => e3 h.2.2.1)))
     clear e1 e2 e3
     go_wp2
     go_ret
     exact ⟨by rw [HF.out]; rfl, HIB.out.1⟩
    case pos =>
    have g3 : ((cl : Int) != (n : Int)) = false := by rw [bne_eq_false_iff_eq]; omega
    by_cases e4 : ch = n
    case neg =>
     have g4 : ((ch : Int) != (n : Int)) = true := by rw [bne_iff_ne]; omega
     have HF := Lib.hid (HB.out (HMC.out (fun h => e4 h.2.2.2)))
     clear e1 e2 e3 e4
     go_wp2
     go_ret
     exact ⟨by rw [HF.out]; rfl, HIB.out.1⟩
    case pos =>
    have g4 : ((ch : Int) != (n : Int)) = false := by rw [bne_eq_false_iff_eq]; omega
    have HME2 := Lib.hid (HME.out e1 e2 e3 e4)
    clear e1 e2
    obtain rfl : n = cl := e3.symm
    obtain rfl : n = ch := e4.symm
    go_upto_region 10 with (fail)
    generalize hb6 : wr.heap.size = b6 at *
    generalize wr.alloc (.cells #[.int .i64 cn, .slice ua n uc, .slice ya n yc] 53) = w6 at *
    clear hb6 P0 P1 P2
    obtain ⟨hd, hhd⟩ : ∃ x, (if cn = -1 then l[i]!.closed.any fun y => y else !(l[i]!.closed[i]! && l[i]!.chan[i]!.isEmpty)) = x := ⟨_, rfl⟩
    have HHD := Lib.hid hhd
    have HCY := Lib.hid (containsYes_calls (.slice ua n uc) l[i]!.closed w6 (HBL.out.ext HIB.out.1) (by rw [HCL.out]; exact hli1))
    clear hhd
    go_cut [78] (fun s78 wx => s78 = .bool hd ∧ wx = w6)
    case first =>
     by_cases hc : cn = -1
     case pos =>
      have HE : Hid ((l[i]!.closed.any fun y => y) = hd) := Lib.hid (by rw [← HHD.out, if_pos hc])
      rw [HE.out] at HCY
      subst hc
      cases hd with
      | true =>
        go_wp2_with fail
        refine HCY.out.mono ?_
        rintro e w7 ⟨rfl, rfl⟩
        go_wp2
        go_meet
        exact ⟨rfl, rfl⟩
      | false =>
        go_wp2_with fail
        refine HCY.out.mono ?_
        rintro e w7 ⟨rfl, rfl⟩
        go_wp2
        go_meet
        exact ⟨rfl, rfl⟩
     case neg =>
      have HE : Hid ((!(l[i]!.closed[i]! && l[i]!.chan[i]!.isEmpty)) = hd) := Lib.hid (by rw [← HHD.out, if_neg hc])
      have g5 : (cn == -1) = false := by rw [beq_eq_false_iff_ne]; exact hc
      have g6 : (cn != -1) = true := by rw [bne_iff_ne]; exact hc
      obtain ⟨b1, o1, rfl, _, _, hbc⟩ := bool_at HBL.out i (by rw [HCL.out]; exact hlt)
      have q0 := HIB.out.1.cl hbc
      obtain ⟨b2, o2, c2, u2, he2, hl2, hb2, hc2, x9, hx9, hI2⟩ := HCH.out.at1 i (by rw [HCHL.out]; exact hlt)
      simp only [Value.slice.injEq] at he2
      obtain ⟨rfl, hy2, rfl⟩ := he2
      obtain rfl : u2 = x9 := by simpa using hx9
      obtain ⟨z1, z2, rfl, _⟩ := hI2
      have q1 := HIB.out.1.cl hc2
      have HEM : Hid (l[i]!.chan[i]!.isEmpty = decide ((l[i]!.chan[i]!).length = 0)) := Lib.hid (by
       rw [Bool.eq_iff_iff, List.isEmpty_iff, decide_eq_true_iff, List.length_eq_zero_iff])
      rw [HEM.out] at HE
      obtain ⟨k9, hk9⟩ : ∃ x, (l[i]!.chan[i]!).length = x := ⟨_, rfl⟩
      rw [hk9] at HE q1
      generalize l[i]!.closed[i]! = bb at *
      clear hc hbc hc2 hx9 hk9 hy2 hl2 hb2
      cases bb with
      | false =>
        have HZ : Hid (hd = true) := Lib.hid (by rw [← HE.out]; rfl)
        go_wp2
        go_meet
        exact ⟨by rw [HZ.out], rfl⟩
      | true =>
        by_cases hk0 : k9 = 0
        ·subst hk0
         have HZ : Hid (hd = false) := Lib.hid (by rw [← HE.out]; rfl)
         go_wp2
         go_meet
         exact ⟨by rw [HZ.out], rfl⟩
        ·have HZ : Hid (hd = true) := Lib.hid (by rw [← HE.out, decide_eq_false hk0]; rfl)
         have g7 : decide ((0 : Int) < (k9 : Int)) = true := decide_eq_true (by omega)
         have g8 : decide (0 < k9) = true := decide_eq_true (by omega)
         clear hk0
         go_wp2
         go_meet
         exact ⟨by rw [HZ.out], rfl⟩
    case rest =>
     obtain ⟨rfl, rfl⟩ := hcut
     obtain ⟨w6, rfl⟩ : ∃ z, z = wc := ⟨_, rfl⟩
     cases hd with
     | true =>
       have HF : Hid (validK l = false) := Lib.hid (HB.out (by
        rw [HME2.out]
        have h := HHD.out
        by_cases hc : cn = -1
        ·rw [if_pos hc] at h ⊢; rw [h]; rfl
        ·rw [if_neg hc] at h ⊢
         revert h
         cases (l[i]!.closed[i]! && l[i]!.chan[i]!.isEmpty) <;> simp))
       go_wp2
       go_ret
       exact ⟨by rw [HF.out]; rfl, HIB.out.1⟩
     | false =>
       have HOK : Hid ((cn ≠ -1 → markB n i l[i]! = true) ∧ (cn = -1 → (∀ j, j < n → (l[i]!.chan[j]!).length = 0) → markB n i l[i]! = true)) := Lib.hid ⟨fun hc => by
        rw [HME2.out, if_neg hc]
        have h := HHD.out
        rw [if_neg hc] at h
        revert h
        cases (l[i]!.closed[i]! && l[i]!.chan[i]!.isEmpty) <;> simp, fun hc hall => by
        rw [HME2.out, if_pos hc]
        have h := HHD.out
        rw [if_pos hc] at h
        rw [h, chan_none (fun j hj => hall j (by rw [HCHL.out] at hj; exact hj))]; rfl⟩
       have HFU : Hid (∀ j x, cn = -1 → j < n → x < (l[i]!.chan[j]!).length → validK l = false) := Lib.hid (fun j x hc hj hx => HB.out (by
        rw [HME2.out, if_pos hc, chan_full (by rw [HCHL.out]; exact hj) hx]; simp))
       have HI0 : Hid (VkI w w6 mb (msX l i 0 0)) := HIB
       have HNB : Hid (b6 ≠ mb) := Lib.hid (by have := HLT.out; omega)
       clear HCY HHD HME HME2 HMC x0 x1
       go_wp2
       clear x2
       go_loopg [8, 10, 82] n (fun g s8 s10 s82 wr => ∃ j : Nat, j ≤ n ∧ n - j ≤ g ∧ s82 = .int .i64 j ∧ Aside (VkI w wr mb (msX l i j 0)) ∧ Aside (wr.heap[b6]? = some (.cells #[.int .i64 cn, .slice ua n uc, .slice ya n yc] 53)) ∧ Aside (cn = -1 → ∀ a, a < j → (l[i]!.chan[a]!).length = 0))
       case atStart => exact ⟨0, Nat.zero_le _, by omega, rfl, (show VkI _ _ _ _ from HI0.out), (show _ = _ from HB6.out), (fun _ a ha => absurd ha (Nat.not_lt_zero _))⟩
       case round =>
        obtain ⟨j, hj, hgj, rfl, HJ, HBJ, HZJ⟩ := hrel
        clear HI0 HIB HB6
        by_cases hjn : j < n
        case neg =>
         have hjz : ¬ (j : Int) < (n : Int) := by omega
         have HMK : Hid (markB n i l[i]! = true) := Lib.hid (by
          by_cases hc : cn = -1
          ·exact HOK.out.2 hc (fun a ha => HZJ.out hc a (by omega))
          ·exact HOK.out.1 hc)
         have HN2 : Hid (VkI w wr mb (msX l (i + 1) 0 0)) := Lib.hid (by
          have h := HJ.out
          rwa [show j = l[i]!.chan.length by rw [HCHL.out]; omega, msX_nextI HIL.out] at h)
         go_wp2
         go_roundg (n - (i + 1))
         case measure => omega
         case rel => exact ⟨i + 1, by omega, by omega, by go_num, (show VkI _ _ _ _ from HN2.out), (show Aside _ from fun a ha => by
          by_cases e : a = i
          ·subst e; exact HMK.out
          ·exact HM.out a (by omega))⟩
        case pos =>
         have hjz : (j : Int) < (n : Int) := by omega
         have hjz0 : (0 : Int) ≤ (j : Int) := by omega
         have HJL := Lib.hid (show j < l[i]!.chan.length by rw [HCHL.out]; exact hjn)
         obtain ⟨b2, o2, c2, u2, he2, hl2, hb2, hc2, x9, hx9, hI2⟩ := HCH.out.at1 j HJL.out
         simp only [Value.slice.injEq] at he2
         obtain ⟨rfl, hy2, rfl⟩ := he2
         obtain rfl : u2 = x9 := by simpa using hx9
         have HI2 := Lib.hid hI2
         obtain ⟨z1, z2, rfl, hz3⟩ := hI2
         have q1 := HJ.out.1.cl hc2
         obtain ⟨L, hL⟩ : ∃ x, (l[i]!.chan[j]!).length = x := ⟨_, rfl⟩
         have HLL := Lib.hid hL
         have hL2 := HLI3.out j HJL.out
         rw [hL] at q1 HI2 hL2
         have HJ0 : Hid (VkI w wr mb (msX l i j 0)) := HJ
         have HBJ0 := HBJ
         clear hc2 hx9 hy2 hl2 hb2 hz3 hL
         go_wp2
         clear q1
         go_loopg [10, 88] L (fun g s10 s88 wr => ∃ x : Nat, x ≤ L ∧ L - x ≤ g ∧ s88 = .int .i64 x ∧ Aside (VkI w wr mb (msX l i j x)) ∧ Aside (wr.heap[b6]? = some (.cells #[.int .i64 cn, .slice ua n uc, .slice (some ⟨b2, o2, none⟩) n yc] 53)) ∧ Aside (cn = -1 → x = 0))
         case atStart => exact ⟨0, Nat.zero_le _, by omega, rfl, (show VkI _ _ _ _ from HJ0.out), (show _ = _ from HBJ0.out), (fun _ => rfl)⟩
         case round =>
          obtain ⟨x, hx, hgx, rfl, HX, HBX, HZX⟩ := hrel
          clear HJ0 HJ HBJ0 HBJ
          by_cases hxL : x < L
          case neg =>
           have hxz : ¬ (x : Int) < (L : Int) := by omega
           have HN2 : Hid (VkI w wr mb (msX l i (j + 1) 0)) := Lib.hid (by
            have h := HX.out
            rwa [show x = (l[i]!.chan[j]!).length by rw [HLL.out]; omega, msX_nextJ HJL.out] at h)
           have HZ2 : Hid (cn = -1 → ∀ a, a < j + 1 → (l[i]!.chan[a]!).length = 0) := Lib.hid (fun hc a ha => by
            by_cases e : a = j
            ·subst e; have := HZX.out hc; rw [HLL.out]; omega
            ·exact HZJ.out hc a (by omega))
           go_wp2
           go_roundg (n - (j + 1))
           case measure => omega
           case rel => exact ⟨j + 1, by omega, by omega, by go_num, (show VkI _ _ _ _ from HN2.out), (show _ = _ from HBX.out), (show Aside _ from HZ2.out)⟩
          case pos =>
           have hxz : (x : Int) < (L : Int) := by omega
           have hxz0 : (0 : Int) ≤ (x : Int) := by omega
           obtain ⟨yb, yo, rfl, _, hyc⟩ := ints_at HI2.out x (by rw [HLL.out]; exact hxL)
           have y0 := HX.out.1.cl hyc
           have c0 := cellOf HBX.out 0
           simp only [List.getElem?_toArray, List.getElem?_cons_zero] at c0
           obtain ⟨y, hy⟩ : ∃ y, (l[i]!.chan[j]!)[x]! = y := ⟨_, rfl⟩
           have HST : Hid (msX l i j (x + 1) = msX l i j x ++ [y]) := Lib.hid (by rw [msX_step (by rw [HLL.out]; exact hxL), hy])
           obtain ⟨r, hr⟩ := msX_pre (l := l) (i := i) (j := j) (x := x + 1) HIL.out HJL.out
           rw [HST.out] at hr
           have HPR := Lib.hid hr
           rw [hy] at y0
           clear hyc hr hy
           by_cases hc : cn = -1
           case pos =>
            have HF := Lib.hid (HFU.out j x hc hjn (by rw [HLL.out]; exact hxL))
            subst hc
            go_wp2
            go_ret
            exact ⟨by rw [HF.out]; rfl, HX.out.1⟩
           case neg =>
           have g5 : (cn == -1) = false := by rw [beq_eq_false_iff_ne]; exact hc
           have HCNE := Lib.hid hc
           clear hc
           by_cases hy0 : 0 ≤ y
           case neg =>
            have g6 : decide (y < 0) = true := decide_eq_true (by omega)
            have HF := Lib.hid (validK_out HPR.out (fun h => hy0 h.1))
            clear hy0
            go_wp2
            go_ret
            exact ⟨by rw [HF.out]; rfl, HX.out.1⟩
           case pos =>
           have g6 : decide (y < 0) = false := decide_eq_false (by omega)
           by_cases hy9 : y ≤ 199
           case neg =>
            have g7 : decide (199 < y) = true := decide_eq_true (by omega)
            have HF := Lib.hid (validK_out HPR.out (fun h => hy9 h.2))
            clear hy9 hy0
            go_wp2
            go_ret
            exact ⟨by rw [HF.out]; rfl, HX.out.1⟩
           case pos =>
           have g7 : decide (199 < y) = false := decide_eq_false (by omega)
           obtain ⟨mm, hmm, hbm⟩ := HX.out.2.1
           have hm2 := HX.out.2.2.len
           have HBM := Lib.hid hbm
           have hlk := hbm.look Tryz.underlying3 Tryz.underlying108 Tryz.underlying4 zero_boolV y hy0 (by omega) (by omega)
           have HSN : Hid ((seenF (msX l i j x))[y.toNat]! = decide (y ∈ msX l i j x)) := Lib.hid (by
            rw [seenF_at (by omega), show ((y.toNat : Nat) : Int) = y by omega])
           rw [HSN.out] at hlk
           clear hbm
           by_cases hin : y ∈ msX l i j x
           case pos =>
            have HF := Lib.hid (validK_twice HPR.out hin)
            rw [decide_eq_true hin] at hlk
            clear hin
            go_wp2
            go_ret
            exact ⟨by rw [HF.out]; rfl, HX.out.1⟩
           case neg =>
            have HMS := Lib.hid (HX.out.2.2.snoc hy0 hy9 hin)
            have HSS := Lib.hid (seenF_snoc (ms := msX l i j x) hy0 hy9)
            rw [decide_eq_false hin] at hlk
            clear hin
            go_wp2_with (first | (at_mapUpdate; go_loud (refine wpList_put_b rfl _ _ _ _ rfl 3 4 mb mm 200 (seenF (msX l i j x)) HBM.out (by unfold maxLen; omega) (seenF_len _) Tryz.underlying3 Tryz.underlying108 Tryz.underlying4 y hy0 (by omega) (by omega) rfl rfl rfl ?_); intro w8 hb8 hg8; have HB8 := Lib.hid hb8; have HG8 := Lib.hid hg8; clear hb8 hg8) | go_in)
            have HN2 : Hid (VkI w w8 mb (msX l i j (x + 1))) := Lib.hid ⟨HX.out.1.gr HG8.out (fun kk hkk => by simp only [Option.some.injEq] at hkk; have := HMBE.out; omega), ⟨mm + 1, by rw [HST.out, List.length_append]; simp; omega, by rw [HST.out, ← HSS.out]; exact HB8.out⟩, by rw [HST.out]; exact HMS.out⟩
            have HBX8 : Hid (w8.heap[b6]? = some (.cells #[.int .i64 cn, .slice ua n uc, .slice (some ⟨b2, o2, none⟩) n yc] 53)) := Lib.hid ((HG8.out.block b6 (Array.getElem?_eq_some_iff.1 HBX.out).1 (fun e => HNB.out (by simpa using e))).trans HBX.out)
            go_roundg (L - (x + 1))
            case measure => omega
            case rel => exact ⟨x + 1, by omega, by omega, by go_num, (show VkI _ _ _ _ from HN2.out), (show _ = _ from HBX8.out), (show Aside _ from fun hc => absurd hc HCNE.out)⟩
end Go.Proofs.YtfagfooggcinoaaGreat
namespace Go.Proofs.YtfagfooggcinoaaGreat
open Go.RowKit
set_option linter.unusedVariables false
set_option maxHeartbeats 400000 in
theorem index_int (x : Int) (v : Value) (l : List Int) (w : World) (hv : Ints w v l) (hn : l.length ≤ 1000000) :
  Calls Tryz.prog 129 #[v, .int .i64 x] w fun e w' => e = .returned (.int .i64 (firstAt (fun y => x == y) l)) ∧ w = w' := by
 obtain ⟨a, c, rfl, hlc, hv⟩ := hv
 have HLC := Lib.hid hlc; clear hlc
 have HV := Lib.hid hv; clear hv
 generalize hln : l.length = n at hn
 have HL := Lib.hid hln; clear hln
 go_enter Tryz.func129, Tryz.ntmps129
 go_wp2
 go_loopg [5, 8] n (fun m _ s8 wr => ∃ k : Nat, k ≤ n ∧ n - k ≤ m ∧ s8 = .int .i64 k ∧ wr = w ∧ Aside (∀ j, j < k → (fun y => x == y) l[j]! = false))
 case atStart => exact ⟨0, Nat.zero_le _, by omega, rfl, rfl, (fun j hj => absurd hj (Nat.not_lt_zero _))⟩
 case round =>
  obtain ⟨k, hk, hm, rfl, rfl, A⟩ := hrel
  by_cases hlt : k < n
  ·obtain ⟨b, off, rfl, hb, hc⟩ := HV.out (by intro e; have := HL.out; simp [e] at this; omega)
   have hcell : wr.cell? ⟨b, off + k, none⟩ = some (.int .i64 l[k]!) := hc k (by rw [HL.out]; exact hlt)
   have hltz : (k : Int) < (n : Int) := by omega
   clear hc HV
   generalize hy : l[k]! = y at hcell
   have B := Lib.hid hy
   clear hy
   cases hq : (x == y) with
   | true =>
     go_wp2
     go_ret
     exact ⟨by rw [firstAt_hit (fun y => x == y) l k (by rw [HL.out]; omega) (by rw [B.out]; exact hq) A.out]; rfl, rfl⟩
   | false =>
     go_wp2
     go_roundg (n - (k + 1))
     case measure => omega
     case rel =>
      refine ⟨k + 1, by omega, by omega, by go_num, rfl, (show Aside _ from fun j hj => ?_)⟩
      by_cases e : j = k
      ·subst e
       rw [B.out]; exact hq
      ·exact A.out j (by omega)
  ·have hltz : ¬ (k : Int) < (n : Int) := by omega
   go_wp2
   go_ret
   exact ⟨by rw [firstAt_miss (fun y => x == y) l (fun j hj => A.out j (by rw [HL.out] at hj; omega))]; rfl, rfl⟩
set_option maxHeartbeats 400000 in
theorem contains_int (x : Int) (v : Value) (l : List Int) (w : World) (hv : Ints w v l) (hn : l.length ≤ 1000000) :
  Calls Tryz.prog 98 #[v, .int .i64 x] w fun e w' => e = .returned (.bool (l.contains x)) ∧ w = w' := by
 have HI := Lib.hid (index_int x v l w hv hn)
 clear hv
 rw [show l.contains x = l.any (fun y => x == y) from by rw [List.contains_eq_any_beq], ← firstAt_any]
 go_enter Tryz.func98, Tryz.ntmps98
 go_wp2_with (go_at_call 129; refine HI.out.mono ?_; rintro e w' ⟨rfl, rfl⟩)
 go_ret
 exact ⟨rfl, rfl⟩
end Go.Proofs.YtfagfooggcinoaaGreat
namespace Go.Proofs.YtfagfooggcinoaaGreat
open Go.RowKit
set_option linter.unusedVariables false
theorem cnts_len (l : List Mk) : (cntsL l).length = l.length := by simp [cntsL]
theorem cnts_at {l : List Mk} {i : Nat} (hi : i < l.length) : (cntsL l)[i]! = l[i]!.cnt := by
 rw [getElem!_pos _ i (by rw [cnts_len]; exact hi), getElem!_pos l i hi]; simp [cntsL]
def recoB (l : List Mk) : Bool := !(cntsL l).contains (-1)
theorem recoB_iff {l : List Mk} (h : ∀ i, i < l.length → -1 ≤ l[i]!.cnt) : recoB l = recordedB l := by
 unfold recoB recordedB
 rw [Bool.eq_iff_iff]
 simp only [Bool.not_eq_true', List.all_eq_true, decide_eq_true_eq]
 constructor
 ·intro hc m hm
  obtain ⟨i, hi, rfl⟩ := List.getElem_of_mem hm
  have h1 := h i hi
  rw [getElem!_pos l i hi] at h1
  by_cases e : l[i].cnt = -1
  ·have : (cntsL l).contains (-1) = true := by
    rw [List.contains_iff_mem]
    exact List.mem_map.2 ⟨l[i], hm, e⟩
   rw [this] at hc; cases hc
  ·omega
 ·intro ha
  rw [← Bool.not_eq_true, List.contains_iff_mem]
  intro hm
  obtain ⟨m, hm, e⟩ := List.mem_map.1 hm
  have := ha m hm
  omega
theorem valid_cnt {l : List Mk} (h : validK l = true) : ∀ i, i < l.length → -1 ≤ l[i]!.cnt ∧ l[i]!.cnt ≤ 64 ∧ l[i]!.closed.length = l.length ∧ l[i]!.chan.length = l.length := by
 intro i hi
 by_cases hm : markB l.length i l[i]! = true
 ·by_cases hk : -1 ≤ l[i]!.cnt ∧ l[i]!.cnt ≤ 64 ∧ l[i]!.closed.length = l.length ∧ l[i]!.chan.length = l.length
  ·exact hk
  ·rw [markB_cnt hk] at hm; cases hm
 ·rw [validK_mark hi (by simpa using hm)] at h; cases h
def CntOut (l : List Mk) (w w' : World) (e : Ending) : Prop := ∃ v, e = .returned (.tuple #[v, .bool (recoB l)]) ∧ Row w' w.heap.size 3 1 v l.length ((cntsL l).map (Value.int .i64)) ∧ Ext w w'
set_option maxHeartbeats 4000000 in
set_option maxRecDepth 100000 in
theorem counts_calls (v : Value) (l : List Mk) (w : World) (h : Sl RMk 3 w v l) (hl : LightM l) :
  Calls Tryz.prog 64 #[v] w fun e w' => CntOut l w w' e := by
 obtain ⟨ii, hii, iz0, iz1, iz2⟩ := info_partsM info_intG
 have HS := Lib.hid h
 have hl1 := hl.1
 obtain ⟨va, vcap, rfl, hvc⟩ := h.sh
 have HCI := Lib.hid (fun W u (hu : Ints W u (cntsL l)) => contains_int (-1) u (cntsL l) W hu (by rw [cnts_len]; exact hl1))
 have HRE : Hid (recoB l = !(cntsL l).contains (-1)) := Lib.hid rfl
 unfold CntOut
 generalize recoB l = rb at *
 generalize (cntsL l).contains (-1) = cb at *
 obtain ⟨n, hn⟩ : ∃ n, l.length = n := ⟨_, rfl⟩
 have HN := Lib.hid hn
 rw [hn] at hl1 hvc ⊢
 clear h hl hn
 go_enter Tryz.func64, Tryz.ntmps64
 go_wp2
 go_loopg [4, 6, 9] n (fun g s4 s6 s9 wr => ∃ k : Nat, k ≤ n ∧ n - k ≤ g ∧ s9 = .int .i64 k ∧ Aside (Row wr w.heap.size 3 1 s4 k (((cntsL l).take k).map (Value.int .i64))) ∧ Aside (Ext w wr))
 case atStart => exact ⟨0, Nat.zero_le _, by omega, rfl, (show Row _ _ _ _ _ _ _ from Row.mkNil _ _ _ _), (show Ext _ _ from Ext.rf _)⟩
 case round =>
  obtain ⟨k, hk, hgk, rfl, HR, HE⟩ := hrel
  obtain ⟨xa, xc, hxe, hxz⟩ := HR.out.any
  subst hxe
  clear hxz
  by_cases hlt : k < n
  case neg =>
   have hkz : ¬ (k : Int) < (n : Int) := by omega
   obtain rfl : n = k := by omega
   have HT : Hid ((cntsL l).take n = cntsL l) := Lib.hid (List.take_of_length_le (by rw [cnts_len, HN.out]; omega))
   have HR2 := HR.out
   rw [HT.out] at HR2
   have HR3 := Lib.hid HR2
   clear HR2
   go_wp2_with fail
   have HIN := HR3.out
   have HL2 : n = (cntsL l).length := by rw [cnts_len, HN.out]
   refine (HCI.out _ _ (by
    have h := HR3.out
    have h2 : Row wr w.heap.size 3 1 (.slice xa n xc) (cntsL l).length ((cntsL l).map (Value.int .i64)) := by rw [← HL2]; exact h
    exact h2.ints)).mono ?_
   rintro e w2 ⟨rfl, rfl⟩
   clear HIN HL2
   go_wp2
   go_ret2
   exact ⟨_, by rw [HRE.out]; rfl, HR3.out, HE.out⟩
  case pos =>
   have hkz : (k : Int) < (n : Int) := by omega
   have hkz0 : (0 : Int) ≤ (k : Int) := by omega
   obtain ⟨B, O, C, ua, uc, y, hve, hlC, hBw, p0, p1, p2, hb, hs⟩ := mark_at HS.out k (by rw [HN.out]; exact hlt)
   simp only [Value.slice.injEq] at hve
   obtain ⟨rfl, hz1, rfl⟩ := hve
   have P0 := HE.out.cl p0
   have P1 := HE.out.cl p1
   have P2 := HE.out.cl p2
   have HTK : Hid ((cntsL l).take (k + 1) = (cntsL l).take k ++ [l[k]!.cnt]) := Lib.hid (by rw [take_succ_get (by rw [cnts_len, HN.out]; exact hlt), cnts_at (by rw [HN.out]; exact hlt)])
   obtain ⟨ya, yc, rfl, _⟩ := hs.sh
   generalize l[k]!.cnt = cn at *
   generalize l[k]!.closed.length = c1 at *
   generalize l[k]!.chan.length = c2 at *
   have HX6 := Lib.hid ((Ext.rf wr).al (.cells #[.int .i64 cn, .slice ua c1 uc, .slice ya c2 yc] 53))
   clear p0 p1 p2 hz1 hb hs
   have HB6 := Lib.hid (heap_alloc_new wr (.cells #[.int .i64 cn, .slice ua c1 uc, .slice ya c2 yc] 53))
   go_upto_region 5 with (fail)
   generalize hb6 : wr.heap.size = b6 at *
   generalize wr.alloc (.cells #[.int .i64 cn, .slice ua c1 uc, .slice ya c2 yc] 53) = wA at *
   have HRA := Lib.hid (HR.out.ext HX6.out)
   have HEA := Lib.hid (HE.out.trans' HX6.out)
   have hszA := HEA.out.sz
   have y2 := cellOf HB6.out 0
   simp only [List.getElem?_toArray] at y2
   clear P0 P1 P2 hb6
   go_wp2_with ((at_builtin; go_loud (refine wpList_append_one rfl _ _ 39 rfl w.heap.size 3 ii (.int .i64 0) 1 8 Tryz.underlying39 hii iz0 iz1 iz2 rfl (by decide) _ k _ rfl (HRA.out.al _) wA.heap.size 1 [.int .i64 cn] rfl rfl ⟨_, heap_alloc_new _ _⟩ (by simp [Value.oneCell']) (by unfold maxLen; omega) (by omega) (by simp; omega) ?_; intro v8 w8 hown8 hgrow8 hblk8; have HOWN := Lib.hid hown8; have HX9 := Lib.hid ((HEA.out.al _).gr hgrow8 (fun z hz => (HRA.out.lt z hz).1)); clear hown8 hgrow8 hblk8)))
   go_roundg (n - (k + 1))
   case measure => omega
   case rel => exact ⟨k + 1, by omega, by omega, by go_num, (show Row _ _ _ _ _ _ _ from by rw [HTK.out, List.map_append]; exact HOWN.out), (show Ext _ _ from HX9.out)⟩
def cutE (l : List Mk) : Int := if validK l = false then 1 else if recordedB l = false then 6 else 0
end Go.Proofs.YtfagfooggcinoaaGreat
namespace Go.Proofs.YtfagfooggcinoaaGreat
open Go.RowKit
set_option linter.unusedVariables false
attribute [local go_sem ↓] Go.wp_at_zero Go.wp_at_succ
set_option maxHeartbeats 4000000 in
theorem consistentP_calls (v vc : Value) (t : Tr) (c : List Int) (w : World) (h : TrAt w v t) (hs : LooseTr t) (hc : Ints w vc c) :
  Calls Tryz.prog 35 #[.agg #[v], vc] w fun e w' => e = .returned (.bool (consB t c)) ∧ Ext w w' := by
 obtain ⟨ta, tc, rfl, htc⟩ := h.sh
 have HCC := Lib.hid hc
 obtain ⟨ca, cc, rfl, hlc, _⟩ := hc
 have HX2 : Hid (Ext w ((w.alloc (.cells #[.slice ta t.length tc] 24)).alloc (.cells #[.slice ca c.length cc] 39))) := Lib.hid (by repeat (first | refine Ext.st ?_ (by first | exact Nat.le_refl _ | exact Nat.le_succ _ | assumption | omega) _ | refine Ext.al ?_ _ | refine Ext.dr ?_ | refine Ext.drN ?_ _ | exact Ext.rf _))
 have HG := Lib.hid (givenP_calls (.slice ta t.length tc) (.slice (some ⟨w.heap.size + 1, 0, none⟩) 1 1) (.slice none 0 0) t [c] [] _ (h.ext HX2.out) hs (rows_one (heap_new_eq (by simp)) (HCC.out.ext HX2.out)) (by simp) (ints_none _) (by simp))
 obtain ⟨ge, hge⟩ : ∃ E, givenE t [c] [] = E := ⟨_, rfl⟩
 rw [hge] at HG
 obtain ⟨cb, hcb⟩ : ∃ b, consB t c = b := ⟨_, rfl⟩
 rw [hcb]
 have HI : Hid ((ge == 0) = cb) := Lib.hid (by have := givenE_one t c; rw [hge, hcb] at this; cases cb <;> simp_all)
 generalize t.length = N at *
 generalize c.length = M at *
 clear h hs hge hcb
 go_enter Tryz.func35, Tryz.ntmps35
 go_wp2_with fail
 refine HG.out.mono ?_
 rintro e w2 ⟨rfl, hX⟩
 obtain ⟨r, hr⟩ : ∃ r, (ge == 0) = r := ⟨_, rfl⟩
 have HR := Lib.hid (HI.out.symm.trans hr)
 go_wp2
 go_ret
 exact ⟨by rw [HR.out]; rfl, HX2.out.trans' hX⟩
end Go.Proofs.YtfagfooggcinoaaGreat
namespace Go.Proofs.YtfagfooggcinoaaGreat
open Go.RowKit
set_option linter.unusedVariables false
noncomputable def wayB (t : Tr) (l : List Mk) (q f : Nat) : Bool := l[q]!.closed[f]! && (underC t (cntsL l) f (q : Int) == l[q]!.chan[f]!)
noncomputable def waysB (t : Tr) (l : List Mk) : Bool := (List.range l.length).all fun q => (List.range l.length).all fun f => wayB t l q f
noncomputable def checkB (t : Tr) (l : List Mk) : Bool := validT t && (validK l && (decide (l.length = t.length) && (recordedB l && (consB t (cntsL l) && waysB t l))))
theorem waysB_no {t : Tr} {l : List Mk} {q f : Nat} (hq : q < l.length) (hf : f < l.length) (h : wayB t l q f = false) : waysB t l = false := by
 unfold waysB
 rw [List.all_eq_false]
 refine ⟨q, List.mem_range.2 hq, ?_⟩
 rw [Bool.not_eq_true, List.all_eq_false]
 exact ⟨f, List.mem_range.2 hf, by rw [h]; simp⟩
theorem waysB_yes {t : Tr} {l : List Mk} (h : ∀ q, q < l.length → ∀ f, f < l.length → wayB t l q f = true) : waysB t l = true := by
 unfold waysB
 rw [List.all_eq_true]
 intro q hq
 rw [List.all_eq_true]
 exact fun f hf => h q (List.mem_range.1 hq) f (List.mem_range.1 hf)
set_option maxHeartbeats 8000000 in
set_option maxRecDepth 100000 in
theorem snapCheck_calls (v lv : Value) (t : Tr) (l : List Mk) (w : World) (h : TrAt w v t) (hs : LooseTr t) (hlv : Sl RMk 3 w lv l) (hl : LightM l) :
  Calls Tryz.prog 30 #[.agg #[v], lv] w fun e w' => e = .returned (.bool (checkB t l)) ∧ Ext w w' := by
 have HV := Lib.hid (fun W (hW : Ext w W) => validP_calls v t W (h.ext hW) hs)
 have HSV := Lib.hid (fun W (hW : Ext w W) => snapValid_calls lv l W (Sl.ext rmk_lasts hlv hW) hl)
 have HSC := Lib.hid (fun W (hW : Ext w W) => counts_calls lv l W (Sl.ext rmk_lasts hlv hW) hl)
 have HCO := Lib.hid (fun W (hW : Ext w W) u (hu : Ints W u (cntsL l)) => consistentP_calls v u t (cntsL l) W (h.ext hW) hs hu)
 have HT := Lib.hid h
 have HLS := Lib.hid hs
 have HLV := Lib.hid hlv
 have HLI := Lib.hid hl
 obtain ⟨ta, tc, rfl, htc⟩ := h.sh
 obtain ⟨la, lc, rfl, hlc⟩ := hlv.sh
 have HX1 := Lib.hid ((Ext.rf w).al (.cells #[.slice ta t.length tc] 24))
 have HB1 := Lib.hid (heap_alloc_new w (.cells #[.slice ta t.length tc] 24))
 have t0 := cellOf HB1.out 0
 simp only [List.getElem?_toArray, List.getElem?_cons_zero] at t0
 have HAD : Hid (checkB t l = (validT t && (validK l && (decide (l.length = t.length) && (recordedB l && (consB t (cntsL l) && waysB t l)))))) := Lib.hid rfl
 generalize checkB t l = ans at *
 cases hv : validT t with
 | false =>
   rw [hv] at HV HAD
   have HA : Hid (ans = false) := Lib.hid HAD.out
   clear h hs hv htc hlv hl
   generalize t.length = N at *
   generalize l.length = n at *
   go_enter Tryz.func30, Tryz.ntmps30
   go_wp2_with fail
   refine (HV.out _ HX1.out).mono ?_
   rintro e w2 ⟨rfl, hX2⟩
   have HX2 := Lib.hid (HX1.out.trans' hX2)
   go_wp2
   go_ret
   exact ⟨by rw [HA.out]; rfl, HX2.out⟩
 | true =>
   rw [hv] at HV HAD
   cases hk : validK l with
   | false =>
     rw [hk] at HSV HAD
     have HA : Hid (ans = false) := Lib.hid HAD.out
     clear h hs hv htc hlv hl hk
     generalize t.length = N at *
     generalize l.length = n at *
     go_enter Tryz.func30, Tryz.ntmps30
     go_wp2_with fail
     refine (HV.out _ HX1.out).mono ?_
     rintro e w2 ⟨rfl, hX2⟩
     have HX2 := Lib.hid (HX1.out.trans' hX2)
     have t2 := hX2.cl t0
     clear t0 hX2
     go_wp2_with fail
     refine (HSV.out _ HX2.out).mono ?_
     rintro e w3 ⟨rfl, hX3⟩
     have HX3 := Lib.hid (HX2.out.trans' hX3)
     go_wp2
     go_ret
     exact ⟨by rw [HA.out]; rfl, HX3.out⟩
   | true =>
     have hN8 := valid_8 hv
     have HVC := Lib.hid (valid_cnt hk)
     have HRB := Lib.hid (recoB_iff (fun i hi => (valid_cnt hk i hi).1))
     unfold CntOut at HSC
     rw [HRB.out] at HSC
     rw [hk] at HSV HAD
     by_cases hne : l.length = t.length
     case neg =>
      have HA : Hid (ans = false) := Lib.hid (by rw [HAD.out, decide_eq_false hne]; rfl)
      clear h hs hv htc hlv hl hk
      generalize t.length = N at *
      generalize l.length = n at *
      have hq : ((n : Int) != (N : Int)) = true := by rw [bne_iff_ne]; omega
      clear hne
      go_enter Tryz.func30, Tryz.ntmps30
      go_wp2_with fail
      refine (HV.out _ HX1.out).mono ?_
      rintro e w2 ⟨rfl, hX2⟩
      have HX2 := Lib.hid (HX1.out.trans' hX2)
      have t2 := hX2.cl t0
      clear t0 hX2
      go_wp2_with fail
      refine (HSV.out _ HX2.out).mono ?_
      rintro e w3 ⟨rfl, hX3⟩
      have HX3 := Lib.hid (HX2.out.trans' hX3)
      have t3 := hX3.cl t2
      clear t2 hX3
      go_wp2
      go_ret
      exact ⟨by rw [HA.out]; rfl, HX3.out⟩
     case pos =>
      rw [decide_eq_true hne] at HAD
      cases hr : recordedB l with
      | false =>
        rw [hr] at HSC HAD
        have HA : Hid (ans = false) := Lib.hid HAD.out
        have hq : ((l.length : Int) != (t.length : Int)) = false := by rw [bne_eq_false_iff_eq]; omega
        clear h hs hv htc hlv hl hk hr hne
        generalize t.length = N at *
        generalize l.length = n at *
        go_enter Tryz.func30, Tryz.ntmps30
        go_wp2_with fail
        refine (HV.out _ HX1.out).mono ?_
        rintro e w2 ⟨rfl, hX2⟩
        have HX2 := Lib.hid (HX1.out.trans' hX2)
        have t2 := hX2.cl t0
        clear t0 hX2
        go_wp2_with fail
        refine (HSV.out _ HX2.out).mono ?_
        rintro e w3 ⟨rfl, hX3⟩
        have HX3 := Lib.hid (HX2.out.trans' hX3)
        have t3 := hX3.cl t2
        clear t2 hX3
        go_wp2_with fail
        refine (HSC.out _ HX3.out).mono ?_
        rintro e w4 ⟨v4, rfl, hR4, hX4⟩
        obtain ⟨xa, xc, rfl, hz4⟩ := hR4.any
        have HX4 := Lib.hid (HX3.out.trans' hX4)
        have HR4 := Lib.hid hR4
        have t4 := hX4.cl t3
        clear t3 hX4 hR4 hz4
        go_wp2
        go_ret
        exact ⟨by rw [HA.out]; rfl, HX4.out⟩
      | true =>
        rw [hr] at HSC HAD
        have HNT : Hid (t.length = l.length) := Lib.hid hne.symm
        have HCL := Lib.hid (cnts_len l)
        rw [← hne] at HX1 HB1 HT HV HCO t0 hN8 htc ⊢
        obtain ⟨n, hn⟩ : ∃ n, l.length = n := ⟨_, rfl⟩
        have HNL := Lib.hid hn
        rw [hn] at HX1 HB1 HT HV HCO t0 hN8 htc HLV HSV HSC HNT HCL ⊢
        clear h hs hlv hl hne hk hn
        cases hcb : consB t (cntsL l) with
        | false =>
          rw [hcb] at HCO HAD
          have HA : Hid (ans = false) := Lib.hid HAD.out
          clear hcb hv
          go_enter Tryz.func30, Tryz.ntmps30
          go_wp2_with fail
          refine (HV.out _ HX1.out).mono ?_
          rintro e w2 ⟨rfl, hX2⟩
          have HX2 := Lib.hid (HX1.out.trans' hX2)
          have t2 := hX2.cl t0
          clear t0 hX2
          go_wp2_with fail
          refine (HSV.out _ HX2.out).mono ?_
          rintro e w3 ⟨rfl, hX3⟩
          have HX3 := Lib.hid (HX2.out.trans' hX3)
          have t3 := hX3.cl t2
          clear t2 hX3
          go_wp2_with fail
          refine (HSC.out _ HX3.out).mono ?_
          rintro e w4 ⟨v4, rfl, hR4, hX4⟩
          obtain ⟨xa, xc, rfl, hz4⟩ := hR4.any
          have HX4 := Lib.hid (HX3.out.trans' hX4)
          have HR4 := Lib.hid hR4
          have t4 := hX4.cl t3
          clear t3 hX4 hR4 hz4
          go_wp2_with fail
          refine (HCO.out _ HX4.out _ (by
           have h := HR4.out
           rw [← HCL.out] at h ⊢
           exact h.ints)).mono ?_
          rintro e w5 ⟨rfl, hX5⟩
          have HX5 := Lib.hid (HX4.out.trans' hX5)
          clear t4
          go_wp2
          go_ret
          exact ⟨by rw [HA.out]; rfl, HX5.out⟩
        | true =>
          rw [hcb] at HCO HAD
          have HCC := Lib.hid ((consB_iff.1 hcb).2)
          have HVT := Lib.hid hv
          clear hcb hv
          go_enter Tryz.func30, Tryz.ntmps30
          go_wp2_with fail
          refine (HV.out _ HX1.out).mono ?_
          rintro e w2 ⟨rfl, hX2⟩
          have HX2 := Lib.hid (HX1.out.trans' hX2)
          have t2 := hX2.cl t0
          clear t0 hX2
          go_wp2_with fail
          refine (HSV.out _ HX2.out).mono ?_
          rintro e w3 ⟨rfl, hX3⟩
          have HX3 := Lib.hid (HX2.out.trans' hX3)
          have t3 := hX3.cl t2
          clear t2 hX3
          go_wp2_with fail
          refine (HSC.out _ HX3.out).mono ?_
          rintro e w4 ⟨v4, rfl, hR4, hX4⟩
          obtain ⟨xa, xc, rfl, hz4⟩ := hR4.any
          have HX4 := Lib.hid (HX3.out.trans' hX4)
          have HR4 := Lib.hid hR4
          have t4 := hX4.cl t3
          clear t3 hX4 hR4 hz4
          have HI4 : Hid (Ints w4 (.slice xa n xc) (cntsL l)) := Lib.hid (by
           have h := HR4.out
           rw [← HCL.out] at h ⊢
           exact h.ints)
          go_wp2_with fail
          refine (HCO.out _ HX4.out _ HI4.out).mono ?_
          rintro e w5 ⟨rfl, hX5⟩
          have HX5 := Lib.hid (HX4.out.trans' hX5)
          have HT5 := Lib.hid (hX5.cl t4)
          have HI5 := Lib.hid (HI4.out.ext hX5)
          clear t4 hX5 HI4
          have HU : Hid (∀ W, Ext w5 W → ∀ f q : Nat, f < n → q < n → Calls Tryz.prog 24 #[.agg #[.slice ta n tc], .slice xa n xc, .int .i64 f, .int .i64 q] W fun e w' => IntsRes W w' e 0 (underC t (cntsL l) f (q : Int))) := Lib.hid (fun W hW f q hf hq => by
           have h := underWayP_calls (.slice ta n tc) (.slice xa n xc) t (cntsL l) (f : Int) (q : Int) W (HT.out.ext (HX5.out.trans' hW)) HLS.out (HI5.out.ext hW)
           rw [given_pq HVT.out HCC.out (by have := HNT.out; omega) (by have := HNT.out; omega), if_pos rfl, Int.toNat_natCast] at h
           exact h)
          have HUL : Hid (∀ f q : Nat, f < n → (underC t (cntsL l) f (q : Int)).length ≤ 64) := Lib.hid (fun f q hf => by
           have h1 := uwTo_len t (cntsL l) (q : Int) f (cntsL l)[f]!.toNat
           have h2 := (HVC.out f (by rw [HNL.out]; exact hf)).2.1
           rw [cnts_at (by rw [HNL.out]; exact hf)] at h1
           unfold underC
           rw [cnts_at (by rw [HNL.out]; exact hf)]
           omega)
          have HWY := Lib.hid (fun q f hq hf => waysB_no (t := t) (l := l) (q := q) (f := f) (by rw [HNL.out]; exact hq) (by rw [HNL.out]; exact hf))
          have HWD : Hid (∀ q f : Nat, wayB t l q f = (l[q]!.closed[f]! && (underC t (cntsL l) f (q : Int) == l[q]!.chan[f]!))) := Lib.hid (fun _ _ => rfl)
          go_wp2
          go_loopg [7, 8, 9, 10, 11, 12, 44] n (fun g s7 s8 s9 s10 s11 s12 s44 wr => ∃ q : Nat, q ≤ n ∧ n - q ≤ g ∧ s44 = .int .i64 q ∧ Aside (Ext w5 wr) ∧ Aside (∀ a, a < q → ∀ f, f < n → wayB t l a f = true))
          case atStart => exact ⟨0, Nat.zero_le _, by omega, rfl, (show Ext _ _ from Ext.rf _), (fun a ha => absurd ha (Nat.not_lt_zero _))⟩
          case round =>
           obtain ⟨q, hq, hgq, rfl, HE, HW⟩ := hrel
           by_cases hqn : q < n
           case neg =>
            have hqz : ¬ (q : Int) < (n : Int) := by omega
            have HA : Hid (ans = true) := Lib.hid (by rw [HAD.out, waysB_yes (fun a ha f hf => HW.out a (by rw [HNL.out] at ha; omega) f (by rw [HNL.out] at hf; exact hf))]; rfl)
            go_wp2
            go_ret
            exact ⟨by rw [HA.out]; rfl, HX5.out.trans' HE.out⟩
           case pos =>
            have hqz : (q : Int) < (n : Int) := by omega
            have hqz0 : (0 : Int) ≤ (q : Int) := by omega
            have HQL := Lib.hid (show q < l.length by rw [HNL.out]; exact hqn)
            obtain ⟨B, O, C, ua, uc, y, hve, hlC, hBw, p0, p1, p2, hb, hs⟩ := mark_at HLV.out q HQL.out
            simp only [Value.slice.injEq] at hve
            obtain ⟨rfl, hz1, rfl⟩ := hve
            have hcl2 := (HVC.out q HQL.out).2.2
            rw [HNL.out] at hcl2
            rw [hcl2.1] at p1 hb
            obtain ⟨ya, yc, rfl, _⟩ := hs.sh
            rw [hcl2.2] at p2 hs
            have HEW := Lib.hid (HX5.out.trans' HE.out)
            have P0 := HEW.out.cl p0
            have P1 := HEW.out.cl p1
            have P2 := HEW.out.cl p2
            have HBL := Lib.hid hb
            have HCH := Lib.hid hs
            have HL1 := Lib.hid hcl2.1
            have HL2 := Lib.hid hcl2.2
            have HLI3 := Lib.hid ((HLI.out.2 q HQL.out).2.2)
            generalize l[q]!.cnt = cn at *
            have HX6 := Lib.hid ((Ext.rf wr).al (.cells #[.int .i64 cn, .slice ua n uc, .slice ya n yc] 53))
            have HB6 := Lib.hid (heap_alloc_new wr (.cells #[.int .i64 cn, .slice ua n uc, .slice ya n yc] 53))
            clear p0 p1 p2 hz1 hb hs hcl2
            go_upto_region 9 with (fail)
            have HE6 := Lib.hid (HE.out.trans' HX6.out)
            generalize hb6 : wr.heap.size = b6 at *
            generalize wr.alloc (.cells #[.int .i64 cn, .slice ua n uc, .slice ya n yc] 53) = w6 at *
            have x2 := cellOf HB6.out 2
            simp only [List.getElem?_toArray, List.getElem?_cons_zero, List.getElem?_cons_succ] at x2
            clear P0 P1 P2 hb6
            go_wp2
            clear x2
            go_loopg [9, 10, 11, 12, 52] n (fun g s9 s10 s11 s12 s52 wr => ∃ f : Nat, f ≤ n ∧ n - f ≤ g ∧ s52 = .int .i64 f ∧ Aside (Ext w6 wr) ∧ Aside (∀ a, a < f → wayB t l q a = true))
            case atStart => exact ⟨0, Nat.zero_le _, by omega, rfl, (show Ext _ _ from Ext.rf _), (fun a ha => absurd ha (Nat.not_lt_zero _))⟩
            case round =>
             obtain ⟨f, hf, hgf, rfl, HF, HWF⟩ := hrel
             by_cases hfn : f < n
             case neg =>
              have hfz : ¬ (f : Int) < (n : Int) := by omega
              go_wp2
              go_roundg (n - (q + 1))
              case measure => omega
              case rel => exact ⟨q + 1, by omega, by omega, by go_num, (show Ext _ _ from HE6.out.trans' HF.out), (show Aside _ from fun a ha f' hf' => by
               by_cases e : a = q
               ·subst e; exact HWF.out f' (by omega)
               ·exact HW.out a (by omega) f' hf')⟩
             case pos =>
              have hfz : (f : Int) < (n : Int) := by omega
              have hfz0 : (0 : Int) ≤ (f : Int) := by omega
              obtain ⟨b2, o2, c2, u2, he2, hl2, hb2, hc2, x9, hx9, hI2⟩ := HCH.out.at1 f (by rw [HL2.out]; exact hfn)
              simp only [Value.slice.injEq] at he2
              obtain ⟨rfl, hy2, rfl⟩ := he2
              obtain rfl : u2 = x9 := by simpa using hx9
              have HI2 := Lib.hid hI2
              obtain ⟨z1, z2, rfl, hz3⟩ := hI2
              obtain ⟨b1, o1, rfl, _, _, hbc⟩ := bool_at HBL.out f (by rw [HL1.out]; exact hfn)
              have HE7 := Lib.hid (HE6.out.trans' HF.out)
              have HW7 := Lib.hid (HX5.out.trans' HE7.out)
              have q1 := HW7.out.cl hc2
              have q2 := HW7.out.cl hbc
              have t7 := HE7.out.cl HT5.out
              have y1 := cellOf (HF.out.hp HB6.out) 1
              simp only [List.getElem?_toArray, List.getElem?_cons_zero, List.getElem?_cons_succ] at y1
              have HUW := Lib.hid (HU.out wr HE7.out f q hfn hqn)
              have HUL2 := HUL.out f q hfn
              have HLC := HLI3.out f (by rw [HL2.out]; exact hfn)
              have HWQ := Lib.hid (HWY.out q f hqn hfn)
              have HWE := Lib.hid (HWD.out q f)
              have HWN : Hid (wayB t l q f = true → ∀ a, a < f + 1 → wayB t l q a = true) := Lib.hid (fun h a ha => by
               by_cases e : a = f
               ·subst e; exact h
               ·exact HWF.out a (by omega))
              generalize wayB t l q f = wb at *
              generalize underC t (cntsL l) f (q : Int) = us at *
              generalize l[q]!.closed[f]! = cb at *
              generalize l[q]!.chan[f]! = cs at *
              generalize hzl : cs.length = k2 at *
              have HZL := Lib.hid hzl
              clear hc2 hbc hx9 hy2 hl2 hb2 hz3 hzl
              go_wp2_with fail
              refine HUW.out.mono ?_
              rintro e w8 ⟨v8, rfl, hR8, hX8⟩
              obtain ⟨x8, y8, rfl, hz8⟩ := hR8.any
              have HR8 := Lib.hid hR8
              have HX8 := Lib.hid hX8
              have q2 := hX8.cl q2
              have y1 := hX8.cl y1
              clear hR8 hX8 hz8 q1 t7
              cases cb with
              | false =>
                have HWF2 : Hid (wb = false) := Lib.hid (by rw [HWE.out]; rfl)
                have HA : Hid (ans = false) := Lib.hid (by rw [HAD.out, HWQ.out HWF2.out]; rfl)
                go_wp2
                go_ret
                exact ⟨by rw [HA.out]; rfl, HW7.out.trans' HX8.out⟩
              | true =>
                obtain ⟨eqb, heq⟩ : ∃ z, (us == cs) = z := ⟨_, rfl⟩
                have HEQ : Hid (wb = eqb) := Lib.hid (by rw [HWE.out, heq]; rfl)
                have HCE := Lib.hid (equal_int (.slice x8 us.length y8) (.slice z1 k2 z2) us cs w8 HR8.out.ints (HI2.out.ext (HW7.out.trans' HX8.out)) (by omega) (by rw [HZL.out]; exact HLC))
                rw [heq] at HCE
                clear heq
                go_wp2_with fail
                refine HCE.out.mono ?_
                rintro e w9 ⟨rfl, hX9⟩
                have HX9 := Lib.hid (HX8.out.trans' hX9)
                clear hX9
                cases eqb with
                | false =>
                  have HA : Hid (ans = false) := Lib.hid (by rw [HAD.out, HWQ.out HEQ.out]; rfl)
                  go_wp2
                  go_ret
                  exact ⟨by rw [HA.out]; rfl, HW7.out.trans' HX9.out⟩
                | true =>
                  go_wp2
                  go_roundg (n - (f + 1))
                  case measure => omega
                  case rel => exact ⟨f + 1, by omega, by omega, by go_num, (show Ext _ _ from HF.out.trans' HX9.out), (show Aside _ from HWN.out HEQ.out)⟩
end Go.Proofs.YtfagfooggcinoaaGreat
namespace Go.Proofs.YtfagfooggcinoaaGreat
open Go.RowKit
set_option linter.unusedVariables false
theorem uw_mem {t : Tr} {c : List Int} {f k : Nat} {q x : Int} (h : x ∈ uwTo t c q f k) : ∃ j, j < k ∧ uwB t c q (f, j) = true ∧ (ev t (f, j)).msg = x := by
 unfold uwTo at h
 obtain ⟨j, hj, e⟩ := List.mem_map.1 h
 obtain ⟨h1, h2⟩ := List.mem_filter.1 hj
 exact ⟨j, List.mem_range.1 h1, h2, e⟩
theorem uwB_parts {t : Tr} {c : List Int} {q : Int} {x : Eid} (h : uwB t c q x = true) : (ev t x).kind = 2 ∧ (ev t x).peer = q := by
 unfold uwB at h
 simp only [Bool.and_eq_true, decide_eq_true_eq] at h
 exact ⟨h.1, h.2.1⟩
theorem under_mem {t : Tr} {c : List Int} {f : Nat} {q x : Int} (hc : RangeC t c) (hf : f < t.length) (h : x ∈ underC t c f q) : ∃ j, Inn t (f, j) ∧ (j : Int) < c[f]! ∧ uwB t c q (f, j) = true ∧ (ev t (f, j)).msg = x := by
 unfold underC at h
 obtain ⟨j, hj, h1, h2⟩ := uw_mem h
 have hr := hc.at hf
 exact ⟨j, ⟨hf, by simp only; omega⟩, by omega, h1, h2⟩
theorem under_send {t : Tr} {c : List Int} {f : Nat} {q x : Int} (hv : validT t = true) (hc : RangeC t c) (hf : f < t.length) (h : x ∈ underC t c f q) : ∃ j, findE t 2 x = some (f, j) ∧ (ev t (f, j)).peer = q ∧ Inn t (f, j) ∧ (ev t (f, j)).kind = 2 ∧ (ev t (f, j)).msg = x := by
 obtain ⟨j, hin, _, hu, hm⟩ := under_mem hc hf h
 obtain ⟨h2, h3⟩ := uwB_parts hu
 have hp := (pairB_at (validT_parts2.1 hv).2.1 hin (by rw [h2]; decide)).1
 rw [h2, hm] at hp
 exact ⟨j, hp, h3, hin, h2, hm⟩
theorem under_self {t : Tr} {c : List Int} {q : Nat} (hv : validT t = true) (hc : RangeC t c) (hq : q < t.length) : underC t c q (q : Int) = [] := by
 cases h : underC t c q (q : Int) with
 | nil => rfl
 | cons x r =>
   obtain ⟨j, _, hp, hin, hk, _⟩ := under_send hv hc hq (x := x) (by rw [h]; simp)
   have := (shape_peers hv hin (by rw [hk]; decide)).2.2.1
   simp only at this
   omega
theorem under_range {t : Tr} {c : List Int} {f : Nat} {q x : Int} (hv : validT t = true) (hc : RangeC t c) (hf : f < t.length) (h : x ∈ underC t c f q) : 0 ≤ x ∧ x ≤ 199 := by
 obtain ⟨j, _, _, hin, hk, hm⟩ := under_send hv hc hf h
 have := shape_peers hv hin (by rw [hk]; decide)
 rw [hm] at this
 exact this.2.2.2
theorem under_apart {t : Tr} {c : List Int} {f f' : Nat} {q q' x : Int} (hv : validT t = true) (hc : RangeC t c) (hf : f < t.length) (hf' : f' < t.length) (h : x ∈ underC t c f q) (h' : x ∈ underC t c f' q') : f = f' ∧ q = q' := by
 obtain ⟨j, e1, p1, _⟩ := under_send hv hc hf h
 obtain ⟨j', e2, p2, _⟩ := under_send hv hc hf' h'
 rw [e1] at e2
 simp only [Option.some.injEq, Prod.mk.injEq] at e2
 obtain ⟨rfl, rfl⟩ := e2
 exact ⟨rfl, p1.symm.trans p2⟩
theorem under_nodup {t : Tr} {c : List Int} {f : Nat} {q : Int} (hv : validT t = true) (hc : RangeC t c) (hf : f < t.length) : (underC t c f q).Nodup := by
 unfold underC uwTo List.Nodup
 rw [List.pairwise_map]
 have hp : ((List.range c[f]!.toNat).filter fun (j : Nat) => uwB t c q (f, j)).Pairwise (· < ·) := List.Pairwise.filter _ List.pairwise_lt_range
 refine List.Pairwise.imp_of_mem ?_ hp
 intro a b ha hb hab he
 have hr := hc.at hf
 obtain ⟨ha1, ha2⟩ := List.mem_filter.1 ha
 obtain ⟨hb1, hb2⟩ := List.mem_filter.1 hb
 have ha1 := List.mem_range.1 ha1
 have hb1 := List.mem_range.1 hb1
 obtain ⟨ka, _⟩ := uwB_parts ha2
 obtain ⟨kb, _⟩ := uwB_parts hb2
 have ea := (pairB_at (validT_parts2.1 hv).2.1 (x := (f, a)) ⟨hf, by simp only; omega⟩ (by rw [ka]; decide)).1
 have eb := (pairB_at (validT_parts2.1 hv).2.1 (x := (f, b)) ⟨hf, by simp only; omega⟩ (by rw [kb]; decide)).1
 rw [ka] at ea
 rw [kb] at eb
 rw [he, eb] at ea
 simp only [Option.some.injEq, Prod.mk.injEq, true_and] at ea
 omega
section
variable {t : Tr} {c : List Int}
def cutM (t : Tr) (c : List Int) : List Mk := cutL t.length c (fun f q => underC t c f (q : Int))
theorem cutM_len : (cutM t c).length = t.length := cutL_len
theorem cutM_at {q : Nat} (hq : q < t.length) : (cutM t c)[q]! = ⟨c[q]!, List.replicate t.length true, (List.range t.length).map fun f => underC t c f (q : Int)⟩ := cutL_at hq
theorem cutM_cnts (hl : c.length = t.length) : cntsL (cutM t c) = c := by
 refine listG_ext (by rw [cnts_len, cutM_len, hl]) fun i hi => ?_
 rw [cnts_len, cutM_len] at hi
 rw [cnts_at (by rw [cutM_len]; exact hi), cutM_at hi]
theorem cutM_ok (hv : validT t = true) (hc : RangeC t c) : OkMs (allMsgs (cutM t c)) := by
 constructor
 ·unfold allMsgs List.Nodup cutM cutL
  rw [List.flatMap_map, List.pairwise_flatMap]
  constructor
  ·intro q hq
   rw [List.pairwise_flatten]
   constructor
   ·intro l hl
    obtain ⟨f, hf, rfl⟩ := List.mem_map.1 hl
    exact under_nodup hv hc (List.mem_range.1 hf)
   ·rw [List.pairwise_map]
    refine List.Pairwise.imp_of_mem ?_ List.pairwise_lt_range
    intro a b ha hb hab x hx y hy e
    subst e
    have := (under_apart hv hc (List.mem_range.1 ha) (List.mem_range.1 hb) hx hy).1
    omega
  ·refine List.Pairwise.imp_of_mem ?_ List.pairwise_lt_range
   intro a b ha hb hab x hx y hy e
   subst e
   obtain ⟨l1, hl1, hx⟩ := List.mem_flatten.1 hx
   obtain ⟨l2, hl2, hy⟩ := List.mem_flatten.1 hy
   obtain ⟨f1, hf1, rfl⟩ := List.mem_map.1 hl1
   obtain ⟨f2, hf2, rfl⟩ := List.mem_map.1 hl2
   have := (under_apart hv hc (List.mem_range.1 hf1) (List.mem_range.1 hf2) hx hy).2
   omega
 ·intro y hy
  unfold allMsgs cutM cutL at hy
  obtain ⟨m, hm, hy⟩ := List.mem_flatMap.1 hy
  obtain ⟨q, hq, rfl⟩ := List.mem_map.1 hm
  obtain ⟨l, hl, hy⟩ := List.mem_flatten.1 hy
  obtain ⟨f, hf, rfl⟩ := List.mem_map.1 hl
  exact under_range hv hc (List.mem_range.1 hf) hy
theorem cutM_valid (hv : validT t = true) (hc : RangeC t c) : validK (cutM t c) = true := by
 have h8 := valid_8 hv
 refine validK_yes (by rw [cutM_len]; exact h8.1) (by rw [cutM_len]; exact h8.2) (fun i hi => ?_) (cutM_ok hv hc)
 rw [cutM_len] at hi ⊢
 have hr := hc.at hi
 have h64 := valid_64 hv hi
 rw [cutM_at hi, markB_eq (by simp only; omega) (by simp only; omega) (by simp) (by simp), if_neg (by simp only; omega)]
 simp only
 rw [rep_get hi, mapR_at _ hi, under_self hv hc hi]; rfl
end
def turnsB (t : Tr) (red : List Int) : Bool := (List.range red.length).all fun p => decide (-1 ≤ red[p]!) && decide (red[p]! ≤ (t[p]!.events.length : Int))
theorem turns_at {t : Tr} {red : List Int} (h : turnsB t red = true) {p : Nat} (hp : p < red.length) : -1 ≤ red[p]! ∧ red[p]! ≤ (t[p]!.events.length : Int) := by
 unfold turnsB at h
 rw [List.all_eq_true] at h
 have := h p (List.mem_range.2 hp)
 simpa using this
theorem turns_range {t : Tr} {red : List Int} (hl : red.length = t.length) (h : turnsB t red = true) : RangeC t (redC t red) := by
 refine ⟨by rw [redC_len, hl], rangeB_iff.2 fun p hp => ?_⟩
 rw [redC_len] at hp
 have := turns_at h hp
 unfold redC
 rw [mapR_at _ hp]
 by_cases e : red[p]! = -1
 ·rw [if_pos e]; omega
 ·rw [if_neg e]; omega
theorem lay_zero {t : Tr} {red : List Int} (hv : validT t = true) (hl : red.length = t.length) (h : turnsB t red = true) : layE t red = 0 ∧ layM t red = cutM t (openC t (redC t red)) := by
 have hr := turns_range hl h
 have h0 : layE t red = 0 := by
  unfold layE repE
  rw [if_neg (by rw [hv]; simp), if_neg (fun hh => hh hl), if_pos (by rw [hv, show fitsB t (redC t red) = true from decide_eq_true hr.1]; rfl), if_pos hr.2]
 refine ⟨h0, ?_⟩
 unfold layM
 rw [if_pos h0]; rfl
end Go.Proofs.YtfagfooggcinoaaGreat
namespace Go.Proofs.YtfagfooggcinoaaGreat
open Go.RowKit
set_option linter.unusedVariables false
def lensTo (t : Tr) (p : Nat) : List Int := (List.range p).map fun (q : Nat) => (t[q]!.events.length : Int)
def lensC (t : Tr) : List Int := lensTo t t.length
end Go.Proofs.YtfagfooggcinoaaGreat
