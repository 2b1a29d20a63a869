/-
  Records, and the writer of chapter 52.
-/
import Derived.Test.YtggofkaakccoeaaBase
import Derived.Test.YtggofkaakccoeaaProg
import Derived.BigQuiet
import Derived.Deep.QuietTactic
import Derived.Deep.LoopGhost
import Derived.Shelf.Abstract
import Derived.Test.YtggofkaakccoeaaJourA52
namespace Go.Proofs.Ytggofkaakccoeaa
open Go.RowKit
set_option linter.unusedVariables false

set_option maxHeartbeats 1000000 in
theorem record_calls (v : Value) (l : List Int) (w : World) (hv : Bys w v l) (hn : l.length ≤ 200000) :
    Calls Try.prog 42 #[v] w fun e w' => ∃ v', e = .returned v' ∧ Row w' w.heap.size 5 1 v' (l.length + 8) ((recL l).map (Value.int .u8)) ∧ Ext w w' := by
  obtain ⟨i, hi, hz0, hz1, hz2⟩ := info_parts info_byte
  have hby := hv.1
  obtain ⟨a, c, hve⟩ : ∃ a c, v = .slice a l.length c := by obtain ⟨_, a, c, h, _⟩ := hv; exact ⟨a, c, h⟩
  subst hve
  have HV := Lib.hid hv; clear hv
  have HBY := Lib.hid hby; clear hby
  have HNL := Lib.hid hn
  generalize hln : l.length = n at *
  have HL := Lib.hid hln; clear hln
  have hconv : IntKind.u64.wrap (n : Int) = n := by rw [IntKind.wrap_u64]; omega
  go_enter Try.func42, Try.ntmps42
  go_wp2_with fail
  refine (number_calls (.slice none 0 0) [] n 4 w.heap.size _ (Row.mkNil _ _ _ _) (Nat.le_refl _) (by simp) (by omega) (by omega) (by omega)).mono ?_
  rintro e w1 ⟨v1, rfl, hR1, hB1⟩
  have HR1 := Lib.hid hR1; clear hR1
  have HB1 := Lib.hid hB1; clear hB1
  go_wp2_with ((at_builtin; refine wpList_append_row rfl _ _ 22 rfl w.heap.size 5 i (.int .u8 0) 1 1 Try.underlying22 hi hz0 hz1 hz2 rfl (by decide) v1 4 _ rfl HR1.out a n c (l.map (Value.int .u8)) rfl (by simp [HL.out]) ((HV.out.ext HB1.out).news) (byte_one l) (by unfold maxLen; omega) (by omega) (by have := HB1.out.size; omega) ?_; intro v2 w2 hR2 hG2 hK2))
  have hR2' : Row w2 w.heap.size 5 1 v2 (wordL n 4 ++ l).length ((wordL n 4 ++ l).map (Value.int .u8)) := by
    rw [List.length_append, word_len, HL.out, List.map_append]
    exact hR2
  have hE2 : Ext w w2 := Ext.gr HB1.out hG2 (fun k hk => (HR1.out.lt k hk).1)
  have hbl : ∀ x, x ∈ wordL n 4 ++ l → Byte x := by
    intro x hx
    rcases List.mem_append.1 hx with hx | hx
    · exact word_byte _ _ x hx
    · exact HBY.out x hx
  have hlen : (wordL n 4 ++ l).length = n + 4 := by rw [List.length_append, word_len, HL.out]; omega
  have hB2 := hR2'.bys hbl
  have hs := sum_range (wordL n 4 ++ l)
  have HR2 := Lib.hid hR2'
  have HE2 := Lib.hid hE2
  have HB2 := Lib.hid hB2
  have HLEN := Lib.hid hlen
  clear hR2 hR2' hG2 hK2 hE2 hbl hlen hB2 HR1 HB1
  obtain ⟨s, hsum⟩ : ∃ s, sumL (wordL n 4 ++ l) = s := ⟨_, rfl⟩
  rw [hsum] at hs
  have HS := Lib.hid hsum; clear hsum
  have hconv2 : IntKind.u64.wrap s = s := by rw [IntKind.wrap_u64]; omega
  go_wp2_with (first | (go_at_call 66; refine (sum_calls _ _ _ HB2.out (by rw [HLEN.out]; omega)).mono ?_; rw [HS.out]; rintro e w3 ⟨rfl, rfl⟩) | (go_at_call 54; refine (number_calls _ _ s 4 w.heap.size _ HR2.out HE2.out.sz (by rw [HLEN.out]; omega) (by omega) (by omega) (by omega)).mono ?_; rintro e w4 ⟨v4, rfl, hR4, hB4⟩))
  go_ret
  refine ⟨_, rfl, ?_, Below.trans HE2.out hB4⟩
  rw [HLEN.out, List.map_append] at hR4
  unfold recL
  rw [HL.out, HS.out, List.map_append, List.map_append] at *
  exact hR4

/-- The writer at g, whose bytes l lie in v, its own. -/
def Writer (w : World) (base g : Nat) (v : Value) (l : List Int) (d f : Int) (cr : Bool) : Prop :=
  base ≤ g ∧ w.heap[g]? = some (.cells #[v, .int .i64 d, .int .i64 f, .bool cr] 89 (0, 0)) ∧ Row w base 5 1 v l.length (l.map (Value.int .u8)) ∧ v.ownBlock ≠ some g

set_option maxHeartbeats 1000000 in
theorem open_calls (v : Value) (l : List Int) (d f : Int) (w : World) (hv : Bys w v l) (hn : l.length ≤ 1000000) :
    Calls Try.prog 39 #[.agg #[v, .int .i64 d, .int .i64 f]] w fun e w' => ∃ g v', e = .returned (.pointer (some ⟨g, 0, none⟩)) ∧ Writer w' w.heap.size g v' l d f false ∧ Ext w w' := by
  have HV := Lib.hid hv.cells; clear hv
  have HN := Lib.hid hn; clear hn
  go_enter Try.func39, Try.ntmps39
  go_wp2_with fail
  refine (clone_bytes _ _ _ _ (HV.out.ext ((Ext.rf w).al _)) (byte_one l) HN.out).mono ?_
  rintro e w1 ⟨v1, rfl, hR1, hE1⟩
  have hsz := hE1.sz
  have hc0 := hE1.cl (cell_new w #[v, .int .i64 d, .int .i64 f] 24 0 v rfl)
  have hc1 := hE1.cl (cell_new w #[v, .int .i64 d, .int .i64 f] 24 1 (.int .i64 d) rfl)
  have hc2 := hE1.cl (cell_new w #[v, .int .i64 d, .int .i64 f] 24 2 (.int .i64 f) rfl)
  have hh := hE1.hp (heap_alloc_new w (.cells #[v, .int .i64 d, .int .i64 f] 24))
  have hfr : w1.frozen? ⟨w.heap.size, 0, none⟩ = false := by simp [World.frozen?, hh]
  obtain ⟨a1, c1, rfl, _, hsh⟩ := hR1.any
  clear hsh
  have hlt1 := fun k hk => (hR1.lt k hk)
  have HR1 := Lib.hid hR1; clear hR1
  have HE1 := Lib.hid hE1; clear hE1
  have HH := Lib.hid hh; clear hh
  have HLT := Lib.hid hlt1; clear hlt1
  go_wp2
  go_ret
  have hne : (Value.slice a1 l.length c1).ownBlock ≠ some w.heap.size := fun hk => by
    have := (HLT.out _ hk).1
    simp at this
    omega
  refine ⟨_, _, rfl, ⟨?_, heap_new_eq (by simp [size_setCell]) , ((HR1.out.st hne _).al _).mono (by simp), fun hk => ?_⟩, ?_⟩
  · simp at hsz; omega
  · have := (HLT.out _ hk).2
    simp [World.setCell] at this
  · exact (Ext.st ((Ext.rf w).al _ |>.trans' HE1.out) (Nat.le_refl _) _).al _

def wrote (f : Int) (b : List Int) : List Int := if f < 0 then b else b.take f.toNat
def leftF (f : Int) (b : List Int) : Int := if f < 0 then f else if (b.length : Int) ≤ f then f - b.length else 0
def crashF (f : Int) (b : List Int) : Bool := decide (0 ≤ f) && decide (f < b.length)

theorem cell_of {w : World} {g : Nat} {cs : Array Value} {e : TypeId} {fr : Nat × Nat} (h : w.heap[g]? = some (.cells cs e fr)) (i : Nat) : w.cell? ⟨g, i, none⟩ = cs[i]? := by simp [World.cell?, h]
theorem free_of {w : World} {g : Nat} {cs : Array Value} {e : TypeId} (h : w.heap[g]? = some (.cells cs e (0, 0))) (i : Nat) : w.frozen? ⟨g, i, none⟩ = false := by simp [World.frozen?, h]

def curF (f : Int) (k : Nat) : Int := if f < 0 then f else f - k
/-- The bytes' own block is none of the writer's. -/
def Apart (v u : Value) (g : Nat) : Prop := ∀ k, v.ownBlock = some k → k ≠ g ∧ u.ownBlock ≠ some k

theorem Bys.heap {w w' : World} {v : Value} {l : List Int} (h : Bys w v l) (hh : ∀ k, v.ownBlock = some k → k < w.heap.size → w'.heap[k]? = w.heap[k]?) (hs : w.heap.size ≤ w'.heap.size) : Bys w' v l := by
  obtain ⟨h0, a, c, rfl, hlc, h⟩ := h
  refine ⟨h0, a, c, rfl, hlc, fun hl => ?_⟩
  obtain ⟨b, off, rfl, hb, hc⟩ := h hl
  refine ⟨b, off, rfl, Nat.lt_of_lt_of_le hb hs, fun i hi => ?_⟩
  rw [← hc i hi]
  unfold World.cell?
  simp only [hh b rfl hb]

theorem heap_kept {w w5 : World} {o X : Obj} {row : Option Nat} {g : Nat} (hg : (w.alloc o).grownBy w5 row) (hne : row ≠ some g) (h : w.heap[g]? = some X) : w5.heap[g]? = some X := by
  have hl := (Array.getElem?_eq_some_iff.1 h).1
  rw [hg.block g (by simp; omega) (fun e => hne e.symm)]
  exact ((Ext.rf w).al o).hp h

theorem Bys.lt {w : World} {v : Value} {l : List Int} (h : Bys w v l) (hne : l ≠ []) : ∀ k, v.ownBlock = some k → k < w.heap.size := by
  intro k hk
  obtain ⟨_, a, c, rfl, _, h⟩ := h
  obtain ⟨b, off, rfl, hb, _⟩ := h hne
  simp [Value.ownBlock] at hk
  omega
theorem heap_set0 {w : World} {g : Nat} {v v' x y z : Value} {e : TypeId} (h : w.heap[g]? = some (.cells #[v, x, y, z] e (0, 0))) : (w.setCell ⟨g, 0, none⟩ v').heap[g]? = some (.cells #[v', x, y, z] e (0, 0)) := by
  rw [heap_setCell_same h]; simp
theorem heap_set1 {w : World} {g : Nat} {v y' x y z : Value} {e : TypeId} (h : w.heap[g]? = some (.cells #[v, x, y, z] e (0, 0))) : (w.setCell ⟨g, 1, none⟩ y').heap[g]? = some (.cells #[v, y', y, z] e (0, 0)) := by
  rw [heap_setCell_same h]; simp
theorem heap_set2 {w : World} {g : Nat} {v y' x y z : Value} {e : TypeId} (h : w.heap[g]? = some (.cells #[v, x, y, z] e (0, 0))) : (w.setCell ⟨g, 2, none⟩ y').heap[g]? = some (.cells #[v, x, y', z] e (0, 0)) := by
  rw [heap_setCell_same h]; simp
theorem heap_set3 {w : World} {g : Nat} {v y' x y z : Value} {e : TypeId} (h : w.heap[g]? = some (.cells #[v, x, y, z] e (0, 0))) : (w.setCell ⟨g, 3, none⟩ y').heap[g]? = some (.cells #[v, x, y, y'] e (0, 0)) := by
  rw [heap_setCell_same h]; simp
theorem heap_far {w : World} {p : Addr} {k : Nat} {u : Value} (h : k ≠ p.block) : (w.setCell p u).heap[k]? = w.heap[k]? := Below.heap_setCell w p u k h
theorem heap_alloc_lt {w : World} {o : Obj} {k : Nat} (h : k < w.heap.size) : (w.alloc o).heap[k]? = w.heap[k]? := ((Ext.rf w).al o).block k h


set_option maxHeartbeats 2000000 in
set_option maxRecDepth 100000 in
theorem write_calls (g base : Nat) (u : Value) (l : List Int) (d f : Int) (v : Value) (b : List Int) (w : World) (hw : Writer w base g u l d f false) (hbase : base ≤ w.heap.size) (hv : Bys w v b) (hn : b.length ≤ 1000000) (hn2 : l.length ≤ 1000000) (hf : -1 ≤ f) (hf2 : f ≤ 1073741824) (hdisj : Apart v u g) :
    Calls Try.prog 41 #[.pointer (some ⟨g, 0, none⟩), v] w fun e w' => (∃ x, e = .returned x) ∧ (∃ u', Writer w' base g u' (l ++ wrote f b) d (leftF f b) (crashF f b)) ∧ Below base w w' := by
  obtain ⟨i, hi, hz0, hz1, hz2⟩ := info_parts info_byte
  have hvb := hv
  obtain ⟨_, a, c, rfl, _, hvc⟩ := hv
  clear hvc
  generalize hln : b.length = n at hn hdisj ⊢
  rw [hln] at hvb
  have HL := Lib.hid hln
  have HV := Lib.hid hvb
  have HW := Lib.hid hw
  have HD := Lib.hid hdisj
  have HBS := Lib.hid hbase
  have hgl : g < w.heap.size := (Array.getElem?_eq_some_iff.1 hw.2.1).1
  clear hln hvb hw hdisj hbase
  go_enter Try.func41, Try.ntmps41
  go_wp2
  go_loopg [8] n (fun m s8 wr => ∃ k : Nat, k ≤ n ∧ n - k ≤ m ∧ s8 = .int .i64 k ∧ Aside (f < 0 ∨ (k : Int) ≤ f) ∧ Aside (∃ u', Writer wr base g u' (l ++ b.take k) d (curF f k) false ∧ (u'.ownBlock = u.ownBlock ∨ ∃ kk, u'.ownBlock = some kk ∧ w.heap.size ≤ kk)) ∧ Aside (Below base w wr) ∧ Aside (Bys wr (.slice a n c) b))
  case atStart => exact ⟨0, Nat.zero_le _, by omega, rfl, (show f < 0 ∨ _ by omega), ⟨u, by rw [List.take_zero, List.append_nil]; unfold curF; simpa using HW.out, .inl rfl⟩, Below.refl _ _, HV.out⟩
  case round =>
    obtain ⟨k, hk, hm, rfl, FK, ⟨u', HWR, HU⟩, HB, HVR⟩ := hrel
    obtain ⟨hbg, hcell, hrow, hne⟩ := HWR
    obtain ⟨ua, uc, rfl, _, hsh⟩ := hrow.any
    clear hsh
    have hBz := HB.out.size
    obtain ⟨fk, hfk⟩ : ∃ fk, curF f k = fk := ⟨_, rfl⟩
    rw [hfk] at hcell
    have HFK := Lib.hid hfk
    have hfr : -1 ≤ fk ∧ fk ≤ 1073741824 := by
      unfold curF at hfk
      rcases FK.out with h | h <;> split at hfk <;> omega
    have hlu : (l ++ b.take k).length = l.length + k := by rw [List.length_append, List.length_take, HL.out]; omega
    rw [hlu] at hcell hrow hne HU
    obtain ⟨q, hq⟩ : ∃ q, l.length + k = q := ⟨_, rfl⟩
    rw [hq] at hcell hrow hne HU
    have hq2 : q ≤ 2000000 := by omega
    have HLU := Lib.hid (hlu.trans hq)
    clear hlu hq
    have HCELL := Lib.hid hcell
    have HROW := Lib.hid hrow
    have HNE := Lib.hid hne
    have HU' := Lib.hid HU
    clear hfk hrow hne HU
    by_cases hlt : k < n
    · have hltz : (k : Int) < (n : Int) := by omega
      obtain ⟨x0, _, _, hve, _, hvc⟩ := HVR.out
      obtain ⟨bb, off, hba, hbb, hbc⟩ := hvc (by intro e; have := HL.out; simp [e] at this; omega)
      simp only [Value.slice.injEq] at hve
      obtain ⟨rfl, hjunk, rfl⟩ := hve
      clear hjunk
      subst hba
      have hx := hbc k (by rw [HL.out]; exact hlt)
      obtain ⟨x1, x2⟩ := x0 _ (mem_at b k (by rw [HL.out]; exact hlt))
      have ST := Lib.hid (take_snoc' b k (by rw [HL.out]; exact hlt))
      clear hbc hvc
      generalize b[k]! = x at *
      have c0 := cell_of hcell 0
      have c1 := cell_of hcell 1
      have c2 := cell_of hcell 2
      have c3 := cell_of hcell 3
      have fr0 := free_of hcell 0
      have fr2 := free_of hcell 2
      have fr3 := free_of hcell 3
      simp only [List.getElem?_toArray, List.getElem?_cons_zero, List.getElem?_cons_succ] at c0 c1 c2 c3
      clear hcell x0
      by_cases h0 : fk = 0
      · have e0 : (fk == 0) = true := by simpa using h0
        have FK0 := Lib.hid h0; clear h0
        go_wp2
        refine bodyPost_ret (v := .tuple #[]) (by simp [results, Try.results41, go_sem]) rfl ⟨⟨_, rfl⟩, ⟨_, hbg, ?_, ?_, HNE.out⟩, HB.out.setCell hbg _⟩
        · rw [heap_set3 HCELL.out, FK0.out]
          have h1' := FK.out; have h2' := HFK.out; have h3' := FK0.out; unfold curF at h2'
          have hF : f = k := by split at h2' <;> omega
          rw [show leftF f b = 0 from by unfold leftF; rw [if_neg (by omega)]; split <;> have := HL.out <;> omega]
          rw [show crashF f b = true from by have := HL.out; simp [crashF]; omega]
        · have h1' := FK.out; have h2' := HFK.out; have h3' := FK0.out; unfold curF at h2'
          have hF : f = k := by split at h2' <;> omega
          rw [show wrote f b = b.take k from by unfold wrote; rw [if_neg (by omega), hF, Int.toNat_natCast], HLU.out]
          exact HROW.out.st HNE.out _
      · have e0 : (fk == 0) = false := by simpa using h0
        have FK0 := Lib.hid h0; clear h0
        by_cases h1 : 0 < fk
        · go_wp2_with ((at_builtin; refine wpList_append_one rfl _ _ 22 rfl base 5 i (.int .u8 0) 1 1 Try.underlying22 hi hz0 hz1 hz2 rfl (by decide) _ _ _ rfl (HROW.out.al _) wr.heap.size 1 [.int .u8 x] rfl rfl ⟨_, heap_alloc_new _ _⟩ (by simp [Value.oneCell']) (by unfold maxLen; omega) (by omega) (by simp; have := HBS.out; omega) ?_; intro v5 w5 hown5 hgrow5 hblk5; obtain ⟨va, vc, rfl, _, hsh5⟩ := hown5.any; clear hsh5; have h5 := heap_kept hgrow5 HNE.out HCELL.out; have hs5 := hgrow5.size; have d0 := cell_of h5 0; have d1 := cell_of h5 1; have d2 := cell_of h5 2; have d3 := cell_of h5 3; have fr0 := free_of h5 0; have fr2 := free_of h5 2; have fr3 := free_of h5 3; simp only [List.getElem?_toArray, List.getElem?_cons_zero, List.getElem?_cons_succ] at d0 d1 d2 d3; have H5 := Lib.hid h5; have HOWN := Lib.hid hown5; have HGROW := Lib.hid hgrow5; have HBLK := Lib.hid hblk5; clear h5 hown5 hgrow5 hblk5))
          go_roundg (n - (k + 1))
          case measure => omega
          case rel =>
            have hne5 : (Value.slice va (q + 1) vc).ownBlock ≠ some g := by
              rcases HBLK.out with h | ⟨kk, h, hk2⟩
              · rw [h]; exact HNE.out
              · rw [h]; intro e; simp only [Option.some.injEq] at e; subst e; simp at hk2; omega
            have hU5 : (Value.slice va (q + 1) vc).ownBlock = u.ownBlock ∨ ∃ kk, (Value.slice va (q + 1) vc).ownBlock = some kk ∧ w.heap.size ≤ kk := by
              rcases HBLK.out with h | ⟨kk, h, hk2⟩
              · rw [h]; exact HU'.out
              · simp at hk2; exact .inr ⟨kk, h, by omega⟩
            have hlen5 : (l ++ b.take (k + 1)).length = q + 1 := by
              have := HLU.out
              rw [ST.out, ← List.append_assoc, List.length_append, this]; rfl
            have hmap5 : (l ++ b.take (k + 1)).map (Value.int .u8) = (l ++ b.take k).map (Value.int .u8) ++ [.int .u8 x] := by
              rw [ST.out, ← List.append_assoc, List.map_append]; rfl
            have hvis : ∀ kk, (Value.slice (some ⟨bb, off, none⟩) n c).ownBlock = some kk → kk < wr.heap.size → kk ≠ g ∧ w5.heap[kk]? = wr.heap[kk]? := by
              intro kk hkk hl
              have h1 := HD.out kk hkk
              have h2 := HV.out.lt (by intro e; have := HL.out; simp [e] at this; omega) kk hkk
              refine ⟨h1.1, ?_⟩
              rw [HGROW.out.block kk (by simp; omega) (fun e => ?_), heap_alloc_lt hl]
              have e : some kk = (Value.slice ua q uc).ownBlock := e
              rcases HU'.out with h | ⟨k3, h, hk3⟩
              · rw [h] at e; exact h1.2 e.symm
              · rw [h] at e; simp only [Option.some.injEq] at e; omega
            refine ⟨k + 1, by omega, by omega, by go_num, (show _ ∨ _ from ?_), (show ∃ u', _ from ⟨_, ⟨hbg, ?_, ?_, hne5⟩, hU5⟩), (show Below _ _ _ from ?_), (show Bys _ _ _ from ?_)⟩
            · have h1' := FK.out; have h2' := HFK.out; unfold curF at h2'; split at h2' <;> omega
            · rw [show curF f (k + 1) = fk - 1 from by have h1' := FK.out; have h2' := HFK.out; unfold curF at h2' ⊢; split at h2' <;> omega]
              exact heap_set2 (heap_set0 H5.out)
            · rw [hlen5, hmap5]; exact (HOWN.out.st hne5 _).st hne5 _
            · exact ((Below.grown (Below.alloc HB.out (Nat.le_trans HBS.out hBz) _) HGROW.out (by simp; have := HBS.out; omega) (fun kk hk2 => (HROW.out.lt kk hk2).1)).setCell hbg _).setCell hbg _
            · refine HVR.out.heap (fun kk hkk hl => ?_) (by simp [size_setCell] at hs5 ⊢; omega)
              obtain ⟨h1, h2⟩ := hvis kk hkk hl
              rw [heap_far h1, heap_far h1, h2]
        · go_wp2_with ((at_builtin; refine wpList_append_one rfl _ _ 22 rfl base 5 i (.int .u8 0) 1 1 Try.underlying22 hi hz0 hz1 hz2 rfl (by decide) _ _ _ rfl (HROW.out.al _) wr.heap.size 1 [.int .u8 x] rfl rfl ⟨_, heap_alloc_new _ _⟩ (by simp [Value.oneCell']) (by unfold maxLen; omega) (by omega) (by simp; have := HBS.out; omega) ?_; intro v5 w5 hown5 hgrow5 hblk5; obtain ⟨va, vc, rfl, _, hsh5⟩ := hown5.any; clear hsh5; have h5 := heap_kept hgrow5 HNE.out HCELL.out; have hs5 := hgrow5.size; have d0 := cell_of h5 0; have d1 := cell_of h5 1; have d2 := cell_of h5 2; have d3 := cell_of h5 3; have fr0 := free_of h5 0; have fr2 := free_of h5 2; have fr3 := free_of h5 3; simp only [List.getElem?_toArray, List.getElem?_cons_zero, List.getElem?_cons_succ] at d0 d1 d2 d3; have H5 := Lib.hid h5; have HOWN := Lib.hid hown5; have HGROW := Lib.hid hgrow5; have HBLK := Lib.hid hblk5; clear h5 hown5 hgrow5 hblk5))
          go_roundg (n - (k + 1))
          case measure => omega
          case rel =>
            have hne5 : (Value.slice va (q + 1) vc).ownBlock ≠ some g := by
              rcases HBLK.out with h | ⟨kk, h, hk2⟩
              · rw [h]; exact HNE.out
              · rw [h]; intro e; simp only [Option.some.injEq] at e; subst e; simp at hk2; omega
            have hU5 : (Value.slice va (q + 1) vc).ownBlock = u.ownBlock ∨ ∃ kk, (Value.slice va (q + 1) vc).ownBlock = some kk ∧ w.heap.size ≤ kk := by
              rcases HBLK.out with h | ⟨kk, h, hk2⟩
              · rw [h]; exact HU'.out
              · simp at hk2; exact .inr ⟨kk, h, by omega⟩
            have hlen5 : (l ++ b.take (k + 1)).length = q + 1 := by
              have := HLU.out
              rw [ST.out, ← List.append_assoc, List.length_append, this]; rfl
            have hmap5 : (l ++ b.take (k + 1)).map (Value.int .u8) = (l ++ b.take k).map (Value.int .u8) ++ [.int .u8 x] := by
              rw [ST.out, ← List.append_assoc, List.map_append]; rfl
            have hvis : ∀ kk, (Value.slice (some ⟨bb, off, none⟩) n c).ownBlock = some kk → kk < wr.heap.size → kk ≠ g ∧ w5.heap[kk]? = wr.heap[kk]? := by
              intro kk hkk hl
              have h1 := HD.out kk hkk
              have h2 := HV.out.lt (by intro e; have := HL.out; simp [e] at this; omega) kk hkk
              refine ⟨h1.1, ?_⟩
              rw [HGROW.out.block kk (by simp; omega) (fun e => ?_), heap_alloc_lt hl]
              have e : some kk = (Value.slice ua q uc).ownBlock := e
              rcases HU'.out with h | ⟨k3, h, hk3⟩
              · rw [h] at e; exact h1.2 e.symm
              · rw [h] at e; simp only [Option.some.injEq] at e; omega
            refine ⟨k + 1, by omega, by omega, by go_num, (show _ ∨ _ from ?_), (show ∃ u', _ from ⟨_, ⟨hbg, ?_, ?_, hne5⟩, hU5⟩), (show Below _ _ _ from ?_), (show Bys _ _ _ from ?_)⟩
            · have h1' := FK.out; have h2' := HFK.out; have h3' := FK0.out; unfold curF at h2'; split at h2' <;> omega
            · rw [show curF f (k + 1) = fk from by have h1' := FK.out; have h2' := HFK.out; have h3' := FK0.out; unfold curF at h2' ⊢; split at h2' <;> omega]
              exact heap_set0 H5.out
            · rw [hlen5, hmap5]; exact HOWN.out.st hne5 _
            · exact (Below.grown (Below.alloc HB.out (Nat.le_trans HBS.out hBz) _) HGROW.out (by simp; have := HBS.out; omega) (fun kk hk2 => (HROW.out.lt kk hk2).1)).setCell hbg _
            · refine HVR.out.heap (fun kk hkk hl => ?_) (by simp [size_setCell] at hs5 ⊢; omega)
              obtain ⟨h1, h2⟩ := hvis kk hkk hl
              rw [heap_far h1, h2]
    · have hltz : ¬ (k : Int) < (n : Int) := by omega
      obtain rfl : k = n := by omega
      go_wp2
      have h1' := FK.out; have h2' := HFK.out; have h3' := HL.out; unfold curF at h2'
      have htk : b.take k = b := List.take_of_length_le (by omega)
      have hROW := HROW.out
      have hCELL := HCELL.out
      have hLU := HLU.out
      rw [htk] at hROW hLU
      refine bodyPost_end (v := .tuple #[]) (by simp [results, Try.results41, go_sem]) rfl ⟨⟨_, rfl⟩, ⟨_, hbg, ?_, ?_, HNE.out⟩, HB.out⟩
      · rw [hCELL]
        rw [show leftF f b = fk from by unfold leftF; repeat' split; all_goals (split at h2' <;> omega)]
        rw [show crashF f b = false from by simp [crashF]; omega]
      · rw [show wrote f b = b from by unfold wrote; split; rfl; exact List.take_of_length_le (by omega), hLU]
        exact hROW

end Go.Proofs.Ytggofkaakccoeaa
