/-
  The law MonlogTorn: its walk. (Under way.)
-/
import Derived.Test.YtggofkaakccoeaaBase
import Derived.Test.YtggofkaakccoeaaProg
import Derived.BigQuiet
import Derived.Deep.QuietTactic
import Derived.Deep.LoopGhost
import Derived.Shelf.Abstract
import Derived.Test.YtggofkaakccoeaaOpensL52
import Derived.Test.YtggofkaakccoeaaFnsB
import Derived.Test.YtggofkaakccoeaaTornL52
namespace Go.Proofs.Ytggofkaakccoeaa
open Go.RowKit
set_option linter.unusedVariables false

def beginsL (l : List (List Int)) (k : Nat) : List Int := (List.range k).map fun i => ((wholeR (l.take i) : Nat) : Int)
theorem beginsL_len (l : List (List Int)) (k : Nat) : (beginsL l k).length = k := by simp [beginsL]
theorem beginsL_succ (l : List (List Int)) (k : Nat) : beginsL l (k + 1) = beginsL l k ++ [((wholeR (l.take k) : Nat) : Int)] := by simp [beginsL, List.range_succ]
theorem beginsL_get (l : List (List Int)) (k i : Nat) (h : i < k) : (beginsL l k)[i]! = ((wholeR (l.take i) : Nat) : Int) := by
  rw [getElem!_pos _ i (by rw [beginsL_len]; exact h)]
  simp [beginsL]

theorem torn_says (l : List (List Int)) (w : World) (hl : ∀ r, r ∈ l → r.length ≤ 9223372036854775807) : SaysOf Try.prog RBys encOne 17 #[] (fun b => decide (100 < b.length)) l w := by
  intro x hx W vs hW hR
  obtain ⟨v, rfl, hb⟩ := hR
  exact torn1_calls v x W hb (hl x hx)


set_option maxHeartbeats 4000000 in
set_option maxRecDepth 100000 in
theorem torn_many (a : Option Addr) (n c : Nat) (x y : Int) (w : World) (h : 40 < n) :
    Calls Try.prog 4 #[.slice a n c, .int .u16 x, .int .u8 y] w fun e w' => e = .returned (.bool true) ∧ Ext w w' := by
  have b1 : decide (40 < (n : Int)) = true := by simp; omega
  go_enter Try.func4, Try.ntmps4
  go_wp2_with fail
  refine (awake_calls _).mono ?_
  rintro e w1 ⟨rfl, hE1⟩
  have HE1 := Lib.hid hE1
  clear hE1
  go_wp2
  go_ret
  exact ⟨by simp, HE1.out⟩

set_option maxHeartbeats 4000000 in
set_option maxRecDepth 100000 in
theorem torn_long (v : Value) (l : List (List Int)) (x y : Int) (w : World) (hv : Sl RBys 1 w v l) (hn : l.length ≤ 40) (hl : ∀ r, r ∈ l → r.length ≤ 9223372036854775807) (h : l.any (fun b => decide (100 < b.length)) = true) :
    Calls Try.prog 4 #[v, .int .u16 x, .int .u8 y] w fun e w' => e = .returned (.bool true) ∧ Ext w w' := by
  have HC := Lib.hid (fun W (hW : Ext w W) => containsFunc_bytes2 RBys rbys_lasts _ #[] enters_17 (fun b => decide (100 < b.length)) v l W (hv.ext rbys_lasts hW) (by omega) (torn_says l W hl))
  rw [h] at HC
  obtain ⟨a, c, rfl, hlc, hv⟩ := hv
  generalize l.length = n at *
  clear hv h hl
  have b1 : decide (40 < (n : Int)) = false := by simp; omega
  go_enter Try.func4, Try.ntmps4
  go_wp2_with fail
  refine (awake_calls _).mono ?_
  rintro e w1 ⟨rfl, hE1⟩
  have HE1 := Lib.hid hE1
  clear hE1
  go_wp2_with fail
  refine (HC.out _ HE1.out).mono ?_
  rintro e w2 ⟨rfl, hE2⟩
  have HE2 := Lib.hid (HE1.out.trans' hE2)
  clear hE2
  go_wp2
  go_ret
  exact ⟨by simp, HE2.out⟩

theorem sl_byte {w : World} {v : Value} {l : List (List Int)} (hv : Sl RBys 1 w v l) : ∀ r, r ∈ l → ∀ x, x ∈ r → Byte x := by
  intro r hr
  obtain ⟨i, hi, rfl⟩ := List.getElem_of_mem hr
  obtain ⟨a, c, rfl, _, h⟩ := hv
  obtain ⟨b, off, rfl, _, hc⟩ := h (by intro e; simp [e] at hi)
  obtain ⟨vs, _, ⟨u, _, hb⟩, _⟩ := hc i hi
  rw [getElem!_pos l i hi] at hb
  exact hb.1
theorem wholeR_bound (l : List (List Int)) (h : ∀ r, r ∈ l → r.length ≤ 100) : wholeR l ≤ 108 * l.length := by
  induction l with
  | nil => simp [wholeR]
  | cons x r ih =>
    have := ih (fun r' hr' => h r' (List.mem_cons_of_mem _ hr'))
    have := h x List.mem_cons_self
    simp only [wholeR, List.length_cons]; omega
theorem torn_len (l : List (List Int)) (k : Nat) (hn : l.length ≤ 40) (h : ∀ r, r ∈ l → r.length ≤ 100) : (journalL (l.take k)).length ≤ 4320 := by
  rw [journalL_len]
  have := wholeR_bound (l.take k) (fun r hr => h r (List.mem_of_mem_take hr))
  have : (l.take k).length ≤ l.length := by rw [List.length_take]; omega
  omega
theorem torn_app (l : List (List Int)) (k : Nat) (hk : k < l.length) (hn : l.length ≤ 40) (hb : ∀ r, r ∈ l → ∀ x, x ∈ r → Byte x) (h : ∀ r, r ∈ l → r.length ≤ 100) :
    checkN (journalL (l.take k)) 0 (-1) l[k]!.length = 0 ∧ appL (journalL (l.take k)) (-1) l[k]! = journalL (l.take (k + 1)) := by
  have h1 := torn_len l k hn h
  have h2 := h _ (mem_at l k hk)
  have h3 : recordsL (journalL (l.take k)) = l.take k := records_journal' _ (fun r hr => hb r (List.mem_of_mem_take hr)) (fun r hr => by have := h r (List.mem_of_mem_take hr); omega)
  have h4 : wholeR (l.take k) = (journalL (l.take k)).length := (journalL_len _).symm
  constructor
  · have hv : validJ (journalL (l.take k)).length 0 (-1) = true := by simp [validJ]; omega
    have hf : fullB (journalL (l.take k)) l[k]!.length = false := by unfold fullB; rw [h3, Bool.or_eq_false_iff, decide_eq_false_iff_not, decide_eq_false_iff_not]; omega
    unfold checkN
    rw [hv, hf]
    rfl
  · unfold appL
    rw [h3, h4, List.take_length, journalL_snoc l k hk]
    rfl
theorem torn_law (l : List (List Int)) (K i : Nat) (z : Int) (hb : ∀ r, r ∈ l → ∀ x, x ∈ r → Byte x) (h : ∀ r, r ∈ l → r.length ≤ 100) (hk : wholeR (l.take i) ≤ K) :
    recordsL ((journalL l).set K z) = l.take i ++ recordsL (((journalL l).set K z).drop (wholeR (l.take i))) :=
  records_begin l _ i hb (fun r hr => by have := h r hr; omega) (by rw [List.take_set_of_le hk]; exact journalL_take l i)

theorem info_int : (Try.prog.info? 3).map (fun i => (i.zero, i.size, i.bytes)) = some (some (.int .i64 0), 1, 8) := by kernel_rfl

theorem begins_cell {w : World} {base g off n cap : Nat} {l : List (List Int)} (h : Row w base 3 1 (.slice (some ⟨g, off, none⟩) n cap) n ((beginsL l n).map (Value.int .i64))) (j : Nat) (hj : j < n) :
    w.cell? ⟨g, off + j, none⟩ = some (.int .i64 ((wholeR (l.take j) : Nat) : Int)) := by
  rw [h.cell j (by omega), List.getElem?_map, List.getElem?_eq_getElem (by rw [beginsL_len]; exact hj), Option.map_some, ← getElem!_pos (beginsL l n) j (by rw [beginsL_len]; exact hj), beginsL_get l n j hj]
theorem map_set_int (l : List Int) (k : Nat) (z : Int) : (l.set k z).map (Value.int .u8) = (l.map (Value.int .u8)).set k (.int .u8 z) := by rw [List.map_set]
theorem xor_byte (a b : Int) : Byte (bits .xor .u8 a b) := by
  show Byte (IntKind.u8.wrap _)
  rw [IntKind.wrap_u8]
  exact ⟨by omega, by omega⟩




set_option maxHeartbeats 8000000 in
set_option maxRecDepth 100000 in
theorem torn_main (v : Value) (l : List (List Int)) (x y : Int) (w : World) (hv : Sl RBys 1 w v l) (hn : l.length ≤ 40) (hl : ∀ r, r ∈ l → r.length ≤ 100) (hx : 0 ≤ x) (hx2 : x < 65536) (hy : 0 ≤ y) (hy2 : y < 256) :
    Calls Try.prog 4 #[v, .int .u16 x, .int .u8 y] w fun e w' => e = .returned (.bool true) ∧ Ext w w' := by
  obtain ⟨ii, ni, nz0, nz1, nz2⟩ := info_parts info_int
  have HC := Lib.hid (fun W (hW : Ext w W) => containsFunc_bytes2 RBys rbys_lasts _ #[] enters_17 (fun b => decide (100 < b.length)) v l W (hv.ext rbys_lasts hW) (by omega) (torn_says l W (fun r hr => by have := hl r hr; omega)))
  rw [show l.any (fun b => decide (100 < b.length)) = false from by rw [List.any_eq_false]; intro r hr; have := hl r hr; simp; omega] at HC
  have HBY := Lib.hid (sl_byte hv)
  have HVS := Lib.hid hv
  have HL100 := Lib.hid hl
  obtain ⟨a, c, rfl, hlc, hvc⟩ := hv
  have HVC := Lib.hid hvc
  generalize hln : l.length = n at *
  have HN := Lib.hid hln
  clear hvc hl hln
  have b1 : decide (40 < (n : Int)) = false := by simp; omega
  go_enter Try.func4, Try.ntmps4
  go_wp2_with fail
  refine (awake_calls _).mono ?_
  rintro e w1 ⟨rfl, hE1⟩
  have HE1 := Lib.hid hE1
  clear hE1
  go_wp2_with fail
  refine (HC.out _ HE1.out).mono ?_
  rintro e w2 ⟨rfl, hE2⟩
  have HE2 := Lib.hid (HE1.out.trans' hE2)
  clear hE2 HE1 HC
  go_wp2_with fail
  refine (new_calls (-1) _).mono ?_
  rw [show newOut (-1) = .tuple #[.agg #[.slice none 0 0, .int .i64 0, .int .i64 (-1)], .int .i64 0] from by simp [newOut]]
  rintro e w3 ⟨rfl, hE3⟩
  have HE3 := Lib.hid (HE2.out.trans' hE3)
  clear hE3 HE2
  go_wp2_with fail
  generalize hB : w3.heap.size = B at *
  go_loopg [8, 9, 32] n (fun m s8 s9 s32 wr => ∃ (k : Nat), k ≤ n ∧ n - k ≤ m ∧ s32 = .int .i64 k ∧ s8 = .int .i64 0 ∧ Aside (∃ jv, wr.heap[B]? = some (.cells #[jv, .int .i64 0, .int .i64 (-1)] 24) ∧ Row wr (B + 1) 5 1 jv (journalL (l.take k)).length ((journalL (l.take k)).map (Value.int .u8))) ∧ Aside (Row wr (B + 1) 3 1 s9 k ((beginsL l k).map (Value.int .i64))) ∧ Aside (Ext w wr ∧ B < wr.heap.size))
  case atStart => exact ⟨0, Nat.zero_le _, by omega, rfl, rfl, (show ∃ jv, _ from ⟨_, heap_new_eq hB.symm, Row.mkNil _ _ _ _⟩), Row.mkNil _ _ _ _, (show _ ∧ _ from ⟨HE3.out.al _, by simp; omega⟩)⟩
  case round =>
    obtain ⟨k, hk, hm, rfl, rfl, HJ, HR, HEB⟩ := hrel
    obtain ⟨jv, hj1, hj2⟩ := HJ.out
    have hjl := torn_len l k (by rw [HN.out]; omega) HL100.out
    by_cases hlt : k < n
    · have hltz : (k : Int) < (n : Int) := by omega
      obtain ⟨happ1, happ2⟩ := torn_app l k (by rw [HN.out]; exact hlt) (by rw [HN.out]; omega) HBY.out HL100.out
      have hl100 := HL100.out _ (mem_at l k (by rw [HN.out]; exact hlt))
      have happ3 : recordsL (journalL (l.take k)) = l.take k := records_journal' _ (fun r hr => HBY.out r (List.mem_of_mem_take hr)) (fun r hr => by have := HL100.out r (List.mem_of_mem_take hr); omega)
      have hj2' := hj2
      obtain ⟨ja, jc, rfl, hjc, hsh⟩ := hj2.any
      clear hsh
      obtain ⟨b, off, rfl, hb, hc⟩ := HVC.out (by intro e; have := HN.out; simp [e] at this; omega)
      obtain ⟨vs, hvl, ⟨u, rfl, hu⟩, hcx⟩ := hc k hlt
      have hbl : b < w.heap.size := hb
      have hsB := HE3.out.sz
      rw [hB] at hsB
      have hcell0 : w.cell? ⟨b, off + k, none⟩ = some u := by have := hcx 0 (by omega); simpa using this
      have hcell : wr.cell? ⟨b, off + k, none⟩ = some u := HEB.out.1.cl hcell0
      have HU := Lib.hid hu
      obtain ⟨_, ua, uc, rfl, huc, _⟩ := hu
      have HCELL := Lib.hid hcell
      have HJ1 := Lib.hid hj1
      have HJ2 := Lib.hid hj2'
      have H1 := Lib.hid happ1
      have H2 := Lib.hid happ2
      have H3 := Lib.hid happ3
      clear hc hcx hb hj1 hj2' happ1 happ2 happ3
      generalize hJL : (journalL (l.take k)).length = J at *
      generalize hUL : l[k]!.length = U at *
      have HJL := Lib.hid hJL
      have HUL := Lib.hid hUL
      clear hJL hUL
      have c0 := cell_of HJ1.out 0
      have c1 := cell_of HJ1.out 1
      have c2 := cell_of HJ1.out 2
      simp only [List.getElem?_toArray, List.getElem?_cons_zero, List.getElem?_cons_succ] at c0 c1 c2
      have hBw := HEB.out.2
      obtain ⟨sa, sc, rfl, hsc, hsh⟩ := HR.out.any
      clear hsh
      go_wp2_with ((at_builtin; go_loud (refine wpList_append_one rfl _ _ 38 rfl (B + 1) 3 ii (.int .i64 0) 1 8 Try.underlying38 ni nz0 nz1 nz2 rfl (by decide) _ k _ rfl (HR.out.al _) wr.heap.size 1 [.int .i64 (J : Int)] rfl rfl ⟨_, heap_alloc_new _ _⟩ (by simp [Value.oneCell']) (by unfold maxLen; omega) (by omega) (by simp; omega) ?_; intro v5 w5 hown5 hgrow5 hblk5; have hG5 : (wr.alloc (.cells #[.int .i64 (J : Int)] 3)).grownBy w5 (Value.slice sa k sc).ownBlock := hgrow5; have hB5 := grown_keep hG5 (HR.out.far (g := B) (by omega)) (((Ext.rf wr).al (.cells #[.int .i64 (J : Int)] 3)).hp HJ1.out); have hE5 : Ext w w5 := ((HEB.out.1.al (.cells #[.int .i64 (J : Int)] 3))).gr hG5 (fun q hq => by have := (HR.out.lt q hq).1; have := HE3.out.sz; omega); have HB5 := Lib.hid hB5; have HE5 := Lib.hid hE5; have HR5 := Lib.hid hown5; have hs5 := hG5.size; have HJ5 := Lib.hid ((HJ2.out.al (.cells #[.int .i64 (J : Int)] 3)).grown hG5 (Row.apart HJ2.out HR.out (by decide))); have HJB5 := Lib.hid (HJ5.out.bys (journalL_byte (fun r hr => HBY.out r (List.mem_of_mem_take hr)))); clear hG5 hB5 hE5 hown5 hgrow5 hblk5 c0 c1 c2 hcell; have c0 := cell_of HB5.out 0; have c1 := cell_of HB5.out 1; have c2 := cell_of HB5.out 2; simp only [List.getElem?_toArray, List.getElem?_cons_zero, List.getElem?_cons_succ] at c0 c1 c2)))
      go_wp2_with fail
      have HAP := Lib.hid (append_ok ja jc (journalL (l.take k)) 0 (-1) ua uc l[k]! w5 (by rw [HJL.out]; exact HJB5.out) (by rw [HJL.out]; omega) (by rw [HUL.out]; exact HU.out.ext HE5.out) (by rw [HUL.out]; omega) (by rw [HUL.out]; exact H1.out) (by omega) (by omega))
      rw [HJL.out, HUL.out, H2.out, H3.out, show min 0 ((wholeR (l.take k) : Nat) : Int) = 0 from by omega, show leftF (-1) (recL l[k]!) = -1 from rfl, show crashE (-1) (recL l[k]!) = 0 from rfl] at HAP
      refine HAP.out.mono ?_
      rintro e w6 ⟨v6, rfl, hR6, hE6⟩
      obtain ⟨va, vc, rfl, hvl6, hsh⟩ := hR6.any
      clear hsh
      have hs6 := hE6.sz
      have HB6 := Lib.hid (hE6.hp HB5.out)
      have HR6 := Lib.hid (hR6.mono (show B + 1 ≤ w5.heap.size from by simp at hs5; omega))
      have HG6 := Lib.hid (HR5.out.ext hE6)
      have HE6 := Lib.hid (HE5.out.trans' hE6)
      clear hR6 hE6 c0 c1 c2
      generalize hJ2 : (journalL (l.take (k + 1))).length = J2 at *
      have HJ2L := Lib.hid hJ2
      clear hJ2
      have c0 := cell_of HB6.out 0
      have c1 := cell_of HB6.out 1
      have c2 := cell_of HB6.out 2
      simp only [List.getElem?_toArray, List.getElem?_cons_zero, List.getElem?_cons_succ] at c0 c1 c2
      have f0 := free_of HB6.out 0
      have f1 := free_of HB6.out 1
      have f2 := free_of HB6.out 2
      go_wp2
      go_roundg (n - (k + 1))
      case measure => omega
      case rel =>
        refine ⟨k + 1, by omega, by omega, by go_num, rfl, (show ∃ jv, _ from ⟨_, heap3 HB6.out, ?_⟩), (show Row _ _ _ _ _ _ _ from ?_), (show _ ∧ _ from ⟨(by repeat (first | refine Ext.st ?_ (by first | exact Nat.le_refl _ | exact Nat.le_succ _ | assumption | omega) _ | refine Ext.al ?_ _ | refine Ext.dr ?_ | refine Ext.drN ?_ _ | exact HE6.out)), ?_⟩)⟩
        · rw [HJ2L.out]; exact Row.st3 HR6.out (by omega) _ _ _
        · have e1 : (wholeR (l.take k)) = J := by rw [← HJL.out, journalL_len]
          rw [beginsL_succ, List.map_append, e1]
          exact Row.st3 HG6.out (by omega) _ _ _
        · simp at hs5
          simp only [size_setCell]
          omega
    · have hltz : ¬ (k : Int) < (n : Int) := by omega
      obtain rfl : n = k := by omega
      have htk : l.take n = l := List.take_of_length_le (by rw [HN.out]; omega)
      rw [htk] at hj2 hjl
      obtain ⟨ja, jc, rfl, hjc, hsh⟩ := hj2.any
      have HJ1 := Lib.hid hj1
      have HJ2 := Lib.hid hj2
      clear hsh hj1 hj2 htk
      obtain ⟨ba, bc, rfl, hbc, hsh⟩ := HR.out.any
      have HRB := Lib.hid HR.out
      clear hsh
      generalize hJL : (journalL l).length = N at *
      have HJL := Lib.hid hJL
      clear hJL
      have c0 := cell_of HJ1.out 0
      have c1 := cell_of HJ1.out 1
      have c2 := cell_of HJ1.out 2
      simp only [List.getElem?_toArray, List.getElem?_cons_zero, List.getElem?_cons_succ] at c0 c1 c2
      by_cases h0 : N = 0
      · subst h0
        go_wp2
        go_ret
        exact ⟨by simp, HEB.out.1⟩
      · have b5 : ((N : Int) == 0) = false := by simp; omega
        have hNp : (0 : Int) < (N : Int) := by omega
        have hN0 : (N : Int) ≠ 0 := by omega
        obtain ⟨K, hK⟩ : ∃ K : Nat, x % (N : Int) = K := ⟨(x % N).toNat, by have := Int.emod_nonneg x hN0; omega⟩
        have hKN : (K : Int) < (N : Int) := by rw [← hK]; exact Int.emod_lt_of_pos x hNp
        have HB := Lib.hid (show Bys wr (.slice ja N jc) (journalL l) from by rw [← HJL.out]; have := HJ2.out; rw [← HJL.out] at this; exact this.bys (journalL_byte HBY.out))
        go_wp2_with fail
        refine (clone_bytes (.slice ja N jc) N ((journalL l).map (Value.int .u8)) wr (by have := HB.out.cells; rw [HJL.out] at this; exact this) (byte_one _) (by omega)).mono ?_
        rintro e w7 ⟨v7, rfl, hR7, hE7⟩
        obtain ⟨g, o, cp, rfl, hg1, hg2, hcp⟩ := hR7.shape (by omega)
        have hcell := hR7.cell K (by omega)
        have hfree := hR7.free (o + K)
        rw [List.getElem?_map, List.getElem?_eq_getElem (show K < (journalL l).length from by rw [HJL.out]; omega), Option.map_some] at hcell
        generalize (journalL l)[K]'(by rw [HJL.out]; omega) = z at hcell
        have HR7 := Lib.hid hR7
        have HE7 := Lib.hid (HEB.out.1.trans' hE7)
        have HE78 := Lib.hid hE7
        have hs7 := hE7.sz
        have hsw := HEB.out.1.sz
        clear hR7 hE7 c0 c1 c2 hK
        go_wp2_with fail
        have hZ := xor_byte z (2 ^ (y % 8).toNat % 256)
        generalize bits BinOp.xor IntKind.u8 z (2 ^ (y % 8).toNat % 256) = Z at *
        have hrow8 := HR7.out.set K (.int .u8 Z) (by omega)
        rw [← map_set_int] at hrow8
        have hr9 := (HRB.out.ext (HE78.out)).st (p := ⟨g, o + K, none⟩) (fun h => by have := (HRB.out.lt _ h).2; simp only at this; omega) (.int .u8 Z)
        have hE8 := HE7.out.st (p := ⟨g, o + K, none⟩) (by simp only; omega) (.int .u8 Z)
        have hs8 : w.heap.size ≤ (w7.setCell ⟨g, o + K, none⟩ (.int .u8 Z)).heap.size := hE8.sz
        generalize w7.setCell ⟨g, o + K, none⟩ (.int .u8 Z) = w8 at *
        have hCl : ((journalL l).set K Z).length = N := by rw [List.length_set]; exact HJL.out
        have hCb : ∀ q, q ∈ (journalL l).set K Z → Byte q := by
          intro q hq
          rcases List.mem_or_eq_of_mem_set hq with h | rfl
          · exact journalL_byte HBY.out q h
          · exact hZ
        have HLAW := Lib.hid (fun i hi => torn_law l K i Z HBY.out HL100.out hi)
        generalize (journalL l).set K Z = C at *
        have HCL := Lib.hid hCl
        have HCB := Lib.hid hCb
        have HC8 := Lib.hid (hrow8.bys hCb)
        have HR9 := Lib.hid hr9
        have HE8 := Lib.hid hE8
        have hwc := wholeR_len (recordsL C)
        have hwc2 := whole_le' C hCb
        have HRN := Lib.hid (show (recordsL C).length ≤ 4320 from by omega)
        clear hrow8 hCl hCb hr9 hE8 hcell hfree hwc hwc2
        have HRD := Lib.hid (jread_ok (.slice (some ⟨g, o, none⟩) N cp) C N (-1) w8 HC8.out (by rw [HCL.out]; omega) (by rw [HCL.out]; simp [validJ]; omega))
        refine HRD.out.mono ?_
        rintro e wA ⟨vA, rfl, hRA, hEA⟩
        have HSA := Lib.hid (hRA.sl (fun r hr => (records_byte C.length C (Nat.le_refl _) HCB.out r hr).1))
        have HEA := Lib.hid hEA
        clear hRA hEA HRD
        obtain ⟨ga, gc, rfl, hgl, _⟩ : ∃ ga gc, vA = .slice ga (recordsL C).length gc ∧ (recordsL C).length ≤ gc ∧ True := by obtain ⟨a, c, h, h2, _⟩ := HSA.out; exact ⟨a, c, h, h2, trivial⟩
        generalize hG : (recordsL C).length = G at *
        have HG := Lib.hid hG
        clear hG
        go_wp2_with fail
        have hn0 : 0 < n := by
          rcases Nat.eq_zero_or_pos n with h | h
          · have h1 : l = [] := List.eq_nil_of_length_eq_zero (by rw [HN.out]; exact h)
            have h2 := HJL.out
            rw [h1] at h2
            simp [journalL] at h2
            omega
          · exact h
        obtain ⟨bb, bo, bcc, hbe, _, _, _⟩ := HR9.out.shape hn0
        simp only [Value.slice.injEq, true_and] at hbe
        obtain ⟨rfl, rfl⟩ := hbe
        have HBC := Lib.hid (fun j hj => (HEA.out.cl (begins_cell HR9.out j hj)))
        have HE := Lib.hid (HE8.out.trans' HEA.out)
        go_loopg [16] n (fun m s16 wr => ∃ i : Nat, i < n ∧ n - i ≤ m ∧ s16 = .int .i64 i ∧ Aside (wholeR (l.take i) ≤ K) ∧ wr = wA)
        case atStart => exact ⟨0, hn0, by omega, rfl, (show _ ≤ _ by simp [wholeR]), rfl⟩
        case round =>
          obtain ⟨i, hi, hm, rfl, HK, rfl⟩ := hrel
          have e1 : ((i : Int) + 1).toNat = i + 1 := by omega
          have hi1 : (0 : Int) ≤ (i : Int) + 1 := by omega
          by_cases h1 : i + 1 < n
          · have h1z : (i : Int) + 1 < (n : Int) := by omega
            have h1d : decide ((i : Int) + 1 < (n : Int)) = true := by simpa using h1z
            have hb1 := HBC.out (i + 1) h1
            by_cases h2 : wholeR (l.take (i + 1)) ≤ K
            · have H2 := Lib.hid h2
              obtain ⟨T1, hT1⟩ : ∃ T1, wholeR (l.take (i + 1)) = T1 := ⟨_, rfl⟩
              rw [hT1] at hb1 h2
              have h2d : decide (T1 ≤ K) = true := by simp; omega
              clear hT1
              go_wp2
              go_roundg (n - (i + 1))
              case measure => omega
              case rel => exact ⟨i + 1, by omega, by omega, by go_num, H2.out, rfl⟩
            · obtain ⟨T1, hT1⟩ : ∃ T1, wholeR (l.take (i + 1)) = T1 := ⟨_, rfl⟩
              rw [hT1] at hb1 h2
              have h2d : decide (T1 ≤ K) = false := by simp; omega
              clear hT1
              go_wp2_with fail
              clear h2d hb1 h1d h1z
              clear e1 hi1
              have hlaw := HLAW.out i HK.out
              have hGd := congrArg List.length hlaw
              rw [HG.out, List.length_append, List.length_take, HN.out, Nat.min_eq_left (by omega)] at hGd
              have hltk : (l.take i).length = i := by rw [List.length_take, HN.out]; omega
              have htk : (recordsL C).take i = l.take i := by rw [hlaw]; exact List.take_left' hltk
              have HG1 := Lib.hid (show Sl RBys 1 wr (.slice ga i gc) (l.take i) from by have := HSA.out.take (n := G) i (by rw [HG.out]; omega); rwa [htk] at this)
              have HG2 := Lib.hid (show Sl RBys 1 wr (.slice a i c) (l.take i) from (HVS.out.ext rbys_lasts HE.out).take (n := n) i (by rw [HN.out]; omega))
              have HTL := Lib.hid hltk
              have HTK := HK.out
              have hbi := HBC.out i hi
              generalize hTi : wholeR (l.take i) = T at *
              have HTi := Lib.hid hTi
              generalize hRe : (recordsL (C.drop T)).length = R at *
              have HRe := Lib.hid hRe
              have hgi : decide ((G : Int) < (i : Int)) = false := by simp; omega
              have hgi' : decide (G < i) = false := by simp; omega
              have z0 : (0 : Int) ≤ (i : Int) := by omega
              have z1 : (i : Int) ≤ (gc : Int) := by omega
              have z2 : (i : Int) ≤ (c : Int) := by omega
              have z3 : (i : Int) ≤ (G : Int) := by omega
              have z4 : (i : Int) ≤ (n : Int) := by omega
              have HGd := Lib.hid hGd
              clear hGd
              clear hlaw hltk htk hTi hRe
              go_region_held3 (fun w' => w'.cell? ⟨bb, bo + i, none⟩ = some (.int .i64 (T : Int))) (go_keep)
                (first
                  | (go_at_call 21
                     refine (sameRecords_calls _ _ (l.take i) _ (HG1.out.ext rbys_lasts (by repeat (first | refine Ext.st ?_ (by first | exact Nat.le_refl _ | exact Nat.le_succ _ | assumption | omega) _ | refine Ext.al ?_ _ | refine Ext.dr ?_ | refine Ext.drN ?_ _ | exact Ext.rf _))) (HG2.out.ext rbys_lasts (by repeat (first | refine Ext.st ?_ (by first | exact Nat.le_refl _ | exact Nat.le_succ _ | assumption | omega) _ | refine Ext.al ?_ _ | refine Ext.dr ?_ | refine Ext.drN ?_ _ | exact Ext.rf _))) (by rw [HTL.out]; omega) (fun r hr => by have := HL100.out r (List.mem_of_mem_take hr); omega)).mono ?_
                     rintro e wB ⟨rfl, hEB⟩
                     have HEB2 := Lib.hid (show Ext wr wB from Ext.trans' (by repeat (first | refine Ext.st ?_ (by first | exact Nat.le_refl _ | exact Nat.le_succ _ | assumption | omega) _ | refine Ext.al ?_ _ | refine Ext.dr ?_ | refine Ext.drN ?_ _ | exact Ext.rf _)) hEB)
                     have kB := HEB2.out.cl hbi
                     clear hEB))
              go_wp2_with fail
              · go_ret
                exact ⟨rfl, HE.out.trans' (by repeat (first | refine Ext.st ?_ (by first | exact Nat.le_refl _ | exact Nat.le_succ _ | assumption | omega) _ | refine Ext.al ?_ _ | refine Ext.dr ?_ | refine Ext.drN ?_ _ | exact HEB2.out))⟩
              · have hne : ¬ (G : Int) = (i : Int) := by first | assumption | (have h := ‹¬ G = i›; omega)
                have hR0 : 0 < R := by have := HGd.out; omega
                refine (read_calls _ (C.drop T) 0 (-1) _ ((HC8.out.drop T (by rw [HCL.out]; omega)).ext (HEA.out.trans' (by repeat (first | refine Ext.st ?_ (by first | exact Nat.le_refl _ | exact Nat.le_succ _ | assumption | omega) _ | refine Ext.al ?_ _ | refine Ext.dr ?_ | refine Ext.drN ?_ _ | exact HEB2.out)))) (by rw [List.length_drop, HCL.out]; omega)).mono ?_
                rintro e wD ⟨vD, rfl, hRD, hED⟩
                obtain ⟨vs, hRD2, _⟩ := hRD
                rw [HRe.out] at hRD2
                obtain ⟨da, dc, rfl, hdl, hsh⟩ := hRD2.any
                have HED := Lib.hid hED
                clear hsh hRD2 hED
                have hRz : (0 : Int) < (R : Int) := by omega
                go_wp2
                go_ret
                exact ⟨by simp, HE.out.trans' (Ext.trans' (by repeat (first | refine Ext.st ?_ (by first | exact Nat.le_refl _ | exact Nat.le_succ _ | assumption | omega) _ | refine Ext.al ?_ _ | refine Ext.dr ?_ | refine Ext.drN ?_ _ | exact HEB2.out)) HED.out)⟩
          · have h1d : decide ((i : Int) + 1 < (n : Int)) = false := by simp; omega
            go_wp2_with fail
            clear h1d
            clear e1 hi1
            have hlaw := HLAW.out i HK.out
            have hGd := congrArg List.length hlaw
            rw [HG.out, List.length_append, List.length_take, HN.out, Nat.min_eq_left (by omega)] at hGd
            have hltk : (l.take i).length = i := by rw [List.length_take, HN.out]; omega
            have htk : (recordsL C).take i = l.take i := by rw [hlaw]; exact List.take_left' hltk
            have HG1 := Lib.hid (show Sl RBys 1 wr (.slice ga i gc) (l.take i) from by have := HSA.out.take (n := G) i (by rw [HG.out]; omega); rwa [htk] at this)
            have HG2 := Lib.hid (show Sl RBys 1 wr (.slice a i c) (l.take i) from (HVS.out.ext rbys_lasts HE.out).take (n := n) i (by rw [HN.out]; omega))
            have HTL := Lib.hid hltk
            have HTK := HK.out
            have hbi := HBC.out i hi
            generalize hTi : wholeR (l.take i) = T at *
            have HTi := Lib.hid hTi
            generalize hRe : (recordsL (C.drop T)).length = R at *
            have HRe := Lib.hid hRe
            have hgi : decide ((G : Int) < (i : Int)) = false := by simp; omega
            have hgi' : decide (G < i) = false := by simp; omega
            have z0 : (0 : Int) ≤ (i : Int) := by omega
            have z1 : (i : Int) ≤ (gc : Int) := by omega
            have z2 : (i : Int) ≤ (c : Int) := by omega
            have z3 : (i : Int) ≤ (G : Int) := by omega
            have z4 : (i : Int) ≤ (n : Int) := by omega
            have HGd := Lib.hid hGd
            clear hGd
            clear hlaw hltk htk hTi hRe
            go_region_held3 (fun w' => w'.cell? ⟨bb, bo + i, none⟩ = some (.int .i64 (T : Int))) (go_keep)
              (first
                | (go_at_call 21
                   refine (sameRecords_calls _ _ (l.take i) _ (HG1.out.ext rbys_lasts (by repeat (first | refine Ext.st ?_ (by first | exact Nat.le_refl _ | exact Nat.le_succ _ | assumption | omega) _ | refine Ext.al ?_ _ | refine Ext.dr ?_ | refine Ext.drN ?_ _ | exact Ext.rf _))) (HG2.out.ext rbys_lasts (by repeat (first | refine Ext.st ?_ (by first | exact Nat.le_refl _ | exact Nat.le_succ _ | assumption | omega) _ | refine Ext.al ?_ _ | refine Ext.dr ?_ | refine Ext.drN ?_ _ | exact Ext.rf _))) (by rw [HTL.out]; omega) (fun r hr => by have := HL100.out r (List.mem_of_mem_take hr); omega)).mono ?_
                   rintro e wB ⟨rfl, hEB⟩
                   have HEB2 := Lib.hid (show Ext wr wB from Ext.trans' (by repeat (first | refine Ext.st ?_ (by first | exact Nat.le_refl _ | exact Nat.le_succ _ | assumption | omega) _ | refine Ext.al ?_ _ | refine Ext.dr ?_ | refine Ext.drN ?_ _ | exact Ext.rf _)) hEB)
                   have kB := HEB2.out.cl hbi
                   clear hEB))
            go_wp2_with fail
            · go_ret
              exact ⟨rfl, HE.out.trans' (by repeat (first | refine Ext.st ?_ (by first | exact Nat.le_refl _ | exact Nat.le_succ _ | assumption | omega) _ | refine Ext.al ?_ _ | refine Ext.dr ?_ | refine Ext.drN ?_ _ | exact HEB2.out))⟩
            · have hne : ¬ (G : Int) = (i : Int) := by first | assumption | (have h := ‹¬ G = i›; omega)
              have hR0 : 0 < R := by have := HGd.out; omega
              refine (read_calls _ (C.drop T) 0 (-1) _ ((HC8.out.drop T (by rw [HCL.out]; omega)).ext (HEA.out.trans' (by repeat (first | refine Ext.st ?_ (by first | exact Nat.le_refl _ | exact Nat.le_succ _ | assumption | omega) _ | refine Ext.al ?_ _ | refine Ext.dr ?_ | refine Ext.drN ?_ _ | exact HEB2.out)))) (by rw [List.length_drop, HCL.out]; omega)).mono ?_
              rintro e wD ⟨vD, rfl, hRD, hED⟩
              obtain ⟨vs, hRD2, _⟩ := hRD
              rw [HRe.out] at hRD2
              obtain ⟨da, dc, rfl, hdl, hsh⟩ := hRD2.any
              have HED := Lib.hid hED
              clear hsh hRD2 hED
              have hRz : (0 : Int) < (R : Int) := by omega
              go_wp2
              go_ret
              exact ⟨by simp, HE.out.trans' (Ext.trans' (by repeat (first | refine Ext.st ?_ (by first | exact Nat.le_refl _ | exact Nat.le_succ _ | assumption | omega) _ | refine Ext.al ?_ _ | refine Ext.dr ?_ | refine Ext.drN ?_ _ | exact HEB2.out)) HED.out)⟩

end Go.Proofs.Ytggofkaakccoeaa
