/-
  The walk of the reference's Stamp.
-/
import Derived.Test.YtggofkaakccoeaaBase
import Derived.Test.YtggofkaakccoeaaProg
import Derived.BigQuiet
import Derived.Deep.QuietTactic
import Derived.Deep.LoopGhost
import Derived.Shelf.Abstract
import Derived.Test.YtggofkaakccoeaaPut52
namespace Go.Proofs.Ytggofkaakccoeaa
open Go.RowKit
set_option linter.unusedVariables false

set_option maxHeartbeats 4000000 in
set_option maxRecDepth 100000 in
theorem stamp_calls (p : Int) (u : Value) (vs : List Int) (w : World) (hvs : Ints w u vs) (hp0 : 0 ≤ p) (hp1 : p < 8) (hvn : vs.length ≤ 8) (hany : vs.any outS = false) :
    Calls Try.prog 30 #[.int .i64 p, u] w fun e w' => ∃ v', e = .returned v' ∧ Row w' w.heap.size 5 1 v' (2 + 8 * vs.length) ((stampL p vs).map (Value.int .u8)) ∧ Ext w w' := by
  obtain ⟨i8, hi8, hy0, hy1, hy2⟩ := info_parts info_byte
  have HVS := Lib.hid hvs
  have HANY := Lib.hid hany
  obtain ⟨va, vc, rfl, _, hvx⟩ := hvs
  have HVX := Lib.hid hvx
  generalize hqv : vs.length = q at *
  have HQ := Lib.hid hqv
  have hcp : IntKind.u8.wrap p = p := by rw [IntKind.wrap_u8]; omega
  have hcq : IntKind.u8.wrap (q : Int) = q := by rw [IntKind.wrap_u8]; omega
  clear hvx hany hqv
  go_enter Try.func30, Try.ntmps30
  go_wp2
  go_loopg [5, 6] q (fun m s5 s6 wr => ∃ k : Nat, k ≤ q ∧ q - k ≤ m ∧ s6 = .int .i64 k ∧ Aside (Row wr w.heap.size 5 1 s5 (2 + 8 * k) ((stampTo p vs k).map (Value.int .u8))) ∧ Aside (Ext w wr))
  case atStart =>
    refine ⟨0, Nat.zero_le _, by omega, rfl, (show Row _ _ _ _ _ _ _ from ⟨by simp [stampTo], .inr ⟨w.heap.size, 0, 2, #[.int .u8 p, .int .u8 q], rfl, Nat.le_refl _, heap_alloc_new _ _, by omega, by decide, by simp, ?_⟩⟩), (show Ext _ _ from (by repeat (first | refine Ext.st ?_ (by first | exact Nat.le_refl _ | exact Nat.le_succ _ | assumption | omega) _ | refine Ext.al ?_ _ | refine Ext.dr ?_ | refine Ext.drN ?_ _ | exact Ext.rf _)))⟩
    have := HQ.out
    simp [stampTo, this]
  case round =>
    obtain ⟨k, hk, hm, rfl, HR8, HXR⟩ := hrel
    by_cases hlt : k < q
    · have hltz : (k : Int) < (q : Int) := by omega
      obtain ⟨b, off, rfl, hb, hc⟩ := HVX.out (by intro e; have := HQ.out; simp [e] at this; omega)
      have hcell : wr.cell? ⟨b, off + k, none⟩ = some (.int .i64 vs[k]!) := HXR.out.cl (hc k hlt)
      obtain ⟨x0, x1⟩ := outS_in HANY.out k (by rw [HQ.out]; exact hlt)
      have ST := Lib.hid (stampTo_succ p vs k (by rw [HQ.out]; exact hlt))
      clear hc
      generalize vs[k]! = x at *
      go_wp2_with fail
      refine (word_calls x 8 wr (by omega) x0 (by omega)).mono ?_
      rintro e w1 ⟨v1, rfl, hR1, hE1⟩
      obtain ⟨xa, xc, rfl, _, hsh⟩ := hR1.any
      have HB1 := Lib.hid (hR1.bys (word_byte x 8))
      have HE1 := Lib.hid hE1
      have hz1 := hE1.sz
      have hzr := HXR.out.sz
      clear hsh hR1 hE1
      go_wp2_with ((at_builtin; refine wpList_append_row (o := ⟨some 25, _, _, _, _, _⟩) rfl _ _ 22 rfl w.heap.size 5 i8 (.int .u8 0) 1 1 Try.underlying22 hi8 hy0 hy1 hy2 rfl (by decide) _ (2 + 8 * k) _ rfl (HR8.out.ext HE1.out) xa 8 xc ((wordL x 8).map (Value.int .u8)) rfl (by simp [word_len]) HB1.out.news (byte_one _) (by unfold maxLen; omega) (by omega) (by omega) ?_; intro v5 w5 hR5 hG5 hK5; have HR5 := Lib.hid hR5; have HX5 := Lib.hid (show Ext w w5 from (HXR.out.trans' HE1.out).gr hG5 (fun kk hkk => (HR8.out.lt kk hkk).1)); clear hR5 hG5 hK5))
      go_roundg (q - (k + 1))
      case measure => omega
      case rel =>
        refine ⟨k + 1, by omega, by omega, by go_num, (show Row _ _ _ _ _ _ _ from ?_), HX5.out⟩
        rw [ST.out, show 2 + 8 * (k + 1) = 2 + 8 * k + 8 from by omega, List.map_append]
        exact HR5.out
    · have hltz : ¬ (k : Int) < (q : Int) := by omega
      obtain rfl : k = q := by omega
      have hR8 := HR8.out
      rw [show stampTo p vs k = stampL p vs from by rw [← HQ.out]; exact stampTo_all p vs] at hR8
      have HR9 := Lib.hid hR8
      clear hR8
      go_wp2
      go_ret
      exact ⟨_, rfl, HR9.out, HXR.out⟩

end Go.Proofs.Ytggofkaakccoeaa
