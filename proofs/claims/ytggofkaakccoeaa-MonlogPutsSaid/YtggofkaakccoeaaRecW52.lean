/-
  The walks of monlog.records and the reference's Read.
-/
import Derived.Test.YtggofkaakccoeaaBase
import Derived.Test.YtggofkaakccoeaaProg
import Derived.BigQuiet
import Derived.Deep.QuietTactic
import Derived.Deep.LoopGhost
import Derived.Shelf.Abstract
import Derived.Test.YtggofkaakccoeaaJourA52
import Derived.Test.YtggofkaakccoeaaRecL52
import Derived.Test.YtggofkaakccoeaaRowRows
namespace Go.Proofs.Ytggofkaakccoeaa
open Go.RowKit
set_option linter.unusedVariables false

def RBys (w : World) (cs : List Value) (x : List Int) : Prop := ∃ v, cs = [v] ∧ Bys w v x
theorem rbys_lasts : Lasts RBys := fun _ _ _ _ ⟨v, h, hb⟩ e => ⟨v, h, hb.ext e⟩

theorem RowRows.sl {w : World} {base : Nat} {e : TypeId} {v : Value} {l : List (List Int)} (h : RowRows w base e 5 (Value.int .u8) v l) (hb : ∀ r, r ∈ l → ∀ x, x ∈ r → Byte x) : Sl RBys 1 w v l := by
  obtain ⟨vs, h1, h2⟩ := h
  refine h1.cells.sl fun i hi => ⟨vs[i]!, ?_, (h2 i hi).bys (hb _ (mem_at l i hi))⟩
  have hvl : vs.length = l.length := by have := h1.1; omega
  rw [Nat.mul_one, getElem!_pos vs i (by omega), List.drop_eq_getElem_cons (by omega : i < vs.length)]
  rfl

theorem info_bytes2 : (Try.prog.info? 22).map (fun i => (i.zero, i.size, i.bytes)) = some (some (.slice none 0 0), 1, 24) := by kernel_rfl

set_option maxHeartbeats 2000000 in
set_option maxRecDepth 100000 in
theorem records_calls (v : Value) (l : List Int) (w : World) (hv : Bys w v l) (hn : l.length ≤ 1000000) :
    Calls Try.prog 44 #[v] w fun e w' => ∃ v', e = .returned v' ∧ RowRows w' w.heap.size 22 5 (Value.int .u8) v' (recordsL l) ∧ Ext w w' := by
  obtain ⟨i, hi, hz0, hz1, hz2⟩ := info_parts info_bytes2
  have HV := Lib.hid hv; clear hv
  go_enter Try.func44, Try.ntmps44
  go_wp2
  go_loopg [0, 3] l.length (fun m s0 s3 wr => ∃ rest done : List _, rest.length ≤ m ∧ Aside (rest.length ≤ l.length) ∧ Aside (8 * done.length + rest.length ≤ l.length) ∧ Aside (recordsL l = done ++ recordsL rest) ∧ Aside (Bys w s0 rest) ∧ Aside (RowRows wr w.heap.size 22 5 (Value.int .u8) s3 done) ∧ Aside (Ext w wr))
  case atStart => exact ⟨l, [], Nat.le_refl _, Nat.le_refl _, (show _ ≤ _ by simp), (show recordsL l = _ by rw [List.nil_append]), HV.out, RowRows.mkNil _ _ _ _ _, Ext.rf _⟩
  case round =>
    obtain ⟨rest, done, hm, HRL, HDL, HEQ, HB0, HRR, HE⟩ := hrel
    have HB := Lib.hid (HB0.out.ext HE.out)
    obtain ⟨hby, a, c, rfl, hlc, hvc⟩ := HB.out
    have HBY := Lib.hid hby
    have HVC := Lib.hid hvc
    have HEN := Lib.hid hn
    have hr6 : rest.length ≤ 1000000 := Nat.le_trans HRL.out hn
    generalize hq : rest.length = q at hm hlc hr6
    have HQ := Lib.hid hq
    clear hby hvc hq
    by_cases h8 : 8 ≤ q
    · have h8z : (8 : Int) ≤ (q : Int) := by omega
      obtain ⟨b, off, rfl, hbb, _⟩ := HVC.out (by intro e; have := HQ.out; simp [e] at this; omega)
      have HB4 := Lib.hid (HB.out.take 4 (by rw [HQ.out]; omega))
      have HN4 := Lib.hid (show (rest.take 4).length ≤ 8 from by rw [List.length_take]; omega)
      obtain ⟨N, hN⟩ : ∃ N : Nat, valL (rest.take 4) = N := Int.eq_ofNat_of_zero_le (val_range (rest.take 4) (fun x hx => HBY.out x (List.mem_of_mem_take hx))).1
      have hN2 : (N : Int) < 4294967296 := by
        have h := (val_range (rest.take 4) (fun x hx => HBY.out x (List.mem_of_mem_take hx))).2
        rw [hN, List.length_take, HQ.out, Nat.min_eq_left (by omega)] at h
        simpa using h
      have HN := Lib.hid hN; clear hN
      have hcq : IntKind.u64.wrap (q : Int) = q := by rw [IntKind.wrap_u64]; omega
      by_cases h16 : N ≤ 16384
      · have d1 : decide (16384 < (N : Int)) = false := by simp; omega
        have hc8 : IntKind.u64.wrap ((N : Int) + 8) = (N : Int) + 8 := by rw [IntKind.wrap_u64]; omega
        have hcn : IntKind.i64.wrap (N : Int) = N := by rw [IntKind.wrap_i64]; omega
        by_cases hq8 : N + 8 ≤ q
        · have d2 : decide ((q : Int) < (N : Int) + 8) = false := by simp; omega
          go_wp2_with fail
          refine (value_calls _ _ _ HB4.out HN4.out).mono ?_
          rw [HN.out]
          rintro e w' ⟨rfl, rfl⟩
          have HQ1 := Lib.hid (HB.out.take (N + 4) (by rw [HQ.out]; omega))
          have HQ2 := Lib.hid ((HB.out.drop (N + 4) (by rw [HQ.out]; omega)).take 4 (by rw [List.length_drop, HQ.out]; omega))
          have HS1 := Lib.hid (fun nq => sum_calls _ _ (w'.drewN nq) (HQ1.out.ext ((Ext.rf w').drN nq)) (by rw [List.length_take]; omega))
          have HS2 := Lib.hid (fun nq => value_calls _ _ (w'.drewN nq) (HQ2.out.ext ((Ext.rf w').drN nq)) (by rw [List.length_take]; omega))
          obtain ⟨S, hS⟩ : ∃ S : Nat, sumL (rest.take (N + 4)) = S := Int.eq_ofNat_of_zero_le (sum_range _).1
          obtain ⟨T, hT⟩ : ∃ T : Nat, valL ((rest.drop (N + 4)).take 4) = T := Int.eq_ofNat_of_zero_le (val_range _ (fun x hx => HBY.out x (List.mem_of_mem_drop (List.mem_of_mem_take hx)))).1
          have hSl := (sum_range (rest.take (N + 4))).2
          rw [hS] at hSl HS1
          rw [hT] at HS2
          have HST := Lib.hid (And.intro hS hT); clear hS hT
          have hcs : IntKind.u64.wrap (S : Int) = S := by rw [IntKind.wrap_u64]; omega
          have e1 : IntKind.i64.wrap ((N : Int) + 4) = (N : Int) + 4 := by rw [IntKind.wrap_i64]; omega
          have e2 : IntKind.i64.wrap ((N : Int) + 4 + 4) = (N : Int) + 4 + 4 := by rw [IntKind.wrap_i64]; omega
          have e3 : ((N : Int) + 4).toNat = N + 4 := by omega
          have e4 : ((N : Int) + 4 + 4).toNat = N + 4 + 4 := by omega
          by_cases hST : S = T
          · have hne : ((S : Int) != (T : Int)) = false := by simp [hST]
            go_wp2_with fail
            go_quiet ((first | (go_at_call 66; exact Calls.quiet_of_same (HS1.out _)) | (go_at_call 67; exact Calls.quiet_of_same (HS2.out _))))
            clear e2 e4 hne
            obtain ⟨vs, hrow, hel⟩ := HRR.out
            obtain ⟨oa, oc, rfl, _, hsh⟩ := hrow.any
            clear hsh
            generalize hdl : done.length = dl at hrow
            have HDLL := Lib.hid hdl
            have hdl6 : dl ≤ 1000000 := by have := HDL.out; omega
            have HROW := Lib.hid hrow
            have HEL := Lib.hid hel
            clear hdl hrow hel
            have HCL := Lib.hid (((HB.out.drop 4 (by rw [HQ.out]; omega)).take N (by rw [List.length_drop, HQ.out]; omega)).cells)
            have hxl : ((rest.drop 4).take N).length = N := by rw [List.length_take, List.length_drop, HQ.out]; omega
            rw [hxl] at HCL
            have HX := Lib.hid hxl; clear hxl
            have hszE := HE.out.sz
            go_wp2_with fail
            refine (clone_bytes _ N (((rest.drop 4).take N).map (Value.int .u8)) _ (HCL.out.ext ((Ext.rf w').drN nq)) (byte_one _) (by omega)).mono ?_
            rintro e w5 ⟨v5, rfl, hR5, hE5⟩
            obtain ⟨fa, fc, rfl, _, hsh⟩ := hR5.any
            clear hsh
            have hE5' : Ext w' w5 := ((Ext.rf w').drN nq).trans' hE5
            have hsz5 := hE5'.sz
            have HR5 := Lib.hid hR5
            have HE5 := Lib.hid hE5'
            clear hR5 hE5 hE5'
            have e6 : IntKind.i64.wrap ((N : Int) + 4 + 4) = (N : Int) + 4 + 4 := by rw [IntKind.wrap_i64]; omega
            have e7 : ((N : Int) + 4 + 4).toNat = N + 8 := by omega
            by_cases hcap : c = N + 8
            · subst hcap
              go_wp2_with ((at_builtin; refine wpList_append_one rfl _ _ 34 rfl w.heap.size 22 i (.slice none 0 0) 1 24 Try.underlying34 hi hz0 hz1 hz2 rfl (by decide) _ dl vs rfl ((HROW.out.ext HE5.out).al _) w5.heap.size 1 [.slice fa N fc] rfl rfl ⟨_, heap_alloc_new _ _⟩ (by simp [Value.oneCell']) (by unfold maxLen; omega) (by omega) (by simp; omega) ?_; intro v6 w6 hown6 hgrow6 hblk6; have HOWN := Lib.hid hown6; have hgrow7 : (w5.alloc (.cells #[.slice fa N fc] 22)).grownBy w6 (Value.slice oa dl oc).ownBlock := hgrow6; have HGROW := Lib.hid hgrow7; clear hown6 hgrow6 hblk6 hgrow7))
              go_roundg (rest.drop (N + 8)).length
              case measure => rw [List.length_drop, HQ.out]; omega
              case rel =>
                have hnx : nextRec rest = some N := by
                  unfold nextRec
                  rw [HQ.out, HN.out, if_neg (by omega), if_neg (by omega), if_neg (by omega), Int.toNat_natCast, HST.out.1, HST.out.2, if_pos (by omega)]
                have hdr := HB0.out.drop (N + 8) (by rw [HQ.out]; omega)
                refine ⟨rest.drop (N + 8), done ++ [(rest.drop 4).take N], Nat.le_refl _, (show _ ≤ _ from ?_), (show _ ≤ _ from ?_), (show recordsL l = _ from ?_), (show Bys _ _ _ from ?_), (show RowRows _ _ _ _ _ _ _ from ?_), (show Ext _ _ from ?_)⟩
                · rw [List.length_drop]; have := HRL.out; omega
                · rw [List.length_append, List.length_drop, List.length_singleton]; have := HDL.out; have := HQ.out; omega
                · rw [HEQ.out, records_some hnx, List.append_assoc]; rfl
                · refine ⟨hdr.1, _, 0, by rw [List.length_drop, HQ.out, show q - (N + 8) = 0 from by omega], by rw [List.length_drop, HQ.out]; omega, fun hne => absurd (List.eq_nil_of_length_eq_zero (by rw [List.length_drop, HQ.out]; omega)) hne⟩
                · have hL := HDLL.out
                  have hR := HROW.out; rw [← hL] at hR
                  have hO := HOWN.out; rw [← hL] at hO
                  have hG := HGROW.out; rw [← hL] at hG
                  refine rowRows_push ((hR.ext HE5.out).al _) (fun i hi => ((HEL.out i hi).ext HE5.out).al _) ?_ (by decide) hG hO
                  rw [HX.out]
                  exact (HR5.out.mono (by simp; omega)).al _
                · exact ((HE.out.trans' HE5.out).al _).gr HGROW.out (fun k hk => (HROW.out.lt k hk).1)
            · go_wp2_with ((at_builtin; refine wpList_append_one rfl _ _ 34 rfl w.heap.size 22 i (.slice none 0 0) 1 24 Try.underlying34 hi hz0 hz1 hz2 rfl (by decide) _ dl vs rfl ((HROW.out.ext HE5.out).al _) w5.heap.size 1 [.slice fa N fc] rfl rfl ⟨_, heap_alloc_new _ _⟩ (by simp [Value.oneCell']) (by unfold maxLen; omega) (by omega) (by simp; omega) ?_; intro v6 w6 hown6 hgrow6 hblk6; have HOWN := Lib.hid hown6; have hgrow7 : (w5.alloc (.cells #[.slice fa N fc] 22)).grownBy w6 (Value.slice oa dl oc).ownBlock := hgrow6; have HGROW := Lib.hid hgrow7; clear hown6 hgrow6 hblk6 hgrow7))
              go_roundg (rest.drop (N + 8)).length
              case measure => rw [List.length_drop, HQ.out]; omega
              case rel =>
                have hnx : nextRec rest = some N := by
                  unfold nextRec
                  rw [HQ.out, HN.out, if_neg (by omega), if_neg (by omega), if_neg (by omega), Int.toNat_natCast, HST.out.1, HST.out.2, if_pos (by omega)]
                have hdr := HB0.out.drop (N + 8) (by rw [HQ.out]; omega)
                refine ⟨rest.drop (N + 8), done ++ [(rest.drop 4).take N], Nat.le_refl _, (show _ ≤ _ from ?_), (show _ ≤ _ from ?_), (show recordsL l = _ from ?_), (show Bys _ _ _ from ?_), (show RowRows _ _ _ _ _ _ _ from ?_), (show Ext _ _ from ?_)⟩
                · rw [List.length_drop]; have := HRL.out; omega
                · rw [List.length_append, List.length_drop, List.length_singleton]; have := HDL.out; have := HQ.out; omega
                · rw [HEQ.out, records_some hnx, List.append_assoc]; rfl
                · rw [HQ.out] at hdr; exact hdr
                · have hL := HDLL.out
                  have hR := HROW.out; rw [← hL] at hR
                  have hO := HOWN.out; rw [← hL] at hO
                  have hG := HGROW.out; rw [← hL] at hG
                  refine rowRows_push ((hR.ext HE5.out).al _) (fun i hi => ((HEL.out i hi).ext HE5.out).al _) ?_ (by decide) hG hO
                  rw [HX.out]
                  exact (HR5.out.mono (by simp; omega)).al _
                · exact ((HE.out.trans' HE5.out).al _).gr HGROW.out (fun k hk => (HROW.out.lt k hk).1)
          · have hne : ((S : Int) != (T : Int)) = true := by simp; omega
            go_wp2_with fail
            go_quiet ((first | (go_at_call 66; exact Calls.quiet_of_same (HS1.out _)) | (go_at_call 67; exact Calls.quiet_of_same (HS2.out _))))
            go_wp2
            go_ret
            have hnone : nextRec rest = none := by
              unfold nextRec
              rw [HQ.out, HN.out, if_neg (by omega), if_neg (by omega), if_neg (by omega), Int.toNat_natCast, HST.out.1, HST.out.2, if_neg (by omega)]
            exact ⟨_, rfl, by rw [HEQ.out, records_none hnone, List.append_nil]; exact HRR.out.ext ((Ext.rf _).drN _), HE.out.drN _⟩
        · have d2 : decide ((q : Int) < (N : Int) + 8) = true := by simp; omega
          have hnone : nextRec rest = none := by
            unfold nextRec
            rw [HQ.out, HN.out, if_neg (by omega), if_neg (by omega), if_pos (by omega)]
          have HNONE := Lib.hid hnone; clear hnone
          go_wp2_with fail
          refine (value_calls _ _ _ HB4.out HN4.out).mono ?_
          rw [HN.out]
          rintro e w' ⟨rfl, rfl⟩
          go_wp2_with fail
          go_ret
          exact ⟨_, rfl, by rw [HEQ.out, records_none HNONE.out, List.append_nil]; exact HRR.out, HE.out⟩
      · have d1 : decide (16384 < (N : Int)) = true := by simp; omega
        have hnone : nextRec rest = none := by
          unfold nextRec
          rw [HQ.out, HN.out, if_neg (by omega), if_pos (by omega)]
        have HNONE := Lib.hid hnone; clear hnone
        go_wp2_with fail
        refine (value_calls _ _ _ HB4.out HN4.out).mono ?_
        rw [HN.out]
        rintro e w' ⟨rfl, rfl⟩
        go_wp2_with fail
        go_ret
        exact ⟨_, rfl, by rw [HEQ.out, records_none HNONE.out, List.append_nil]; exact HRR.out, HE.out⟩
    · have h8z : ¬ (8 : Int) ≤ (q : Int) := by omega
      have hnone : nextRec rest = none := by
        unfold nextRec
        rw [HQ.out, if_pos (by omega)]
      have HNONE := Lib.hid hnone; clear hnone
      go_wp2
      go_ret
      exact ⟨_, rfl, by rw [HEQ.out, records_none HNONE.out, List.append_nil]; exact HRR.out, HE.out⟩

end Go.Proofs.Ytggofkaakccoeaa
