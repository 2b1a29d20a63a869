/-
  The walk of the reference's Read.
-/
import Derived.Test.YtggofkaakccoeaaBase
import Derived.Test.YtggofkaakccoeaaProg
import Derived.BigQuiet
import Derived.Deep.QuietTactic
import Derived.Deep.LoopGhost
import Derived.Shelf.Abstract
import Derived.Test.YtggofkaakccoeaaRecW52
namespace Go.Proofs.Ytggofkaakccoeaa
open Go.RowKit
set_option linter.unusedVariables false

theorem row_empty (W : World) (e : TypeId) (size : Nat) : Row (W.alloc (.cells #[] e)) W.heap.size e size (.slice (some ⟨W.heap.size, 0, none⟩) 0 0) 0 [] :=
  ⟨by simp, .inr ⟨W.heap.size, 0, 0, #[], rfl, Nat.le_refl _, heap_alloc_new W _, Nat.le_refl _, Nat.zero_le _, by simp, by simp⟩⟩

set_option maxHeartbeats 12000000 in
set_option maxRecDepth 100000 in
theorem read_calls (v : Value) (l : List Int) (d f : Int) (w : World) (hv : Bys w v l) (hn : l.length ≤ 1000000) :
    Calls Try.prog 22 #[.agg #[v, .int .i64 d, .int .i64 f]] w fun e w' => ∃ v', e = .returned v' ∧ RowRows w' w.heap.size 22 5 (Value.int .u8) v' (recordsL l) ∧ Ext w w' := by
  obtain ⟨i, hi, hz0, hz1, hz2⟩ := info_parts info_bytes2
  obtain ⟨i8, hi8, hy0, hy1, hy2⟩ := info_parts info_byte
  have HV := Lib.hid hv
  obtain ⟨hby, a, c, rfl, hlc, hvc⟩ := hv
  have HBY := Lib.hid hby
  have HVC := Lib.hid hvc
  generalize hq : l.length = q at hn hlc
  have HQ := Lib.hid hq
  clear hby hvc hq
  go_enter Try.func22, Try.ntmps22
  go_wp2
  go_loopg [3, 4] q (fun m s3 s4 wr => ∃ (k : Nat) (done : List _), k ≤ q ∧ q - k ≤ m ∧ s4 = .int .i64 k ∧ Aside (8 * done.length ≤ k) ∧ Aside (recordsL l = done ++ recordsL (l.drop k)) ∧ Aside (RowRows wr (w.heap.size + 1) 22 5 (Value.int .u8) s3 done) ∧ Aside (Ext (w.alloc (.cells #[.slice a q c, .int .i64 d, .int .i64 f] 24)) wr))
  case atStart => exact ⟨0, [], by omega, by omega, rfl, (show _ ≤ _ by simp), (show recordsL l = _ by rw [List.nil_append, List.drop_zero]), RowRows.mkNil _ _ _ _ _, Ext.rf _⟩
  case round =>
    obtain ⟨k, done, hkq, hm, rfl, HDL, HEQ, HRR, HE⟩ := hrel
    have HEw : Hid (Ext w wr) := Lib.hid (((Ext.rf w).al _).trans' HE.out)
    have HB := Lib.hid (HV.out.ext HEw.out)
    have hc0 := HE.out.cl (cell_new w #[.slice a q c, .int .i64 d, .int .i64 f] 24 0 _ rfl)
    by_cases h8 : k + 8 ≤ q
    · have h8z : (k : Int) + 8 ≤ (q : Int) := by omega
      obtain ⟨b, off, rfl, hbb, _⟩ := HVC.out (by intro e; have := HQ.out; simp [e] at this; omega)
      have hdl : (l.drop k).length = q - k := by rw [List.length_drop, HQ.out]
      have HDQ := Lib.hid hdl; clear hdl
      have HB4 := Lib.hid ((HB.out.drop k (by rw [HQ.out]; omega)).take 4 (by rw [HDQ.out]; omega))
      have HN4 := Lib.hid (show ((l.drop k).take 4).length ≤ 6 from by rw [List.length_take]; omega)
      have hbd : ∀ x, x ∈ l.drop k → Byte x := bytes_drop HBY.out
      have HBD := Lib.hid hbd; clear hbd
      obtain ⟨N, hN⟩ : ∃ N : Nat, valL ((l.drop k).take 4) = N := Int.eq_ofNat_of_zero_le (val_range _ (bytes_take HBD.out)).1
      have hN2 : (N : Int) < 4294967296 := by
        have h := (val_range ((l.drop k).take 4) (bytes_take HBD.out)).2
        rw [hN, List.length_take, HDQ.out, Nat.min_eq_left (by omega)] at h
        simpa using h
      have HN := Lib.hid hN; clear hN
      have f4 : ((k : Int) + 4).toNat = k + 4 := by omega
      have g4 : ((k : Int) + 4 - k).toNat = 4 := by omega
      by_cases h16 : N ≤ 16384
      · have d1 : decide (16384 < (N : Int)) = false := by simp; omega
        by_cases hq8 : k + 8 + N ≤ q
        · have d2 : decide ((q : Int) < (k : Int) + 8 + N) = false := by simp; omega
          go_wp2_with fail
          refine (refNumber_calls _ _ _ HB4.out HN4.out).mono ?_
          rw [HN.out]
          rintro e w' ⟨rfl, rfl⟩
          have HQ1 := Lib.hid ((HB.out.drop k (by rw [HQ.out]; omega)).take (4 + N) (by rw [HDQ.out]; omega))
          have HQ2 := Lib.hid ((HB.out.drop (k + 4 + N) (by rw [HQ.out]; omega)).take 4 (by rw [List.length_drop, HQ.out]; omega))
          have HS1 := Lib.hid (fun nq => refSum_calls _ _ (w'.drewN nq) (HQ1.out.ext ((Ext.rf w').drN nq)) (by rw [List.length_take]; omega))
          have HS2 := Lib.hid (fun nq => refNumber_calls _ _ (w'.drewN nq) (HQ2.out.ext ((Ext.rf w').drN nq)) (by rw [List.length_take]; omega))
          obtain ⟨S, hS⟩ : ∃ S : Nat, sumL ((l.drop k).take (4 + N)) = S := Int.eq_ofNat_of_zero_le (sum_range _).1
          obtain ⟨T, hT⟩ : ∃ T : Nat, valL ((l.drop (k + 4 + N)).take 4) = T := Int.eq_ofNat_of_zero_le (val_range _ (bytes_take (bytes_drop HBY.out))).1
          have hSl := (sum_range ((l.drop k).take (4 + N))).2
          rw [hS] at hSl HS1
          rw [hT] at HS2
          have HST := Lib.hid (And.intro hS hT); clear hS hT
          have f5 : ((k : Int) + 4 + N).toNat = k + 4 + N := by omega
          have f6 : ((k : Int) + 8 + N).toNat = k + 8 + N := by omega
          have e7 : k + 4 + N - k = 4 + N := by omega
          have e9 : k + 8 + N - (k + 4 + N) = 4 := by omega
          have e10 : k + 4 + N - (k + 4) = N := by omega
          by_cases hST : S = T
          · have hne : ((S : Int) != (T : Int)) = false := by simp [hST]
            go_wp2_with fail
            have e8 : IntKind.i64.wrap ((k : Int) + 8) = (k : Int) + 8 := IntWalk.i64_in _ (by omega)
            have e4 : IntKind.i64.wrap ((k : Int) + 4) = (k : Int) + 4 := IntWalk.i64_in _ (by omega)
            have e5 : IntKind.i64.wrap ((k : Int) + 4 + N) = (k : Int) + 4 + N := IntWalk.i64_in _ (by omega)
            have e6 : IntKind.i64.wrap ((k : Int) + 8 + N) = (k : Int) + 8 + N := IntWalk.i64_in _ (by omega)
            go_quiet ((first | (go_at_call 46; exact Calls.quiet_of_same (HS1.out _)) | (go_at_call 45; exact Calls.quiet_of_same (HS2.out _))))
            clear e8 e4 e5 e6 e7 e9 hne HS1 HS2 HQ1 HQ2 HB4 HN4 d1 d2
            obtain ⟨vs, hrow, hel⟩ := HRR.out
            obtain ⟨oa, oc, rfl, _, hsh⟩ := hrow.any
            clear hsh
            generalize hdl : done.length = dl at hrow
            have HDLL := Lib.hid hdl
            have hdl6 : dl ≤ 1000000 := by have := HDL.out; omega
            have HROW := Lib.hid hrow
            have HEL := Lib.hid hel
            clear hdl hrow hel
            have hszE : w.heap.size < w'.heap.size := by have := HE.out.sz; simp at this; omega
            have hcB : ((w'.drewN nq).alloc (.cells #[] 5)).cell? ⟨w.heap.size, 0, none⟩ = some (.slice (some ⟨b, off, none⟩) q c) := (((Ext.rf w').drN nq).al _).cl hc0
            have hne0 : w.heap.size ≠ w'.heap.size := by omega
            have HBX := Lib.hid ((((HB.out.drop (k + 4) (by rw [HQ.out]; omega)).take N (by rw [List.length_drop, HQ.out]; omega)).ext ((Ext.rf w').drN nq)).ext ((Ext.rf (w'.drewN nq)).al (.cells #[] 5)))
            have hxl : ((l.drop (k + 4)).take N).length = N := by rw [List.length_take, List.length_drop, HQ.out]; omega
            have HX := Lib.hid hxl; clear hxl
            have HE0 := Lib.hid (row_empty (w'.drewN nq) 5 1)
            go_wp2_with (first
              | ((at_builtin; refine wpList_append_row (o := ⟨some 64, _, _, _, _, _⟩) rfl _ _ 22 rfl w'.heap.size 5 i8 (.int .u8 0) 1 1 Try.underlying22 hi8 hy0 hy1 hy2 rfl (by decide) _ 0 [] rfl HE0.out (some ⟨b, off + (k + 4), none⟩) N (c - (k + 4)) (((l.drop (k + 4)).take N).map (Value.int .u8)) rfl (by rw [List.length_map, HX.out, Nat.mul_one]) (HBX.out.news) (byte_one _) (by unfold maxLen; omega) (by omega) (by simp) ?_; intro v5 w5 hown5 hgrow5 hblk5; rw [Nat.zero_add, List.nil_append] at hown5; obtain ⟨fa, fc, rfl, _, hsh⟩ := hown5.any; have hgrow7 : ((w'.drewN nq).alloc (.cells #[] 5)).grownBy w5 (some w'.heap.size) := hgrow5; have HE5 := Lib.hid ((((Ext.rf w').drN nq).al (.cells #[] 5)).gr hgrow7 (fun kk hkk => by simp only [Option.some.injEq] at hkk; omega)); have hsz5 := HE5.out.sz; have HR5 := Lib.hid hown5; clear hown5 hgrow5 hblk5 hgrow7 hsh))
              | ((at_builtin; refine wpList_append_one (o := ⟨some 66, _, _, _, _, _⟩) rfl _ _ 34 rfl (w.heap.size + 1) 22 i (.slice none 0 0) 1 24 Try.underlying34 hi hz0 hz1 hz2 rfl (by decide) _ dl vs rfl ((HROW.out.ext HE5.out).al _) w5.heap.size 1 [.slice fa N fc] rfl rfl ⟨_, heap_alloc_new _ _⟩ (by simp [Value.oneCell']) (by unfold maxLen; omega) (by omega) (by simp; omega) ?_; intro v6 w6 hown6 hgrow6 hblk6; have HOWN := Lib.hid hown6; have hgrow7 : (w5.alloc (.cells #[.slice fa N fc] 22)).grownBy w6 (Value.slice oa dl oc).ownBlock := hgrow6; have HGROW := Lib.hid hgrow7; clear hown6 hgrow6 hblk6 hgrow7)))
            go_roundg (q - (k + 8 + N))
            case measure => omega
            case rel =>
              have hnx : nextRec (l.drop k) = some N := by
                unfold nextRec
                rw [HDQ.out, HN.out, if_neg (by omega), if_neg (by omega), if_neg (by omega), Int.toNat_natCast, List.drop_drop, show k + (N + 4) = k + 4 + N from by omega, show N + 4 = 4 + N from by omega, HST.out.1, HST.out.2, if_pos (by omega)]
              refine ⟨k + 8 + N, done ++ [(l.drop (k + 4)).take N], by omega, by omega, by go_num, (show _ ≤ _ from ?_), (show recordsL l = _ from ?_), (show RowRows _ _ _ _ _ _ _ from ?_), (show Ext _ _ from ?_)⟩
              · rw [List.length_append, List.length_singleton]; have := HDL.out; omega
              · rw [HEQ.out, records_some hnx, List.append_assoc, List.drop_drop, List.drop_drop, show k + (N + 8) = k + 8 + N from by omega]; rfl
              · have hL := HDLL.out
                have hR := HROW.out; rw [← hL] at hR
                have hO := HOWN.out; rw [← hL] at hO
                have hG := HGROW.out; rw [← hL] at hG
                refine rowRows_push ((hR.ext HE5.out).al _) (fun i hi => ((HEL.out i hi).ext HE5.out).al _) ?_ (by decide) hG hO
                rw [HX.out]
                exact (HR5.out.mono (by omega)).al _
              · exact ((HE.out.trans' HE5.out).al _).gr HGROW.out (fun k hk => by have := (HROW.out.lt k hk).1; simpa using this)
          · have hne : ((S : Int) != (T : Int)) = true := by simp; omega
            go_wp2_with fail
            have e8 : IntKind.i64.wrap ((k : Int) + 8) = (k : Int) + 8 := IntWalk.i64_in _ (by omega)
            have e4 : IntKind.i64.wrap ((k : Int) + 4) = (k : Int) + 4 := IntWalk.i64_in _ (by omega)
            have e5 : IntKind.i64.wrap ((k : Int) + 4 + N) = (k : Int) + 4 + N := IntWalk.i64_in _ (by omega)
            have e6 : IntKind.i64.wrap ((k : Int) + 8 + N) = (k : Int) + 8 + N := IntWalk.i64_in _ (by omega)
            go_quiet ((first | (go_at_call 46; exact Calls.quiet_of_same (HS1.out _)) | (go_at_call 45; exact Calls.quiet_of_same (HS2.out _))))
            clear e8 e4 e5 e6
            go_wp2
            go_ret
            have hnone : nextRec (l.drop k) = none := by
              unfold nextRec
              rw [HDQ.out, HN.out, if_neg (by omega), if_neg (by omega), if_neg (by omega), Int.toNat_natCast, List.drop_drop, show k + (N + 4) = k + 4 + N from by omega, show N + 4 = 4 + N from by omega, HST.out.1, HST.out.2, if_neg (by omega)]
            exact ⟨_, rfl, by rw [HEQ.out, records_none hnone, List.append_nil]; exact (HRR.out.ext ((Ext.rf _).drN _)).mono (by omega), HEw.out.drN _⟩
        · have d2 : decide ((q : Int) < (k : Int) + 8 + N) = true := by simp; omega
          have hnone : nextRec (l.drop k) = none := by
            unfold nextRec
            rw [HDQ.out, HN.out, if_neg (by omega), if_neg (by omega), if_pos (by omega)]
          have HNONE := Lib.hid hnone; clear hnone
          go_wp2_with fail
          refine (refNumber_calls _ _ _ HB4.out HN4.out).mono ?_
          rw [HN.out]
          rintro e w' ⟨rfl, rfl⟩
          go_wp2_with fail
          go_ret
          exact ⟨_, rfl, by rw [HEQ.out, records_none HNONE.out, List.append_nil]; exact HRR.out.mono (by omega), HEw.out⟩
      · have d1 : decide (16384 < (N : Int)) = true := by simp; omega
        have hnone : nextRec (l.drop k) = none := by
          unfold nextRec
          rw [HDQ.out, HN.out, if_neg (by omega), if_pos (by omega)]
        have HNONE := Lib.hid hnone; clear hnone
        go_wp2_with fail
        refine (refNumber_calls _ _ _ HB4.out HN4.out).mono ?_
        rw [HN.out]
        rintro e w' ⟨rfl, rfl⟩
        go_wp2_with fail
        go_ret
        exact ⟨_, rfl, by rw [HEQ.out, records_none HNONE.out, List.append_nil]; exact HRR.out.mono (by omega), HEw.out⟩
    · have h8z : ¬ (k : Int) + 8 ≤ (q : Int) := by omega
      have hnone : nextRec (l.drop k) = none := by
        unfold nextRec
        rw [List.length_drop, HQ.out, if_pos (by omega)]
      have HNONE := Lib.hid hnone; clear hnone
      go_wp2
      go_ret
      exact ⟨_, rfl, by rw [HEQ.out, records_none HNONE.out, List.append_nil]; exact HRR.out.mono (by omega), HEw.out⟩

end Go.Proofs.Ytggofkaakccoeaa
