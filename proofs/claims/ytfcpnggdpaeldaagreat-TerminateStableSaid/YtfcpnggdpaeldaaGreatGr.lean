import Derived.Test.YtfcpnggdpaeldaaGreatJa
import Derived.Test.YtfcpnggdpaeldaaGreatProg
import Derived.Test.YtfcpnggdpaeldaaGreatGf
import Derived.Test.YtfcpnggdpaeldaaGreatGg
import Derived.Test.YtfcpnggdpaeldaaGreatGe
import Derived.BigQuiet
import Derived.Deep.QuietTactic
import Derived.Deep.LoopGhost
import Derived.Shelf.Abstract
import Derived.BigRegion
/-
  The events can be taken away one after the other: the reference's acyclic.
-/
namespace Go.Proofs.YtfcpnggdpaeldaaGreat
open Go.RowKit
set_option linter.unusedVariables false
attribute [local go_sem ↓] Go.wp_at_zero Go.wp_at_succ

/-- How many events of each process were taken: none of them happens before itself. -/
def Peel (t : Tr) (D : List Nat) : Prop := D.length = t.length ∧ ∀ q, q < t.length → D[q]! ≤ t[q]!.events.length ∧ ∀ i, i < D[q]! → Acc (Dir t) (q, i)
/-- What is left. -/
def remT (t : Tr) (D : List Nat) : Nat := ((List.range t.length).map fun q => t[q]!.events.length - D[q]!).sum
theorem sum_lt {l : List Nat} {f g : Nat → Nat} (h : ∀ x, x ∈ l → f x ≤ g x) {a : Nat} (ha : a ∈ l) (hlt : f a < g a) : (l.map f).sum < (l.map g).sum := by
  induction l with
  | nil => simp at ha
  | cons b l ih =>
    simp only [List.map_cons, List.sum_cons]
    have hb := h b (by simp)
    have hle : ∀ (l : List Nat), (∀ x, x ∈ l → f x ≤ g x) → (l.map f).sum ≤ (l.map g).sum := by
      intro l
      induction l with
      | nil => intro _; simp
      | cons c l ih => intro h; simp only [List.map_cons, List.sum_cons]; have := h c (by simp); have := ih fun x hx => h x (by simp [hx]); omega
    have hl := hle l fun x hx => h x (by simp [hx])
    rcases List.mem_cons.1 ha with rfl | ha
    · omega
    · have := ih (fun x hx => h x (by simp [hx])) ha; omega
theorem get_set {D : List Nat} {p q v : Nat} (hp : p < D.length) : (D.set p v)[q]! = if q = p then v else D[q]! := by
  by_cases e : q = p
  · subst e; rw [if_pos rfl, getElem!_pos (D.set q v) q (by simpa using hp)]; simp
  · rw [if_neg e]
    by_cases hq : q < D.length
    · rw [getElem!_pos (D.set p v) q (by simpa using hq), getElem!_pos D q hq, List.getElem_set_ne (fun h => e h.symm)]
    · rw [getElem!_neg (D.set p v) q (by simpa using hq), getElem!_neg D q hq]
theorem Peel.start (t : Tr) : Peel t (List.replicate t.length 0) := ⟨by simp, fun q hq => by
  have e : (List.replicate t.length 0)[q]! = 0 := by rw [getElem!_pos (List.replicate t.length 0) q (by simpa using hq)]; simp
  rw [e]; exact ⟨by omega, fun i hi => by omega⟩⟩
theorem Peel.step {t : Tr} {D : List Nat} (h : Peel t D) {p : Nat} (hp : p < t.length) (hi : D[p]! < t[p]!.events.length) (hs : ∀ s, (ev t (p, D[p]!)).kind = 3 → findE t 2 (ev t (p, D[p]!)).msg = some s → s.2 < D[s.1]!) :
    Peel t (D.set p (D[p]! + 1)) ∧ remT t (D.set p (D[p]! + 1)) < remT t D := by
  have hpD : p < D.length := by rw [h.1]; exact hp
  refine ⟨⟨by rw [List.length_set]; exact h.1, fun q hq => ?_⟩, ?_⟩
  · rw [get_set hpD]
    by_cases e : q = p
    · subst e
      rw [if_pos rfl]
      refine ⟨by omega, fun i hi2 => ?_⟩
      by_cases e2 : i = D[q]!
      · subst e2
        refine acc_step (fun j hj => (h.2 q hq).2 j hj) (fun s h1 h2 => ?_)
        exact (h.2 s.1 (findE_some h2).1.1).2 s.2 (hs s h1 h2)
      · exact (h.2 q hq).2 i (by omega)
    · rw [if_neg e]; exact h.2 q hq
  · refine sum_lt (fun q hq => ?_) (List.mem_range.2 hp) ?_
    · rw [get_set hpD]; split
      · rename_i e; subst e; omega
      · omega
    · rw [get_set hpD, if_pos rfl]; omega
theorem Peel.all {t : Tr} {D : List Nat} (h : Peel t D) (hd : ∀ q, q < t.length → ¬ D[q]! < t[q]!.events.length) : ¬ Cyc t := by
  refine acc_no_cyc fun x hx => ?_
  have := (h.2 x.1 hx.1)
  exact this.2 x.2 (by have := hd x.1 hx.1; have := hx.2; omega)

def AcyOut (t : Tr) (w w' : World) (e : Ending) : Prop := ∃ c : Bool, e = .returned (.bool c) ∧ (c = true → ¬ Cyc t) ∧ Ext w w'
/-- The counts as they lie in memory. -/
abbrev natsV (D : List Nat) : List Value := D.map fun (k : Nat) => Value.int .i64 (k : Int)
theorem natsV_at {D : List Nat} {q : Nat} (hq : q < D.length) : (natsV D)[q]? = some (.int .i64 (D[q]! : Int)) := by
  rw [List.getElem?_map, List.getElem?_eq_getElem hq, getElem!_pos D q hq]; rfl
theorem natsV_set {D : List Nat} {q v : Nat} : (natsV D).set q (.int .i64 (v : Int)) = natsV (D.set q v) := by
  simp [natsV, List.map_set]
theorem info_int3 : (Tryz.prog.info? 3).map (fun i => (i.zero, i.size, i.bytes)) = some (some (.int .i64 0), 1, 8) := by kernel_rfl

set_option maxHeartbeats 8000000 in
set_option maxRecDepth 100000 in
theorem acyclicR_calls (v : Value) (t : Tr) (w : World) (h : TrAt w v t) (hs : SmallTr t) : Calls Tryz.prog 72 #[.agg #[v]] w fun e w' => AcyOut t w w' e := by
  have HT := Lib.hid h
  have HS := Lib.hid hs
  have HFI := Lib.hid (fun W (hW : Ext w W) m => findR_calls v t 2 m W (h.ext hW) hs)
  obtain ⟨ta, tc, rfl, htc⟩ := h.sh
  have hn1 := hs.1
  have HPS := Lib.hid (Peel.start t)
  generalize hln : t.length = n at *
  have HL := Lib.hid hln
  obtain ⟨ii, hii, iz0, iz1, iz2⟩ := info_parts info_int3
  have HX0 := Lib.hid (heap_alloc_new w (.cells #[.slice ta n tc] 24))
  have HE1 := Lib.hid ((Ext.rf w).al (.cells #[.slice ta n tc] 24))
  clear h hs hln
  go_enter Tryz.func72, Tryz.ntmps72
  go_wp2_with ((at_make; refine wpList_make_full _ rfl _ _ 25 rfl w.heap.size 3 ii (.int .i64 0) 1 Tryz.underlying25 hii iz0 iz1 .i64 .i64 _ _ n rfl rfl rfl rfl (by rw [iz2]; omega) (by unfold maxLen; omega) (by simp) ?_; intro w3 hown3 hgrow3))
  have HROW := Lib.hid (show Row w3 w.heap.size 3 1 (.slice (some ⟨w.heap.size + 1, 0, none⟩) n n) n (natsV (List.replicate n 0)) from by
    have := Row.ofOwns hown3
    rw [show (Value.int .i64 0).cells = #[.int .i64 0] from rfl, Nat.mul_one, toList_madeCells_one] at this
    simpa [natsV] using this)
  have HX3 := Lib.hid (show w3.heap[w.heap.size]? = some (.cells #[.slice ta n tc] 24) from by
    rw [hgrow3.block _ (by simp) (by simp)]; exact HX0.out)
  have HE3 := Lib.hid (HE1.out.gr hgrow3 (by simp))
  clear hown3 hgrow3 HX0 HE1
  go_loopg [] (remT t (List.replicate n 0)) (fun g wr => ∃ D : List Nat, remT t D ≤ g ∧ Aside (Peel t D) ∧ Aside (Row wr w.heap.size 3 1 (.slice (some ⟨w.heap.size + 1, 0, none⟩) n n) n (natsV D)) ∧ Aside (wr.heap[w.heap.size]? = some (.cells #[.slice ta n tc] 24)) ∧ Aside (Ext w wr))
  case atStart => exact ⟨_, Nat.le_refl _, HPS, HROW, HX3, HE3⟩
  case round =>
    obtain ⟨D, hg, HP, HR, HX, HE⟩ := hrel
    clear HPS HROW HX3 HE3
    go_wp2
    obtain ⟨wo, rfl⟩ : ∃ x, x = wr := ⟨_, rfl⟩
    go_loopg [4, 5] n (fun g2 s4 s5 wr => ∃ (p : Nat) (E : List Nat) (b : Bool), p ≤ n ∧ n - p ≤ g2 ∧ s5 = .int .i64 p ∧ s4 = .bool b ∧ Aside (Peel t E) ∧ Aside (remT t E ≤ remT t D ∧ (b = true → remT t E < remT t D)) ∧ Aside (Row wr w.heap.size 3 1 (.slice (some ⟨w.heap.size + 1, 0, none⟩) n n) n (natsV E)) ∧ Aside (wr.heap[w.heap.size]? = some (.cells #[.slice ta n tc] 24)) ∧ Aside (Ext w wr))
    case atStart => exact ⟨0, D, false, Nat.zero_le _, by omega, rfl, rfl, HP, (show Aside _ from ⟨Nat.le_refl _, fun h => absurd h (by decide)⟩), HR, HX, HE⟩
    case round =>
      obtain ⟨p, E, b, hp, hg2, rfl, rfl, HPE, HRM, HRE, HXE, HEE⟩ := hrel
      have t0 := cellOf HXE.out 0
      simp only [List.getElem?_toArray, List.getElem?_cons_zero] at t0
      by_cases hlt : p < n
      · have hltz : (p : Int) < (n : Int) := by omega
        have hpz : (0 : Int) ≤ (p : Int) := by omega
        obtain ⟨B, O, C, vv, ve, hve, hlC, hB, hn0, hv0, he0, hV, hE0⟩ := proc_at HT.out p (by rw [HL.out]; exact hlt)
        simp only [Value.slice.injEq] at hve
        obtain ⟨rfl, hzz, rfl⟩ := hve
        obtain ⟨ea, ec, rfl, hec⟩ := hE0.sh
        have hen := (HS.out.2 p (by rw [HL.out]; exact hlt)).2.1
        have HEV := Lib.hid hE0
        have HE00 := Lib.hid he0
        have HPL := Lib.hid (show p < t.length from by rw [HL.out]; exact hlt)
        generalize hxx : t[p]! = x at *
        generalize hne : x.events.length = ne at *
        have HXX := Lib.hid hxx
        have HNE := Lib.hid hne
        clear hn0 hv0 hV hE0 hzz hxx hne he0
        go_wp2
        clear t0
        obtain ⟨wq, rfl⟩ : ∃ x, x = wr := ⟨_, rfl⟩
        go_loopg [4] (remT t E) (fun g3 s4 wr => ∃ (G : List Nat) (b : Bool), remT t G ≤ g3 ∧ s4 = .bool b ∧ Aside (Peel t G) ∧ Aside (remT t G ≤ remT t D ∧ (b = true → remT t G < remT t D)) ∧ Aside (Row wr w.heap.size 3 1 (.slice (some ⟨w.heap.size + 1, 0, none⟩) n n) n (natsV G)) ∧ Aside (wr.heap[w.heap.size]? = some (.cells #[.slice (some ⟨B, O, none⟩) n tc] 24)) ∧ Aside (Ext w wr))
        case atStart => exact ⟨E, b, Nat.le_refl _, rfl, HPE, HRM, HRE, HXE, HEE⟩
        case round =>
          obtain ⟨G, c, hg3, rfl, HPG, HRG, HRR, HXG, HEG⟩ := hrel
          clear HPE HRM HRE HXE HEE HP HR HX HE
          have HGL := Lib.hid (show G.length = n from by rw [HPG.out.1, HL.out])
          have dp := (HRR.out.cell p (by omega)).trans (natsV_at (by rw [HGL.out]; exact hlt))
          have t0 := cellOf HXG.out 0
          simp only [List.getElem?_toArray, List.getElem?_cons_zero, Nat.zero_add] at t0 dp
          have he1 := HEG.out.cl HE00.out
          generalize hd : G[p]! = d at *
          have HD := Lib.hid hd
          have HDL := Lib.hid (show d ≤ ne from by have := (HPG.out.2 p HPL.out).1; rw [HXX.out, HNE.out, HD.out] at this; exact this)
          clear hd
          by_cases hdl : d < ne
          · have d1 : decide ((d : Int) < (ne : Int)) = true := decide_eq_true (by omega)
            have d1n : decide (d < ne) = true := decide_eq_true (by omega)
            have HDN := Lib.hid hdl
            obtain ⟨EB, EO, EC, va, hee, hlE, hEB, k0, k1, k2, k3, k4, ha⟩ := event_at HEV.out d (by rw [HNE.out]; exact hdl)
            simp only [Value.slice.injEq] at hee
            obtain ⟨rfl, hzz, rfl⟩ := hee
            obtain ⟨va1, va2, rfl, _⟩ := ha.sh
            have HK := Lib.hid (And.intro k0 (And.intro k1 (And.intro k2 (And.intro k3 k4))))
            have HEVE : Hid (ev t (p, d) = x.events[d]!) := Lib.hid (by show t[p]!.events[d]! = _; rw [HXX.out])
            generalize x.events[d]! = y at *
            generalize y.asg.length = nb at *
            clear k0 k1 k2 k3 k4 hzz ha hdl
            go_wp2
            go_quiet (fail)
            clear d1 d1n
            have HRR := Lib.hid (HRR.out.ext ((Ext.rf wr).drN nq))
            have HXG := Lib.hid (((Ext.rf wr).drN nq).hp HXG.out)
            have HEG := Lib.hid (HEG.out.drN nq)
            have dp5 : (wr.drewN nq).cell? ⟨w.heap.size + 1, p, none⟩ = some (.int .i64 (d : Int)) := dp
            have t05 : (wr.drewN nq).cell? ⟨w.heap.size, 0, none⟩ = some (.slice (some ⟨B, O, none⟩) n tc) := t0
            have he5 : (wr.drewN nq).cell? ⟨B, O + p * 3 + 2, none⟩ = some (.slice (some ⟨EB, EO, none⟩) ne ec) := he1
            generalize wr.drewN nq = w5 at *
            clear dp t0 he1
            have m0 := HEG.out.cl HK.out.1
            have m1 := HEG.out.cl HK.out.2.1
            have m2 := HEG.out.cl HK.out.2.2.1
            have m3 := HEG.out.cl HK.out.2.2.2.1
            have m4 := HEG.out.cl HK.out.2.2.2.2
            have hdz : (0 : Int) ≤ (d : Int) := by omega
            have hdi : (d : Int) < (ne : Int) := by have := HDN.out; omega
            have l1 : w.heap.size + 1 < w5.heap.size := World.block_lt_of_cell? w5 _ dp5
            have l2 : w.heap.size + 1 ≠ w5.heap.size := by omega
            have l3 : w.heap.size < w5.heap.size := by omega
            have l4 : w.heap.size ≠ w5.heap.size := by omega
            have l5 : B < w5.heap.size := by omega
            have l6 : B ≠ w5.heap.size := by omega
            have l7 : EB < w5.heap.size := by omega
            have l8 : EB ≠ w5.heap.size := by omega
            go_wp2
            go_region
            have HXT := Lib.hid (((Ext.rf w5).al (.cells #[.int .i64 y.kind, .int .i64 y.peer, .int .i64 y.msg, .int .i64 y.time, .slice va1 nb va2] 62)).dr)
            have HB6 := Lib.hid (show ((w5.alloc (.cells #[.int .i64 y.kind, .int .i64 y.peer, .int .i64 y.msg, .int .i64 y.time, .slice va1 nb va2] 62)).drew).heap[w5.heap.size]? = some (.cells #[.int .i64 y.kind, .int .i64 y.peer, .int .i64 y.msg, .int .i64 y.time, .slice va1 nb va2] 62) from heap_alloc_new w5 _)
            generalize (w5.alloc (.cells #[.int .i64 y.kind, .int .i64 y.peer, .int .i64 y.msg, .int .i64 y.time, .slice va1 nb va2] 62)).drew = w6 at *
            have HR6 := Lib.hid (HRR.out.ext HXT.out)
            have HX6 := Lib.hid (HXT.out.hp HXG.out)
            have HE6 := Lib.hid (HEG.out.trans' HXT.out)
            have HDP := Lib.hid (And.intro hdz hdi)
            clear dp5 t05 he5 m0 m1 m2 m3 m4 l1 l2 l3 l4 l5 l6 l7 l8
            have hdb : (d : Int) ≤ 1000000 := by have := HDL.out; omega
            have y0 := cellOf HB6.out 0
            have y2 := cellOf HB6.out 2
            simp only [List.getElem?_toArray, List.getElem?_cons_zero, List.getElem?_cons_succ] at y0 y2
            obtain ⟨ck, hck⟩ : ∃ b, (y.kind == 3) = b := ⟨_, rfl⟩
            have HCK := Lib.hid hck
            cases ck with
            | false =>
              have HPS := Lib.hid (HPG.out.step HPL.out (by rw [HXX.out, HNE.out, HD.out]; exact HDN.out) (fun s h9 _ => by
                rw [HD.out, HEVE.out] at h9; have := HCK.out; rw [h9] at this; exact absurd this (by decide)))
              have dp6 := (HR6.out.cell p (by omega)).trans (natsV_at (by rw [HGL.out]; exact hlt))
              have fp6 := HR6.out.free p
              rw [Nat.zero_add] at dp6
              rw [HD.out] at dp6
              have HSET := Lib.hid (show Row (w6.setCell ⟨w.heap.size + 1, p, none⟩ (.int .i64 ((d : Int) + 1))) w.heap.size 3 1 (.slice (some ⟨w.heap.size + 1, 0, none⟩) n n) n (natsV (G.set p (d + 1))) from by
                have := HR6.out.set p (.int .i64 ((d : Int) + 1)) (by omega)
                rw [Nat.zero_add, show ((d : Int) + 1) = ((d + 1 : Nat) : Int) from by omega, natsV_set] at this
                exact this)
              go_wp2
              go_roundg (remT t (G.set p (d + 1)))
              case measure => have := HPS.out.2; rw [HD.out] at this; omega
              case rel =>
                refine ⟨G.set p (d + 1), true, Nat.le_refl _, rfl, (show Peel t _ from by have := HPS.out.1; rw [HD.out] at this; exact this), (show Aside _ from ?_), HSET, (show _ = _ from ?_), HE6.out.st (p := ⟨w.heap.size + 1, p, none⟩) (by simp) _⟩
                · have h9 := HPS.out.2; rw [HD.out] at h9; have := HRG.out.1; exact ⟨by omega, fun _ => by omega⟩
                · rw [Below.heap_setCell _ ⟨w.heap.size + 1, p, none⟩ _ _ (by simp)]; exact HX6.out
            | true =>
              have HK3 := Lib.hid (show y.kind = 3 from by have := HCK.out; simpa using this)
              obtain ⟨fe, hfe⟩ : ∃ f, findE t 2 y.msg = f := ⟨_, rfl⟩
              have HFW := Lib.hid (HFI.out w6 HE6.out y.msg)
              rw [hfe] at HFW
              have HFE := Lib.hid hfe
              clear hfe
              have t6 := cellOf HX6.out 0
              simp only [List.getElem?_toArray, List.getElem?_cons_zero] at t6
              obtain ⟨sp, zb, hsp, hspn, hA, hB2, hsm⟩ : ∃ (sp : Nat) (zb : Int), sp < n ∧ eidA fe = (sp : Int) ∧ eidB fe = zb ∧ (fe = none ∨ ∃ s, fe = some s ∧ s.1 = sp ∧ zb = (s.2 : Int) + 1) ∧ True := by
                cases hfo : fe with
                | none => exact ⟨0, 0, by omega, rfl, rfl, .inl rfl, trivial⟩
                | some s => exact ⟨s.1, _, by have := (findE_some (HFE.out.trans hfo)).1.1; rw [HL.out] at this; exact this, rfl, rfl, .inr ⟨s, rfl, rfl, rfl⟩, trivial⟩
              rw [hspn, hA] at HFW
              have HSF := Lib.hid hB2
              clear hspn hA hB2 hsm
              go_wp2_with fail
              clear y0 y2 t6
              refine HFW.out.mono ?_
              rintro e w7 ⟨rfl, hE7⟩
              have HXI := Lib.hid ((Ext.rf w7).al (idO sp zb))
              have HB8 := Lib.hid (heap_alloc_new w7 (idO sp zb))
              have HR8 := Lib.hid ((HR6.out.ext hE7).al (idO sp zb))
              have HX8 := Lib.hid (HXI.out.hp (hE7.hp HX6.out))
              have HE8 := Lib.hid ((HE6.out.trans' hE7).al (idO sp zb))
              have y8 := (HE6.out.trans' hE7).sz
              clear hE7
              have s0 := cellOf HB8.out 0
              have s1 := cellOf HB8.out 1
              simp only [List.getElem?_toArray, List.getElem?_cons_zero, List.getElem?_cons_succ] at s0 s1
              have dsp := (HR8.out.cell sp (by omega)).trans (natsV_at (by rw [HGL.out]; exact hsp))
              rw [Nat.zero_add] at dsp
              generalize hdg : G[sp]! = dg at *
              have HDG := Lib.hid hdg
              have hspz : (0 : Int) ≤ (sp : Int) := by omega
              have hspi : (sp : Int) < (n : Int) := by omega
              clear hdg
              go_wp2
              generalize hw8 : w7.alloc (idO sp zb) = w8 at *
              clear hw8
              by_cases hcmp : (dg : Int) < zb
              · have d1 : decide ((dg : Int) < zb) = true := decide_eq_true hcmp
                clear hcmp
                go_quiet (fail)
                clear d1
                go_wp2
                go_roundg (n - (p + 1))
                case measure => omega
                case rel => exact ⟨p + 1, G, c, by omega, by omega, by go_num, rfl, HPG, HRG, HR8.out.ext ((Ext.rf w8).drN _), ((Ext.rf w8).drN _).hp HX8.out, HE8.out.drN _⟩
              · have d1 : decide ((dg : Int) < zb) = false := decide_eq_false hcmp
                have HCM := Lib.hid hcmp
                clear hcmp
                have HPS := Lib.hid (HPG.out.step HPL.out (by rw [HXX.out, HNE.out, HD.out]; exact HDN.out) (fun s h9 h10 => by
                  rw [HD.out, HEVE.out, HFE.out] at h10
                  rcases HSF.out with h11 | ⟨s', h11, h12, h13⟩
                  · rw [h11] at h10; cases h10
                  · rw [h11] at h10; cases h10
                    rw [h12, HDG.out]; have := HCM.out; omega))
                go_quiet (fail)
                clear d1 dsp s0 s1
                have HR6 := Lib.hid (HR8.out.ext ((Ext.rf w8).drN nq))
                have HX6 := Lib.hid (((Ext.rf w8).drN nq).hp HX8.out)
                have HE6 := Lib.hid (HE8.out.drN nq)
                generalize w8.drewN nq = w6 at *
                have dp6 := (HR6.out.cell p (by omega)).trans (natsV_at (by rw [HGL.out]; exact hlt))
                have fp6 := HR6.out.free p
                rw [Nat.zero_add] at dp6
                rw [HD.out] at dp6
                have HSET := Lib.hid (show Row (w6.setCell ⟨w.heap.size + 1, p, none⟩ (.int .i64 ((d : Int) + 1))) w.heap.size 3 1 (.slice (some ⟨w.heap.size + 1, 0, none⟩) n n) n (natsV (G.set p (d + 1))) from by
                  have := HR6.out.set p (.int .i64 ((d : Int) + 1)) (by omega)
                  rw [Nat.zero_add, show ((d : Int) + 1) = ((d + 1 : Nat) : Int) from by omega, natsV_set] at this
                  exact this)
                go_wp2
                go_roundg (remT t (G.set p (d + 1)))
                case measure => have := HPS.out.2; rw [HD.out] at this; omega
                case rel =>
                  refine ⟨G.set p (d + 1), true, Nat.le_refl _, rfl, (show Peel t _ from by have := HPS.out.1; rw [HD.out] at this; exact this), (show Aside _ from ?_), HSET, (show _ = _ from ?_), HE6.out.st (p := ⟨w.heap.size + 1, p, none⟩) (by simp) _⟩
                  · have h9 := HPS.out.2; rw [HD.out] at h9; have := HRG.out.1; exact ⟨by omega, fun _ => by omega⟩
                  · rw [Below.heap_setCell _ ⟨w.heap.size + 1, p, none⟩ _ _ (by simp)]; exact HX6.out
          · have d1 : decide ((d : Int) < (ne : Int)) = false := decide_eq_false (by omega)
            have d1n : decide (d < ne) = false := decide_eq_false (by omega)
            clear hdl
            go_wp2
            go_quiet (fail)
            clear d1 d1n
            go_wp2
            go_roundg (n - (p + 1))
            case measure => omega
            case rel => exact ⟨p + 1, G, c, by omega, by omega, by go_num, rfl, HPG, HRG, HRR.out.ext ((Ext.rf wr).drN _), ((Ext.rf wr).drN _).hp HXG.out, HEG.out.drN _⟩
      · have hltz : ¬ (p : Int) < (n : Int) := by omega
        obtain rfl : n = p := by omega
        cases b with
        | true =>
          go_wp2
          go_roundg (remT t E)
          case measure => have := HRM.out.2 (by first | rfl | trivial); omega
          case rel => exact ⟨E, Nat.le_refl _, HPE, HRE, HXE, HEE⟩
        | false =>
          clear HP HR HX HE
          have HEL := Lib.hid (show E.length = n from by rw [HPE.out.1, HL.out])
          go_wp2
          obtain ⟨wq, rfl⟩ : ∃ x, x = wr := ⟨_, rfl⟩
          go_loopg [8] n (fun g2 s8 wr => ∃ q : Nat, q ≤ n ∧ n - q ≤ g2 ∧ s8 = .int .i64 q ∧ Aside (∀ j, j < q → ¬ E[j]! < t[j]!.events.length) ∧ Aside (Ext wq wr))
          case atStart => exact ⟨0, Nat.zero_le _, by omega, rfl, (fun j hj => absurd hj (Nat.not_lt_zero _)), Ext.rf _⟩
          case round =>
            obtain ⟨q, hq, hg3, rfl, A, HEQ⟩ := hrel
            have HEW := Lib.hid (HEE.out.trans' HEQ.out)
            have HXW := Lib.hid (HEQ.out.hp HXE.out)
            have HRW := Lib.hid (HRE.out.ext HEQ.out)
            have t0 := cellOf HXW.out 0
            simp only [List.getElem?_toArray, List.getElem?_cons_zero] at t0
            by_cases hltq : q < n
            · have hltz : (q : Int) < (n : Int) := by omega
              have hqz : (0 : Int) ≤ (q : Int) := by omega
              obtain ⟨B, O, C, vv, ve, hve, hlC, hB, hn0, hv0, he0, hV, hE0⟩ := proc_at HT.out q (by rw [HL.out]; exact hltq)
              simp only [Value.slice.injEq] at hve
              obtain ⟨rfl, hzz, rfl⟩ := hve
              obtain ⟨ea, ec, rfl, hec⟩ := hE0.sh
              have he1 := HEW.out.cl he0
              have dp := (HRW.out.cell q (by omega)).trans (natsV_at (by rw [HEL.out]; exact hltq))
              rw [Nat.zero_add] at dp
              generalize hne : t[q]!.events.length = ne at *
              generalize hd : E[q]! = d at *
              have HNE := Lib.hid hne
              have HD := Lib.hid hd
              clear hn0 hv0 hV hE0 hzz hne hd he0
              by_cases hdl : d < ne
              · have d1 : decide ((d : Int) < (ne : Int)) = true := decide_eq_true (by omega)
                have d1n : decide (d < ne) = true := decide_eq_true (by omega)
                clear hdl
                go_wp2
                go_quiet (fail)
                go_wp2
                go_ret
                exact ⟨false, rfl, fun h => absurd h (by decide), HEW.out.drN _⟩
              · have d1 : decide ((d : Int) < (ne : Int)) = false := decide_eq_false (by omega)
                have d1n : decide (d < ne) = false := decide_eq_false (by omega)
                have HDL := Lib.hid hdl
                clear hdl
                go_wp2
                go_quiet (fail)
                go_wp2
                go_roundg (n - (q + 1))
                case measure => omega
                case rel =>
                  refine ⟨q + 1, by omega, by omega, by go_num, (show Aside _ from fun j hj => ?_), (show Ext _ _ from HEQ.out.drN _)⟩
                  by_cases e : j = q
                  · subst e; rw [HD.out, HNE.out]; exact HDL.out
                  · exact A.out j (by omega)
            · have hltz : ¬ (q : Int) < (n : Int) := by omega
              obtain rfl : n = q := by omega
              have HFIN := Lib.hid (HPE.out.all (fun j hj => A.out j (by rw [HL.out] at hj; exact hj)))
              go_wp2
              go_ret
              exact ⟨true, rfl, fun _ => HFIN.out, HEW.out⟩

end Go.Proofs.YtfcpnggdpaeldaaGreat

/-
  What the reference's Past hands back: for each process which of its events happen before an event. No function is named here.
-/
namespace Go.Proofs.YtfcpnggdpaeldaaGreat
open Go.RowKit
set_option linter.unusedVariables false

open Classical in
/-- A row of rows of marks: the mark of event (q, i) lies at place i + 1 of row q. -/
noncomputable def PastOut (t : Tr) (x : Eid) (w w' : World) (e : Ending) : Prop :=
  ∃ (b off c : Nat) (Bs : List Nat), e = .returned (.slice (some ⟨b, off, none⟩) t.length c) ∧ t.length ≤ c ∧ b < w'.heap.size ∧ Ext w w' ∧
    ∀ q, q < t.length → w'.cell? ⟨b, off + q, none⟩ = some (.slice (some ⟨Bs[q]!, 0, none⟩) (t[q]!.events.length + 1) (t[q]!.events.length + 1)) ∧ Bs[q]! < w'.heap.size ∧
      ∀ i, i < t[q]!.events.length → w'.cell? ⟨Bs[q]!, i + 1, none⟩ = some (.bool (decide (Relation.TransGen (Dir t) (q, i) x)))

end Go.Proofs.YtfcpnggdpaeldaaGreat
