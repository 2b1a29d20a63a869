/-
  A step of the token that takes a stamp: the program's text.
-/
import Derived.Test.YtpjnppkhhbnfoaaBase
import Derived.Test.YtpjnppkhhbnfoaaProg
import Derived.BigQuiet
import Derived.Deep.QuietTactic
import Derived.Deep.LoopGhost
import Derived.Shelf.Abstract
import Derived.Test.YtpjnppkhhbnfoaaTokO
import Derived.Test.YtpjnppkhhbnfoaaTokP
import Derived.Test.YtpjnppkhhbnfoaaTokE
namespace Go.Proofs.Ytpjnppkhhbnfoaa
open Go.RowKit
set_option linter.unusedVariables false
attribute [local go_sem ↓] Go.wp_at_zero Go.wp_at_succ

/-- A store into a block that lies below. -/
theorem Row.stB {w : World} {base g o : Nat} {e : TypeId} {size : Nat} {v : Value} {n : Nat} {xs : List Value} (h : Row w base e size v n xs) (hg : g < base) (u : Value) : Row (w.setCell ⟨g, o, none⟩ u) base e size v n xs :=
  h.st (p := ⟨g, o, none⟩) (fun hk => by have := (h.lt g hk).1; omega) u
theorem RowRows.stB {w : World} {base g o : Nat} {e e' : TypeId} {enc : Int → Value} {v : Value} {l : List (List Int)} (h : RowRows w base e e' enc v l) (hg : g < base) (u : Value) : RowRows (w.setCell ⟨g, o, none⟩ u) base e e' enc v l := by
  obtain ⟨vs, h1, h2⟩ := h
  exact ⟨vs, h1.stB hg u, fun i hi => (h2 i hi).stB hg u⟩
theorem QHs.stB {w : World} {base g o : Nat} {e2 e3 : TypeId} {hs : List Value} {qs : List (List (List Int))} (h : QHs w base e2 e3 hs qs) (hg : g < base) (u : Value) : QHs (w.setCell ⟨g, o, none⟩ u) base e2 e3 hs qs :=
  ⟨h.1, fun p hp => (h.2.1 p hp).stB hg u, h.2.2⟩
theorem OwnAg.stB {w : World} {base g o : Nat} {e1 e2 e3 : TypeId} {v : Value} {l : List Ag} (h : OwnAg w base e1 e2 e3 v l) (hg : g < base) (u : Value) : OwnAg (w.setCell ⟨g, o, none⟩ u) base e1 e2 e3 v l := by
  obtain ⟨cs, hs, h1, h2, h3⟩ := h; exact ⟨cs, hs, h1.stB hg u, h2, h3.stB hg u⟩

/-- One queue's first stamp is taken away. -/
theorem QHs.dropFirst {w : World} {base G o p : Nat} {e1 e2 e3 : TypeId} {qs : List (List (List Int))} {hs : List Value} {u : Value} {cs : Array Value} {fr : Nat × Nat} (hG : w.heap[G]? = some (.cells cs e1 fr)) (hq : QHs w base e2 e3 hs qs) (hp : p < qs.length) (h12 : e1 ≠ e2) (h13 : e1 ≠ e3)
    (hu : RowRows w base e2 e3 (Value.int .i64) u (qs[p]!.drop 1)) (hb : u.ownBlock = hs[p]!.ownBlock) : QHs (w.setCell ⟨G, o, none⟩ u) base e2 e3 (hs.set p u) (qs.set p (qs[p]!.drop 1)) :=
  hq.replace hp (fun r hr _ => (hq.2.1 r hr).stO hG h12 h13 u) (hu.stO hG h12 h13 u) (.inl hb)

/-- What lies where while the token makes its step. -/
def StI (w wr : World) (K b2 b3 n : Nat) (vc vg va sv : Value) (at_ st : Int) (C : List Int) (Gd : List Bool) (L : List Ag) (x : List Int) : Prop :=
  wr.heap[K]? = some (baT (.int .i64 at_) vc vg (.int .i64 st)) ∧ wr.heap[K + 1]? = some (baT (.int .i64 0) (.slice none 0 0) (.slice none 0 0) (.int .i64 0)) ∧
  Row wr b2 3 1 vc n (C.map (Value.int .i64)) ∧ Row wr b2 4 1 vg n (Gd.map Value.bool) ∧ OwnA wr b3 va L ∧ Row wr b3 3 1 sv n (x.map (Value.int .i64)) ∧ Ext w wr
theorem StI.ext {w wr W : World} {K b2 b3 n : Nat} {vc vg va sv : Value} {at_ st : Int} {C : List Int} {Gd : List Bool} {L : List Ag} {x : List Int} (h : StI w wr K b2 b3 n vc vg va sv at_ st C Gd L x) (e : Ext wr W) : StI w W K b2 b3 n vc vg va sv at_ st C Gd L x := by
  obtain ⟨h1, h2, h3, h4, h5, h6, h7⟩ := h
  exact ⟨e.hp h1, e.hp h2, h3.ext e, h4.ext e, OwnAg.ext h5 e, h6.ext e, h7.trans' e⟩
theorem StI.setC {w wr : World} {K b2 b3 n g o c j : Nat} {vg va sv : Value} {at_ st : Int} {C : List Int} {Gd : List Bool} {L : List Ag} {x : List Int} (h : StI w wr K b2 b3 n (.slice (some ⟨g, o, none⟩) n c) vg va sv at_ st C Gd L x)
    (hj : j < n) (hg : g < b3) (hK : K ≠ g) (hK1 : K + 1 ≠ g) (hw : w.heap.size ≤ g) (y : Int) : StI w (wr.setCell ⟨g, o + j, none⟩ (.int .i64 y)) K b2 b3 n (.slice (some ⟨g, o, none⟩) n c) vg va sv at_ st (C.set j y) Gd L x := by
  obtain ⟨h1, h2, h3, h4, h5, h6, h7⟩ := h
  obtain ⟨cs1, t1, fr1, hG, ht1⟩ := h3.block g rfl
  subst ht1
  refine ⟨(Below.heap_setCell _ _ _ _ hK).trans h1, (Below.heap_setCell _ _ _ _ hK1).trans h2, ?_, h4.stO hG (by decide) _, OwnAg.stB h5 hg _, h6.stB hg _, h7.st (p := ⟨g, o + j, none⟩) hw _⟩
  rw [List.map_set]
  exact h3.set j _ (by omega)
theorem StI.setG {w wr : World} {K b2 b3 n g o c j : Nat} {vc va sv : Value} {at_ st : Int} {C : List Int} {Gd : List Bool} {L : List Ag} {x : List Int} (h : StI w wr K b2 b3 n vc (.slice (some ⟨g, o, none⟩) n c) va sv at_ st C Gd L x)
    (hj : j < n) (hg : g < b3) (hK : K ≠ g) (hK1 : K + 1 ≠ g) (hw : w.heap.size ≤ g) (y : Bool) : StI w (wr.setCell ⟨g, o + j, none⟩ (.bool y)) K b2 b3 n vc (.slice (some ⟨g, o, none⟩) n c) va sv at_ st C (Gd.set j y) L x := by
  obtain ⟨h1, h2, h3, h4, h5, h6, h7⟩ := h
  obtain ⟨cs1, t1, fr1, hG, ht1⟩ := h4.block g rfl
  subst ht1
  refine ⟨(Below.heap_setCell _ _ _ _ hK).trans h1, (Below.heap_setCell _ _ _ _ hK1).trans h2, h3.stO hG (by decide) _, ?_, OwnAg.stB h5 hg _, h6.stB hg _, h7.st (p := ⟨g, o + j, none⟩) hw _⟩
  rw [List.map_set]
  exact h4.set j _ (by omega)
theorem StI.setB {w wr : World} {K b2 b3 n : Nat} {vc vg va sv : Value} {at_ st : Int} {C : List Int} {Gd : List Bool} {L : List Ag} {x : List Int} (h : StI w wr K b2 b3 n vc vg va sv at_ st C Gd L x) (hK : K < b3) (hw : w.heap.size ≤ K) (y : Int) :
    StI w (wr.setCell ⟨K, 0, none⟩ (.int .i64 y)) K b2 b3 n vc vg va sv y st C Gd L x ∧ StI w (wr.setCell ⟨K, 3, none⟩ (.int .i64 y)) K b2 b3 n vc vg va sv at_ y C Gd L x := by
  obtain ⟨h1, h2, h3, h4, h5, h6, h7⟩ := h
  exact ⟨⟨ba_set0 h1 _, (Below.heap_setCell _ _ _ _ (by simp only; omega)).trans h2, h3.stO h1 (by decide) _, h4.stO h1 (by decide) _, OwnAg.stB h5 hK _, h6.stB hK _, h7.st (p := ⟨K, 0, none⟩) hw _⟩,
    ⟨ba_set3 h1 _, (Below.heap_setCell _ _ _ _ (by simp only; omega)).trans h2, h3.stO h1 (by decide) _, h4.stO h1 (by decide) _, OwnAg.stB h5 hK _, h6.stB hK _, h7.st (p := ⟨K, 3, none⟩) hw _⟩⟩

theorem StI.len {w wr : World} {K b2 b3 n : Nat} {vc vg va sv : Value} {at_ st : Int} {C : List Int} {Gd : List Bool} {L : List Ag} {x : List Int} (h : StI w wr K b2 b3 n vc vg va sv at_ st C Gd L x) : C.length = n ∧ Gd.length = n ∧ x.length = n := by
  obtain ⟨h1, h2, h3, h4, h5, h6, h7⟩ := h
  exact ⟨by simpa using h3.1, by simpa using h4.1, by simpa using h6.1⟩
theorem rowInt_at {w : World} {base g o n c j : Nat} {e : TypeId} {C : List Int} (h : Row w base e 1 (.slice (some ⟨g, o, none⟩) n c) n (C.map (Value.int .i64))) (hj : j < n) : w.cell? ⟨g, o + j, none⟩ = some (.int .i64 C[j]!) := by
  have hl : C.length = n := by simpa using h.1
  rw [h.cell j (by omega), List.getElem?_map, List.getElem?_eq_getElem (by omega), getElem!_pos C j (by omega)]; rfl
theorem rowBool_at {w : World} {base g o n c j : Nat} {e : TypeId} {C : List Bool} (h : Row w base e 1 (.slice (some ⟨g, o, none⟩) n c) n (C.map Value.bool)) (hj : j < n) : w.cell? ⟨g, o + j, none⟩ = some (.bool C[j]!) := by
  have hl : C.length = n := by simpa using h.1
  rw [h.cell j (by omega), List.getElem?_map, List.getElem?_eq_getElem (by omega), getElem!_pos C j (by omega)]; rfl

theorem ba_stored {w : World} {K : Nat} {z0 z1 z2 z3 : Value} (h : w.heap[K]? = some (baT z0 z1 z2 z3)) (a b c d : Value) :
    ((((w.setCell ⟨K, 0, none⟩ a).setCell ⟨K, 1, none⟩ b).setCell ⟨K, 2, none⟩ c).setCell ⟨K, 3, none⟩ d).heap[K]? = some (baT a b c d) ∧
    (∀ {base : Nat} {e : TypeId} {size : Nat} {v : Value} {n : Nat} {xs : List Value}, Row w base e size v n xs → 25 ≠ e → Row ((((w.setCell ⟨K, 0, none⟩ a).setCell ⟨K, 1, none⟩ b).setCell ⟨K, 2, none⟩ c).setCell ⟨K, 3, none⟩ d) base e size v n xs) ∧
    (∀ {base : Nat} {hs : List Value} {qs : List (List (List Int))}, QHs w base 22 3 hs qs → QHs ((((w.setCell ⟨K, 0, none⟩ a).setCell ⟨K, 1, none⟩ b).setCell ⟨K, 2, none⟩ c).setCell ⟨K, 3, none⟩ d) base 22 3 hs qs) ∧
    (∀ {base : Nat} {w0 : World}, base ≤ K → Below base w0 w → Below base w0 ((((w.setCell ⟨K, 0, none⟩ a).setCell ⟨K, 1, none⟩ b).setCell ⟨K, 2, none⟩ c).setCell ⟨K, 3, none⟩ d)) ∧
    (∀ {J : Nat} {o : Obj}, J ≠ K → w.heap[J]? = some o → ((((w.setCell ⟨K, 0, none⟩ a).setCell ⟨K, 1, none⟩ b).setCell ⟨K, 2, none⟩ c).setCell ⟨K, 3, none⟩ d).heap[J]? = some o) := by
  refine ⟨ba_set3 (ba_set2 (ba_set1 (ba_set0 h _) _) _) _, fun hr hne => ?_, fun hr => ?_, fun h1 h3 => ?_, fun hJ ho => ?_⟩
  · exact (((hr.stO h hne a).stO (ba_set0 h _) hne b).stO (ba_set1 (ba_set0 h _) _) hne c).stO (ba_set2 (ba_set1 (ba_set0 h _) _) _) hne d
  · exact (((hr.stO h (by decide) (by decide) a).stO (ba_set0 h _) (by decide) (by decide) b).stO (ba_set1 (ba_set0 h _) _) (by decide) (by decide) c).stO (ba_set2 (ba_set1 (ba_set0 h _) _) _) (by decide) (by decide) d
  · exact Below.setCell (Below.setCell (Below.setCell (Below.setCell h3 h1 a) h1 b) h1 c) h1 d
  · rw [Below.heap_setCell _ _ _ _ hJ, Below.heap_setCell _ _ _ _ hJ, Below.heap_setCell _ _ _ _ hJ, Below.heap_setCell _ _ _ _ hJ]; exact ho

def StepOut (w w' : World) (e : Ending) (b : Ba) (l : List Ag) : Prop := ∃ vc vg va, e = .returned (.tuple #[.agg #[.int .i64 b.at_, vc, vg, .int .i64 b.state], va, .int .i64 0]) ∧ OwnBa w' w.heap.size vc vg b ∧ OwnA w' w.heap.size va l ∧ Ext w w'

theorem agents_smallT {l : List Ag} (h : agentsB l = true) : SmallT l := by
  obtain ⟨_, h8, hv⟩ := agents_parts.1 h
  refine ⟨by omega, fun p hp => ?_⟩
  obtain ⟨h1, _, _, h4⟩ := agent_parts.1 (hv p hp)
  refine ⟨by omega, fun i hi => ?_⟩
  have := stamp_len ((queue_parts.1 h4).2 i hi).1
  omega

set_option maxHeartbeats 16000000 in
set_option maxRecDepth 100000 in
theorem stepT_calls (uc ug v : Value) (b : Ba) (l : List Ag) (P : Nat) (w : World) (hc : Ints w uc b.cut) (hg : Sl RBool 1 w ug b.good) (h : Sl RAgent 3 w v l)
    (hv : validT b l = true) (hst : b.state = 0) (hat : b.at_ = (P : Int)) (hq : 0 < l[P]!.queue.length) (hd : l[P]!.dropped ≠ 1000) (hle : b.cut[P]! ≤ l[P]!.queue[0]![P]!) :
    Calls Try.prog 16 #[.agg #[.int .i64 b.at_, uc, ug, .int .i64 b.state], v] w fun e w' => StepOut w w' e (stepB b l P) (takeAg l P) := by
  obtain ⟨hab, hz1, hat2, hsb, hgl, hz2, hz3, hz4⟩ := validT_parts.1 hv
  have hsm := agents_smallT hab
  obtain ⟨hn1, hn8, hagp⟩ := agents_parts.1 hab
  have hPl : P < l.length := by omega
  have hcl := stamp_len hsb
  obtain ⟨hq65, hd0, hd1, hqb⟩ := agent_parts.1 (hagp P hPl)
  have hv0 := stamp_len ((queue_parts.1 hqb).2 0 hq).1
  have hVAL := validTP_calls uc ug v b l
  rw [hv] at hVAL
  have HV := Lib.hid (fun W (hW : Ext w W) => hVAL W (hc.ext hW) (hg.ext rbool_lasts hW) (by omega) (by omega) (h.ext ragent_lasts hW) hsm)
  have HOW := Lib.hid (fun W (hW : Ext w W) => ownT_calls uc ug b W (hc.ext hW) (hg.ext rbool_lasts hW) (by omega) (by omega))
  have HCOP := Lib.hid (fun W (hW : Ext w W) => copiedT_calls v l W (h.ext ragent_lasts hW) hsm)
  have HS := Lib.hid h
  obtain ⟨a, c, rfl, hlc⟩ := h.shape
  obtain ⟨ga, gc, rfl, hgc⟩ := hg.shape
  obtain ⟨ca, cc, rfl, hcc, hz7⟩ := hc
  obtain ⟨B, O, C, a1, m1, c1, hue0, hz5, hq0, hdc0, he0, M1, hmc1, hz6⟩ := agent_at HS.out P hPl
  simp only [Value.slice.injEq] at hue0
  obtain ⟨rfl, hnn, rfl⟩ := hue0
  have HQ0 := Lib.hid hq0
  have HD0 := Lib.hid hdc0
  have HE0A := Lib.hid he0
  have HM1 := Lib.hid M1
  have hm1 : 0 < m1 := by omega
  have hPz : (0 : Int) ≤ (P : Int) := by omega
  have HLE := Lib.hid hle
  have HAT := Lib.hid hat
  have HST := Lib.hid hst
  clear hz1 hz2 hz3 hz4 hz5 hz6 hz7 h hg hsm hq65
  have HV0 := Lib.hid hv0
  have HPL := Lib.hid hPl
  rw [hat, hst] at HV HOW ⊢
  rw [hcl] at HV HOW hcc ⊢
  rw [hgl] at HV HOW hgc ⊢
  have HCL := Lib.hid hcl
  have HGL := Lib.hid hgl
  generalize hln : l.length = n at *
  have HN := Lib.hid hln
  generalize hdd : l[P]!.dropped = dd at *
  have HDD := Lib.hid hdd
  generalize hee : l[P]!.ended = ee at *
  have hPn : P < n := hPl
  have hPi : (P : Int) < (n : Int) := by omega
  have b1 : (((m1 : Int)) == 0) = false := by simp; omega
  have b2 : (dd == 1000) = false := by simpa using hd
  have HX0 := Lib.hid (((Ext.rf (w.alloc (baT (.int .i64 P) (.slice ca n cc) (.slice ga n gc) (.int .i64 0)))).al (baT (.int .i64 0) (.slice none 0 0) (.slice none 0 0) (.int .i64 0))).hp (heap_alloc_new w (baT (.int .i64 P) (.slice ca n cc) (.slice ga n gc) (.int .i64 0))))
  have HX1 := Lib.hid (heap_new_eq (w := w.alloc (baT (.int .i64 P) (.slice ca n cc) (.slice ga n gc) (.int .i64 0))) (o := baT (.int .i64 0) (.slice none 0 0) (.slice none 0 0) (.int .i64 0)) (b := w.heap.size + 1) (by simp))
  have HE0 : Hid (Ext w ((w.alloc (baT (.int .i64 P) (.slice ca n cc) (.slice ga n gc) (.int .i64 0))).alloc (baT (.int .i64 0) (.slice none 0 0) (.slice none 0 0) (.int .i64 0)))) := Lib.hid (((Ext.rf w).al _).al _)
  have hsz0 : ((w.alloc (baT (.int .i64 P) (.slice ca n cc) (.slice ga n gc) (.int .i64 0))).alloc (baT (.int .i64 0) (.slice none 0 0) (.slice none 0 0) (.int .i64 0))).heap.size = w.heap.size + 2 := by simp
  clear hab hat2 hsb hgl hagp hcl hqb hv0 hVAL hnn hq0 hdc0 he0 M1 hle hln hdd hee hst hat hv hd hn1 hPl hq
  go_enter Try.func16, Try.ntmps16
  go_wp2_with fail
  generalize hw0 : (w.alloc (baT (.int .i64 P) (.slice ca n cc) (.slice ga n gc) (.int .i64 0))).alloc (baT (.int .i64 0) (.slice none 0 0) (.slice none 0 0) (.int .i64 0)) = w0 at *
  clear hw0
  refine (HV.out _ HE0.out).mono ?_
  rintro e w1 ⟨rfl, hE1⟩
  have HEW := Lib.hid (HE0.out.trans' hE1)
  have HXA := Lib.hid (hE1.hp HX0.out)
  have HXB := Lib.hid (hE1.hp HX1.out)
  have hsz1 := hE1.sz
  clear hE1
  have x0 := cellOf HXA.out 0
  have x1 := cellOf HXA.out 1
  have x2 := cellOf HXA.out 2
  have x3 := cellOf HXA.out 3
  simp only [List.getElem?_toArray, List.getElem?_cons_zero, List.getElem?_cons_succ] at x0 x1 x2 x3
  have hh := HEW.out.cl HQ0.out
  have hdc := HEW.out.cl HD0.out
  have hec := HEW.out.cl HE0A.out
  go_wp2_with fail
  refine (HOW.out _ HEW.out).mono ?_
  rintro e w2 ⟨vc2, vg2, rfl, ⟨hRC, hRG⟩, hE2⟩
  rw [HAT.out, HST.out]
  rw [HCL.out] at hRC
  rw [HGL.out] at hRG
  obtain ⟨gcc, occ, ccc, rfl, hgc1, hgc2, hgc3⟩ := hRC.shape (by omega)
  obtain ⟨ggg, ogg, cgg, rfl, hgg1, hgg2, hgg3⟩ := hRG.shape (by omega)
  have HRC := Lib.hid hRC
  have HRG := Lib.hid hRG
  have HEW := Lib.hid (HEW.out.trans' hE2)
  have HXA := Lib.hid (hE2.hp HXA.out)
  have HXB := Lib.hid (hE2.hp HXB.out)
  have hsz2 := hE2.sz
  clear hRC hRG hE2 x0 x1 x2 x3 hh hdc hec
  go_wp2_with fail
  refine (HCOP.out _ HEW.out).mono ?_
  rintro e w3 ⟨v3, rfl, hO3, hE3⟩
  obtain ⟨G, O2, C2, cs, hs, rfl, hh0, hfr, hGb, hG, hrow, hac, hqh⟩ := hO3.at P (by rw [HN.out]; exact hPn)
  rw [HN.out] at hrow ⊢
  have HRC := Lib.hid (HRC.out.ext hE3)
  have HRG := Lib.hid (HRG.out.ext hE3)
  have HEW := Lib.hid (HEW.out.trans' hE3)
  have HXA := Lib.hid (hE3.hp HXA.out)
  have HXB := Lib.hid (hE3.hp HXB.out)
  have hsz3 := hE3.sz
  have HROW := Lib.hid hrow
  have HAC := Lib.hid hac
  have HQH := Lib.hid hqh
  have HFR := Lib.hid hfr
  have HH0 := Lib.hid hh0
  clear hrow hac hqh hfr hE3 hO3 hh0
  have x0 := cellOf HXA.out 0
  have x1 := cellOf HXA.out 1
  have x2 := cellOf HXA.out 2
  have x3 := cellOf HXA.out 3
  simp only [List.getElem?_toArray, List.getElem?_cons_zero, List.getElem?_cons_succ] at x0 x1 x2 x3
  have f0 := freeOf HXA.out 0
  have f1 := freeOf HXA.out 1
  have f2 := freeOf HXA.out 2
  have f3 := freeOf HXA.out 3
  go_upto_region 11 with (fail)
  obtain ⟨k1, k2, k3, k4, k5⟩ := ba_stored HXA.out (.int .i64 P) (.slice (some ⟨gcc, occ, none⟩) n ccc) (.slice (some ⟨ggg, ogg, none⟩) n cgg) (.int .i64 0)
  have HXA4 := Lib.hid k1
  have HXB4 := Lib.hid (k5 (by omega) HXB.out)
  have HRC4 := Lib.hid (k2 HRC.out (by decide))
  have HRG4 := Lib.hid (k2 HRG.out (by decide))
  have HROW4 := Lib.hid (k2 HROW.out (by decide))
  have HQH4 := Lib.hid (k3 HQH.out)
  have HEW4 := Lib.hid (k4 (Nat.le_refl _) HEW.out)
  have hsz4 : ((((w3.setCell ⟨w.heap.size, 0, none⟩ (.int .i64 P)).setCell ⟨w.heap.size, 1, none⟩ (.slice (some ⟨gcc, occ, none⟩) n ccc)).setCell ⟨w.heap.size, 2, none⟩ (.slice (some ⟨ggg, ogg, none⟩) n cgg)).setCell ⟨w.heap.size, 3, none⟩ (.int .i64 0)).heap.size = w3.heap.size := by simp [size_setCell]
  generalize hw4 : (((w3.setCell ⟨w.heap.size, 0, none⟩ (.int .i64 P)).setCell ⟨w.heap.size, 1, none⟩ (.slice (some ⟨gcc, occ, none⟩) n ccc)).setCell ⟨w.heap.size, 2, none⟩ (.slice (some ⟨ggg, ogg, none⟩) n cgg)).setCell ⟨w.heap.size, 3, none⟩ (.int .i64 0) = w4 at *
  clear hw4 k1 k2 k3 k4 k5 x0 x1 x2 x3 f0 f1 f2 f3
  have hG4 : G < w4.heap.size := by omega
  have hGf := HROW4.out.free (O2 + P * 3)
  have hrr := HQH4.out.2.1 P (by rw [queuesOf_len, HN.out]; exact hPn)
  rw [queuesOf_at l P (by rw [HN.out]; exact hPn)] at hrr
  obtain ⟨m, hm⟩ : ∃ m, m1 = m + 1 := ⟨m1 - 1, by omega⟩
  subst hm
  obtain ⟨vs, hvr, hel⟩ := id hrr
  obtain ⟨g', o', cap, hse, hg1, hg2, hcap⟩ := hvr.shape (by rw [← HM1.out]; omega)
  rw [← HM1.out] at hse hcap hvr
  have hsv := hel 0 (by rw [← HM1.out]; omega)
  rw [HV0.out] at hsv
  obtain ⟨gsv, osv, csv, hsve, hgsv1, hgsv2, hgsv3⟩ := hsv.shape (by omega)
  have hc0 := HROW4.out.cell (P * 3) (by omega)
  rw [(HAC.out.2.2 P (by rw [HN.out]; exact hPn)).1, hse] at hc0
  have hvc := hvr
  rw [hse] at hvc
  have hv0c := hvc.cell 0 (by omega)
  rw [List.getElem?_eq_getElem (by have := hvr.1; omega), ← getElem!_pos vs 0 (by have := hvr.1; omega), hsve, Nat.add_zero] at hv0c
  rw [hse] at hrr
  have HTL := Lib.hid (hrr.tail HM1.out.symm)
  rw [hsve] at hsv
  have HSV := Lib.hid hsv
  have HSE := Lib.hid hse
  have b3 : (((m + 1 : Nat) : Int) == 0) = false := by simp; omega
  have hmz : (0 : Int) < ((m + 1 : Nat) : Int) := by omega
  clear hrr hvr hel hse hsve hvc hsv
  go_upto_region 15 with (fail)
  have hPq : P < (queuesOf l).length := by rw [queuesOf_len, HN.out]; exact hPn
  go_cut [] (fun wx => ∃ u, Aside (Row wx w2.heap.size 49 3 (.slice (some ⟨G, O2, none⟩) n C2) n (cs.set (P * 3) u)) ∧ Aside (QHs wx w2.heap.size 22 3 (hs.set P u) ((queuesOf l).set P (l[P]!.queue.drop 1))) ∧ Aside (wx = w4.setCell ⟨G, O2 + P * 3, none⟩ u))
  case first =>
    have hfin : ∀ u, RowRows w4 w2.heap.size 22 3 (Value.int .i64) u (l[P]!.queue.drop 1) → u.ownBlock = hs[P]!.ownBlock →
        (Row (w4.setCell ⟨G, O2 + P * 3, none⟩ u) w2.heap.size 49 3 (.slice (some ⟨G, O2, none⟩) n C2) n (cs.set (P * 3) u)) ∧ QHs (w4.setCell ⟨G, O2 + P * 3, none⟩ u) w2.heap.size 22 3 (hs.set P u) ((queuesOf l).set P (l[P]!.queue.drop 1)) := by
      intro u hu hb
      obtain ⟨cs1, t1, fr1, hGG, ht1⟩ := HROW4.out.block G rfl
      subst ht1
      refine ⟨HROW4.out.set (P * 3) u (by omega), ?_⟩
      have := QHs.dropFirst (o := O2 + P * 3) (u := u) hGG HQH4.out hPq (by decide) (by decide) (by rw [queuesOf_at l P (by rw [HN.out]; exact hPn)]; exact hu) hb
      rw [queuesOf_at l P (by rw [HN.out]; exact hPn)] at this
      exact this
    have HFIN := Lib.hid (fun u (hu : RowRows w4 w2.heap.size 22 3 (Value.int .i64) u (l[P]!.queue.drop 1)) => hfin u hu)
    clear hfin
    by_cases hc1 : cap = 1
    · subst hc1
      obtain rfl : m = 0 := by omega
      go_wp2
      go_meet
      obtain ⟨f1, f2⟩ := HFIN.out (.slice (some ⟨g', o', none⟩) 0 0) (HTL.out.2 (by first | rfl | trivial)) (by rw [HSE.out]; rfl)
      exact ⟨_, (show Row _ _ _ _ _ _ _ from f1), (show QHs _ _ _ _ _ _ from f2), rfl⟩
    · have hcz : (1 : Int) ≤ (cap : Int) := by omega
      have hczn : 1 ≤ cap := by omega
      go_wp2
      go_meet
      obtain ⟨f1, f2⟩ := HFIN.out (.slice (some ⟨g', o' + 1, none⟩) m (cap - 1)) HTL.out.1 (by rw [HSE.out]; rfl)
      exact ⟨_, (show Row _ _ _ _ _ _ _ from f1), (show QHs _ _ _ _ _ _ from f2), rfl⟩
  case rest =>
    obtain ⟨u, HR5, HQ5, hwx⟩ := hcut
    have hwx := hwx.out
    subst hwx
    clear hc0 hv0c hGf
    have hdcell := HR5.out.cell (P * 3 + 1) (by omega)
    rw [List.getElem?_set, if_neg (by omega), (HAC.out.2.2 P (by rw [HN.out]; exact hPn)).2.1, HDD.out, ← Nat.add_assoc] at hdcell
    have hdf := HR5.out.free (O2 + P * 3 + 1)
    go_upto_region 17 with (fail)
    have hinv : StI w ((w4.setCell ⟨G, O2 + P * 3, none⟩ u).setCell ⟨G, O2 + P * 3 + 1, none⟩ (.int .i64 (dd + 1))) w.heap.size w1.heap.size w2.heap.size n (.slice (some ⟨gcc, occ, none⟩) n ccc) (.slice (some ⟨ggg, ogg, none⟩) n cgg) (.slice (some ⟨G, O2, none⟩) n C2) (.slice (some ⟨gsv, osv, none⟩) n csv) P 0 b.cut b.good (takeAg l P) l[P]!.queue[0]! := by
      obtain ⟨cs1, t1, fr1, hGG, ht1⟩ := HROW4.out.block G rfl
      subst ht1
      obtain ⟨cs2, t2, fr2, hGG2, ht2⟩ := HR5.out.block G rfl
      subst ht2
      refine ⟨?_, ?_, (HRC4.out.stO hGG (by decide) _).stO hGG2 (by decide) _, (HRG4.out.stO hGG (by decide) _).stO hGG2 (by decide) _, ?_, (HSV.out.stO hGG (by decide) _).stO hGG2 (by decide) _, ?_⟩
      · rw [Below.heap_setCell _ _ _ _ (by simp only; omega), Below.heap_setCell _ _ _ _ (by simp only; omega)]; exact HXA4.out
      · rw [Below.heap_setCell _ _ _ _ (by simp only; omega), Below.heap_setCell _ _ _ _ (by simp only; omega)]; exact HXB4.out
      · have hPl : P < l.length := by rw [HN.out]; exact hPn
        have hA := (HAC.out.setQ P hPl u (l[P]!.queue.drop 1)).setD P (by rw [List.length_set]; exact hPl) (dd + 1)
        rw [List.set_set, set_at l P P _ hPl, if_pos rfl] at hA
        have hR := HR5.out.set (P * 3 + 1) (.int .i64 (dd + 1)) (by omega)
        have hlen : (takeAg l P).length = n := by rw [takeAg, List.length_set, HN.out]
        refine ⟨_, _, by rw [hlen]; exact hR, (by rw [takeAg, HDD.out]; exact hA), ?_⟩
        rw [takeAg, queuesOf_set]
        exact HQ5.out.stO hGG2 (by decide) (by decide) _
      · exact ((show Ext w w4 from HEW4.out).st (p := ⟨G, O2 + P * 3, none⟩) (by show w.heap.size ≤ G; omega) _).st (p := ⟨G, O2 + P * 3 + 1, none⟩) (by show w.heap.size ≤ G; omega) _
    have HI := Lib.hid hinv
    generalize hw5 : (w4.setCell ⟨G, O2 + P * 3, none⟩ u).setCell ⟨G, O2 + P * 3 + 1, none⟩ (.int .i64 (dd + 1)) = w5 at *
    clear hinv hw5 hdcell hdf
    generalize hx : l[P]!.queue[0]! = x at *
    have HX := Lib.hid hx
    have hne1 : gcc ≠ w.heap.size := by omega
    have hne2 : ggg ≠ w.heap.size := by omega
    have hne3 : gcc ≠ gsv := by omega
    have hne4 : ggg ≠ gsv := by omega
    have hne5 : gcc ≠ ggg := by
      intro e
      subst e
      obtain ⟨cs1, t1, fr1, hG1, ht1⟩ := HI.out.2.2.1.block gcc rfl
      obtain ⟨cs2, t2, fr2, hG2, ht2⟩ := HI.out.2.2.2.1.block gcc rfl
      subst ht1
      rw [hG1] at hG2
      simp at hG2
      exact absurd (hG2.2.1.trans ht2) (by decide)
    have hne6 : ggg ≠ gcc := fun e => hne5 e.symm
    have hlt5 : decide (x[P]! < b.cut[P]!) = false := decide_eq_false (by have := HLE.out; omega)
    clear hx
    have x0 := cellOf HI.out.1 0
    have x1 := cellOf HI.out.1 1
    have x2 := cellOf HI.out.1 2
    have x3 := cellOf HI.out.1 3
    simp only [List.getElem?_toArray, List.getElem?_cons_zero, List.getElem?_cons_succ] at x0 x1 x2 x3
    have hsx := rowInt_at HI.out.2.2.2.2.2.1 hPn
    have hcx := rowInt_at HI.out.2.2.1 hPn
    generalize hxp : x[P]! = xp at *
    have HXP := Lib.hid hxp
    generalize b.cut[P]! = bp at hcx hlt5
    clear hxp
    go_wp2
    go_quiet (fail)
    go_upto_region 19 with (fail)
    clear hcx x0 x1 x2 x3 hsx
    have HI := Lib.hid (HI.out.ext ((Ext.rf w5).drN nq))
    generalize w5.drewN nq = w6 at *
    have x0 := cellOf HI.out.1 0
    have x1 := cellOf HI.out.1 1
    have x2 := cellOf HI.out.1 2
    have x3 := cellOf HI.out.1 3
    simp only [List.getElem?_toArray, List.getElem?_cons_zero, List.getElem?_cons_succ] at x0 x1 x2 x3
    have hsx := rowInt_at HI.out.2.2.2.2.2.1 hPn
    rw [HXP.out] at hsx
    have hcx := rowInt_at HI.out.2.2.1 hPn
    have hgx := rowBool_at HI.out.2.2.2.1 hPn
    have hcf := HI.out.2.2.1.free (occ + P)
    have hgf := HI.out.2.2.2.1.free (ogg + P)
    go_cut [] (fun wx => Aside (StI w wx w.heap.size w1.heap.size w2.heap.size n (.slice (some ⟨gcc, occ, none⟩) n ccc) (.slice (some ⟨ggg, ogg, none⟩) n cgg) (.slice (some ⟨G, O2, none⟩) n C2) (.slice (some ⟨gsv, osv, none⟩) n csv) P 0 (b.cut.set P xp) (b.good.set P true) (takeAg l P) x))
    case first =>
      go_region
      all_goals (go_wp2_with fail; go_meet)
      all_goals first
        | exact (show StI _ _ _ _ _ _ _ _ _ _ _ _ _ _ _ _ from (((HI.out.ext ((Ext.rf _).dr)).setC (j := P) (by omega) (by omega) (by omega) (by omega) (by omega) xp).setG (j := P) (by omega) (by omega) (by omega) (by omega) (by omega) true))
        | exact (show StI _ _ _ _ _ _ _ _ _ _ _ _ _ _ _ _ from (((HI.out.setC (j := P) (by omega) (by omega) (by omega) (by omega) (by omega) xp).setG (j := P) (by omega) (by omega) (by omega) (by omega) (by omega) true).ext ((Ext.rf _).dr)))
        | exact (show StI _ _ _ _ _ _ _ _ _ _ _ _ _ _ _ _ from (((HI.out.setG (j := P) (by omega) (by omega) (by omega) (by omega) (by omega) true).setC (j := P) (by omega) (by omega) (by omega) (by omega) (by omega) xp).ext ((Ext.rf _).dr)))
    case rest =>
      have HI := hcut
      clear x0 x1 x2 x3 hsx hcx hgx hcf hgf
      go_wp2
      go_loopg [113] n (fun g s113 wr => ∃ k : Nat, k ≤ n ∧ n - k ≤ g ∧ s113 = .int .i64 k ∧ Aside (StI w wr w.heap.size w1.heap.size w2.heap.size n (.slice (some ⟨gcc, occ, none⟩) n ccc) (.slice (some ⟨ggg, ogg, none⟩) n cgg) (.slice (some ⟨G, O2, none⟩) n C2) (.slice (some ⟨gsv, osv, none⟩) n csv) P 0 (mergeK x P k (b.cut.set P xp, b.good.set P true)).1 (mergeK x P k (b.cut.set P xp, b.good.set P true)).2 (takeAg l P) x))
      case atStart => exact ⟨0, Nat.zero_le _, by omega, rfl, HI.out⟩
      case round =>
        obtain ⟨k, hk, hg, rfl, HI⟩ := hrel
        by_cases hlt : k < n
        · have hltz : (k : Int) < (n : Int) := by omega
          have hkz : (0 : Int) ≤ (k : Int) := by omega
          by_cases hkp : k = P
          · subst hkp
            have HM := Lib.hid (show mergeK x k (k + 1) (b.cut.set k xp, b.good.set k true) = mergeK x k k (b.cut.set k xp, b.good.set k true) from by rw [mergeK, if_neg (by simp)])
            have c1' : ((k : Int) != (k : Int)) = false := by simp
            go_wp2
            go_quiet (fail)
            go_wp2
            go_roundg (n - (k + 1))
            case measure => omega
            case rel => exact ⟨k + 1, by omega, by omega, by go_num, (show StI _ _ _ _ _ _ _ _ _ _ _ _ _ _ _ _ from by rw [HM.out]; exact HI.out.ext ((Ext.rf _).drN _))⟩
          · have c1' : ((k : Int) != (P : Int)) = true := by simp; omega
            generalize hs0 : (b.cut.set P xp, b.good.set P true) = s0 at *
            have HS0 := Lib.hid hs0
            clear hs0
            have x0 := cellOf HI.out.1 0
            have x1 := cellOf HI.out.1 1
            have x2 := cellOf HI.out.1 2
            have x3 := cellOf HI.out.1 3
            simp only [List.getElem?_toArray, List.getElem?_cons_zero, List.getElem?_cons_succ] at x0 x1 x2 x3
            have hsx := rowInt_at HI.out.2.2.2.2.2.1 hlt
            have hcx := rowInt_at HI.out.2.2.1 hlt
            by_cases hgt : (mergeK x P k s0).1[k]! < x[k]!
            · have c2 : decide ((mergeK x P k s0).1[k]! < x[k]!) = true := by simpa using hgt
              have HM := Lib.hid (show mergeK x P (k + 1) s0 = ((mergeK x P k s0).1.set k x[k]!, (mergeK x P k s0).2.set k false) from by rw [mergeK, if_pos ⟨hkp, hgt⟩])
              generalize hxk : x[k]! = xk at *
              generalize (mergeK x P k s0).1[k]! = mk at hcx c2 hgt
              have HXK := Lib.hid hxk
              clear hxk hgt
              go_wp2
              go_quiet (fail)
              go_upto_region 24 with (fail)
              clear hcx x0 x1 x2 x3 hsx
              have HI := Lib.hid (HI.out.ext ((Ext.rf wr).drN nq))
              generalize wr.drewN nq = w7 at *
              have x0 := cellOf HI.out.1 0
              have x1 := cellOf HI.out.1 1
              have x2 := cellOf HI.out.1 2
              have x3 := cellOf HI.out.1 3
              simp only [List.getElem?_toArray, List.getElem?_cons_zero, List.getElem?_cons_succ] at x0 x1 x2 x3
              have hsx := rowInt_at HI.out.2.2.2.2.2.1 hlt
              rw [HXK.out] at hsx
              have hcx := rowInt_at HI.out.2.2.1 hlt
              have hgx := rowBool_at HI.out.2.2.2.1 hlt
              have hcf := HI.out.2.2.1.free (occ + k)
              have hgf := HI.out.2.2.2.1.free (ogg + k)
              go_region
              all_goals go_wp2
              all_goals go_roundg (n - (k + 1))
              case measure => omega
              case rel =>
                refine ⟨k + 1, by omega, by omega, by go_num, (show StI _ _ _ _ _ _ _ _ _ _ _ _ _ _ _ _ from ?_)⟩
                rw [HM.out]
                first
                  | exact (((HI.out.ext ((Ext.rf _).dr)).setC (j := k) (by omega) (by omega) (by omega) (by omega) (by omega) xk).setG (j := k) (by omega) (by omega) (by omega) (by omega) (by omega) false)
                  | exact ((HI.out.setC (j := k) (by omega) (by omega) (by omega) (by omega) (by omega) xk).setG (j := k) (by omega) (by omega) (by omega) (by omega) (by omega) false).ext ((Ext.rf _).dr)
                  | exact ((HI.out.setG (j := k) (by omega) (by omega) (by omega) (by omega) (by omega) false).setC (j := k) (by omega) (by omega) (by omega) (by omega) (by omega) xk).ext ((Ext.rf _).dr)
            · have c2 : decide ((mergeK x P k s0).1[k]! < x[k]!) = false := by simpa using hgt
              have HM := Lib.hid (show mergeK x P (k + 1) s0 = mergeK x P k s0 from by rw [mergeK, if_neg (fun h => hgt h.2)])
              generalize hxk : x[k]! = xk at *
              generalize (mergeK x P k s0).1[k]! = mk at hcx c2 hgt
              clear hxk hgt
              go_wp2
              go_quiet (fail)
              go_wp2
              go_roundg (n - (k + 1))
              case measure => omega
              case rel => exact ⟨k + 1, by omega, by omega, by go_num, (show StI _ _ _ _ _ _ _ _ _ _ _ _ _ _ _ _ from by rw [HM.out]; exact HI.out.ext ((Ext.rf _).drN _))⟩
        · have hltz : ¬ (k : Int) < (n : Int) := by omega
          obtain rfl : n = k := by omega
          have hmm : mergeK x P n (b.cut.set P xp, b.good.set P true) = stepM b l P := by rw [stepM, HX.out, HXP.out, HN.out]
          rw [hmm] at HI
          have hgr := HI.out.2.2.2.1.bools
          have HLEN := Lib.hid HI.out.len
          have hCON := containsNo_calls (.slice (some ⟨ggg, ogg, none⟩) n cgg) (stepM b l P).2
          have HCON := Lib.hid (fun W (hW : Ext wr W) => hCON W (hgr.ext rbool_lasts hW) (by rw [HLEN.out.2.1]; omega))
          clear hmm hgr hCON
          have x0 := cellOf HI.out.1 0
          have x1 := cellOf HI.out.1 1
          have x2 := cellOf HI.out.1 2
          have x3 := cellOf HI.out.1 3
          simp only [List.getElem?_toArray, List.getElem?_cons_zero, List.getElem?_cons_succ] at x0 x1 x2 x3
          cases hall : (stepM b l P).2.all id with
          | true =>
            have HST2 := Lib.hid (show stepB b l P = { at_ := P, cut := (stepM b l P).1, good := (stepM b l P).2, state := 1 } from by rw [stepB, if_pos hall])
            have HALL := Lib.hid hall
            clear hall
            go_wp2_with fail
            refine (HCON.out _ (by repeat (first | refine Ext.st ?_ (by first | exact Nat.le_refl _ | exact Nat.le_succ _ | assumption | omega) _ | refine Ext.al ?_ _ | refine Ext.dr ?_ | refine Ext.drN ?_ _ | exact Ext.rf _))).mono ?_
            rw [HALL.out]
            rintro e w8 ⟨rfl, hD⟩
            have HI := Lib.hid (HI.out.ext hD.ext)
            clear hD x0 x1 x2 x3
            have x0 := cellOf HI.out.1 0
            have x1 := cellOf HI.out.1 1
            have x2 := cellOf HI.out.1 2
            have x3 := cellOf HI.out.1 3
            simp only [List.getElem?_toArray, List.getElem?_cons_zero, List.getElem?_cons_succ] at x0 x1 x2 x3
            have f3 := freeOf HI.out.1 3
            have HI2 := Lib.hid (HI.out.setB (by omega) (Nat.le_refl _) 1).2
            go_upto_region 28 with (fail)
            generalize hw9 : w8.setCell ⟨w.heap.size, 3, none⟩ (.int .i64 1) = w9 at *
            clear hw9 x0 x1 x2 x3 f3
            have x0 := cellOf HI2.out.1 0
            have x1 := cellOf HI2.out.1 1
            have x2 := cellOf HI2.out.1 2
            have x3 := cellOf HI2.out.1 3
            simp only [List.getElem?_toArray, List.getElem?_cons_zero, List.getElem?_cons_succ] at x0 x1 x2 x3
            have r0 := cellOf HI2.out.2.1 0
            have r1 := cellOf HI2.out.2.1 1
            have r2 := cellOf HI2.out.2.1 2
            have r3 := cellOf HI2.out.2.1 3
            have f0 := freeOf HI2.out.2.1 0
            have f1 := freeOf HI2.out.2.1 1
            have f2 := freeOf HI2.out.2.1 2
            have f3 := freeOf HI2.out.2.1 3
            simp only [List.getElem?_toArray, List.getElem?_cons_zero, List.getElem?_cons_succ] at r0 r1 r2 r3
            go_wp2
            rw [HST2.out]
            refine bodyPost_ret (v := .tuple #[.agg #[.int .i64 P, .slice (some ⟨gcc, occ, none⟩) n ccc, .slice (some ⟨ggg, ogg, none⟩) n cgg, .int .i64 1], .slice (some ⟨G, O2, none⟩) n C2, .int .i64 0]) (by simp [results, Try.results16, go_sem, r0, r1, r2, r3]) rfl ⟨_, _, _, rfl, ?_⟩
            obtain ⟨k1, k2, k3, k4, k5⟩ := ba_stored HI2.out.2.1 (.int .i64 P) (.slice (some ⟨gcc, occ, none⟩) n ccc) (.slice (some ⟨ggg, ogg, none⟩) n cgg) (.int .i64 1)
            obtain ⟨q1, q2, q3, q4, q5, q6, q7⟩ := HI2.out
            obtain ⟨acs, ahs, a1', a2', a3'⟩ := q5
            refine ⟨⟨?_, ?_⟩, ⟨acs, ahs, ?_, a2', ?_⟩, ?_⟩
            · show Row _ _ _ 1 _ (stepM b l P).1.length _
              rw [HLEN.out.1]; exact (k2 q3 (by decide)).mono (by omega)
            · show Row _ _ _ 1 _ (stepM b l P).2.length _
              rw [HLEN.out.2.1]; exact (k2 q4 (by decide)).mono (by omega)
            · exact (k2 a1' (by decide)).mono (by omega)
            · exact (k3 a3').mono (by omega)
            · exact k4 (by omega) q7
          | false =>
            have HST2 := Lib.hid (show stepB b l P = { at_ := turnAt (stepM b l P).2 n P, cut := (stepM b l P).1, good := (stepM b l P).2, state := 0 } from by rw [stepB, if_neg (by rw [hall]; decide), HN.out])
            have HALL := Lib.hid hall
            obtain ⟨hd1', hd2', hd3'⟩ := turn_spec HLEN.out.2.1 hPn hall
            generalize hdt : turnBy (stepM b l P).2 n P = d at *
            have HDT := Lib.hid hdt
            have HD2 := Lib.hid hd2'
            have HD3 := Lib.hid hd3'
            clear hall hd2' hd3' hdt
            go_wp2_with fail
            refine (HCON.out _ (by repeat (first | refine Ext.st ?_ (by first | exact Nat.le_refl _ | exact Nat.le_succ _ | assumption | omega) _ | refine Ext.al ?_ _ | refine Ext.dr ?_ | refine Ext.drN ?_ _ | exact Ext.rf _))).mono ?_
            rw [HALL.out]
            rintro e w8 ⟨rfl, hD⟩
            have HI := Lib.hid (HI.out.ext hD.ext)
            clear hD x0 x1 x2 x3
            have hnz : (0 : Int) < (n : Int) := by omega
            go_wp2
            go_loopg [156] d (fun g _ wr => ∃ j : Nat, j ≤ d ∧ d - j ≤ g ∧ Aside (StI w wr w.heap.size w1.heap.size w2.heap.size n (.slice (some ⟨gcc, occ, none⟩) n ccc) (.slice (some ⟨ggg, ogg, none⟩) n cgg) (.slice (some ⟨G, O2, none⟩) n C2) (.slice (some ⟨gsv, osv, none⟩) n csv) (((P + j) % n : Nat) : Int) 0 (stepM b l P).1 (stepM b l P).2 (takeAg l P) x))
            case atStart => exact ⟨0, Nat.zero_le _, by omega, (show StI _ _ _ _ _ _ _ _ _ _ _ _ _ _ _ _ from by rw [Nat.add_zero, Nat.mod_eq_of_lt hPn]; exact HI.out)⟩
            case round =>
              obtain ⟨j, hj, hg, HI⟩ := hrel
              have hAn : (P + j) % n < n := Nat.mod_lt _ (by omega)
              have HAJ := Lib.hid (turn_next P j n)
              generalize hA : (P + j) % n = A at *
              have HA := Lib.hid hA
              clear hA
              have hAz : (0 : Int) ≤ (A : Int) := by omega
              have hAi : (A : Int) < (n : Int) := by omega
              have x0 := cellOf HI.out.1 0
              have x1 := cellOf HI.out.1 1
              have x2 := cellOf HI.out.1 2
              have x3 := cellOf HI.out.1 3
              simp only [List.getElem?_toArray, List.getElem?_cons_zero, List.getElem?_cons_succ] at x0 x1 x2 x3
              have hgx := rowBool_at HI.out.2.2.2.1 hAn
              by_cases hjd : j < d
              · have h3 := HD3.out j hjd
                rw [HA.out] at h3
                rw [h3] at hgx
                clear h3
                have f0 := freeOf HI.out.1 0
                go_wp2
                go_roundg (d - (j + 1))
                case measure => omega
                case rel =>
                  refine ⟨j + 1, by omega, by omega, (show StI _ _ _ _ _ _ _ _ _ _ _ _ _ _ _ _ from ?_)⟩
                  rw [← HAJ.out, Int.natCast_emod, Int.natCast_add]
                  exact (HI.out.setB (by omega) (Nat.le_refl _) _).1
              · obtain rfl : j = d := by omega
                have h3 := HD2.out
                rw [HA.out] at h3
                rw [h3] at hgx
                clear h3
                have hturn : turnAt (stepM b l P).2 n P = A := by rw [turnAt, HDT.out, HA.out]
                rw [hturn] at HST2
                clear hturn
                go_upto_region 31 with (fail)
                clear x0 x1 x2 x3 hgx
                have x0 := cellOf HI.out.1 0
                have x1 := cellOf HI.out.1 1
                have x2 := cellOf HI.out.1 2
                have x3 := cellOf HI.out.1 3
                simp only [List.getElem?_toArray, List.getElem?_cons_zero, List.getElem?_cons_succ] at x0 x1 x2 x3
                have r0 := cellOf HI.out.2.1 0
                have r1 := cellOf HI.out.2.1 1
                have r2 := cellOf HI.out.2.1 2
                have r3 := cellOf HI.out.2.1 3
                have f0 := freeOf HI.out.2.1 0
                have f1 := freeOf HI.out.2.1 1
                have f2 := freeOf HI.out.2.1 2
                have f3 := freeOf HI.out.2.1 3
                simp only [List.getElem?_toArray, List.getElem?_cons_zero, List.getElem?_cons_succ] at r0 r1 r2 r3
                go_wp2
                rw [HST2.out]
                refine bodyPost_ret (v := .tuple #[.agg #[.int .i64 A, .slice (some ⟨gcc, occ, none⟩) n ccc, .slice (some ⟨ggg, ogg, none⟩) n cgg, .int .i64 0], .slice (some ⟨G, O2, none⟩) n C2, .int .i64 0]) (by simp [results, Try.results16, go_sem, r0, r1, r2, r3]) rfl ⟨_, _, _, rfl, ?_⟩
                obtain ⟨k1, k2, k3, k4, k5⟩ := ba_stored HI.out.2.1 (.int .i64 A) (.slice (some ⟨gcc, occ, none⟩) n ccc) (.slice (some ⟨ggg, ogg, none⟩) n cgg) (.int .i64 0)
                obtain ⟨q1, q2, q3, q4, q5, q6, q7⟩ := HI.out
                obtain ⟨acs, ahs, a1', a2', a3'⟩ := q5
                refine ⟨⟨?_, ?_⟩, ⟨acs, ahs, ?_, a2', ?_⟩, ?_⟩
                · show Row _ _ _ 1 _ (stepM b l P).1.length _
                  rw [HLEN.out.1]; exact (k2 q3 (by decide)).mono (by omega)
                · show Row _ _ _ 1 _ (stepM b l P).2.length _
                  rw [HLEN.out.2.1]; exact (k2 q4 (by decide)).mono (by omega)
                · exact (k2 a1' (by decide)).mono (by omega)
                · exact (k3 a3').mono (by omega)
                · exact k4 (by omega) q7

end Go.Proofs.Ytpjnppkhhbnfoaa
