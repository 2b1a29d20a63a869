import Derived.Test.YtfagfooggcinoaaGreatJa
import Derived.Test.YtfagfooggcinoaaGreatProg
import Derived.Test.YtfagfooggcinoaaGreatGu
import Derived.Test.YtfagfooggcinoaaGreatGh
import Derived.Test.YtfagfooggcinoaaGreatGn
import Derived.BigQuiet
import Derived.Deep.QuietTactic
import Derived.Deep.LoopGhost
import Derived.Shelf.Abstract
namespace Go.Proofs.YtfagfooggcinoaaGreat
open Go.RowKit
set_option linter.unusedVariables false
section
variable {w W : World} {K K' : Nat} {z0 z1 z2 z3 z4 : Value}
theorem st5_set {T : TypeId} (h : w.heap[K]? = some (.cells #[z0, z1, z2, z3, z4] T)) (a b c d e : Value) :
  (((((w.setCell ⟨K, 0, none⟩ a).setCell ⟨K, 1, none⟩ b).setCell ⟨K, 2, none⟩ c).setCell ⟨K, 3, none⟩ d).setCell ⟨K, 4, none⟩ e).heap[K]? = some (.cells #[a, b, c, d, e] T) := by
 have h0 : (w.setCell ⟨K, 0, none⟩ a).heap[K]? = some (.cells #[a, z1, z2, z3, z4] T) := by rw [heap_setCell_same h]; simp
 have h1 : ((w.setCell ⟨K, 0, none⟩ a).setCell ⟨K, 1, none⟩ b).heap[K]? = some (.cells #[a, b, z2, z3, z4] T) := by rw [heap_setCell_same h0]; simp
 have h2 : (((w.setCell ⟨K, 0, none⟩ a).setCell ⟨K, 1, none⟩ b).setCell ⟨K, 2, none⟩ c).heap[K]? = some (.cells #[a, b, c, z3, z4] T) := by rw [heap_setCell_same h1]; simp
 have h3 : ((((w.setCell ⟨K, 0, none⟩ a).setCell ⟨K, 1, none⟩ b).setCell ⟨K, 2, none⟩ c).setCell ⟨K, 3, none⟩ d).heap[K]? = some (.cells #[a, b, c, d, z4] T) := by rw [heap_setCell_same h2]; simp
 rw [heap_setCell_same h3]; simp
theorem st5_other (h : K' ≠ K) (a b c d e : Value) :
  (((((w.setCell ⟨K, 0, none⟩ a).setCell ⟨K, 1, none⟩ b).setCell ⟨K, 2, none⟩ c).setCell ⟨K, 3, none⟩ d).setCell ⟨K, 4, none⟩ e).heap[K']? = w.heap[K']? := by
 rw [Below.heap_setCell _ _ _ _ h, Below.heap_setCell _ _ _ _ h, Below.heap_setCell _ _ _ _ h, Below.heap_setCell _ _ _ _ h, Below.heap_setCell _ _ _ _ h]
theorem st5_ext (h : Ext w W) (hK : w.heap.size ≤ K) (a b c d e : Value) : Ext w (((((W.setCell ⟨K, 0, none⟩ a).setCell ⟨K, 1, none⟩ b).setCell ⟨K, 2, none⟩ c).setCell ⟨K, 3, none⟩ d).setCell ⟨K, 4, none⟩ e) :=
 ((((h.st (p := ⟨K, 0, none⟩) hK a).st (p := ⟨K, 1, none⟩) hK b).st (p := ⟨K, 2, none⟩) hK c).st (p := ⟨K, 3, none⟩) hK d).st (p := ⟨K, 4, none⟩) hK e
theorem st1_own {base n k o : Nat} {v : Value} {l : List Mk} {vc vh : Nat → Value} {vr : Nat → Nat → Value} {cs : Array Value} (h : w.heap[K]? = some (.cells cs 96)) (a : Value) (hO : OwnM w base v n k l vc vh vr) :
  OwnM (w.setCell ⟨K, o, none⟩ a) base v n k l vc vh vr ∧ ∃ cs', (w.setCell ⟨K, o, none⟩ a).heap[K]? = some (.cells cs' 96) :=
 ⟨hO.stO h (by decide) (by decide) (by decide) (by decide) a, _, heap_setCell_same h⟩
theorem st5_own {base n k : Nat} {v : Value} {l : List Mk} {vc vh : Nat → Value} {vr : Nat → Nat → Value} {cs : Array Value} (h : w.heap[K]? = some (.cells cs 96)) (hO : OwnM w base v n k l vc vh vr) (a b c d e : Value) :
  OwnM (((((w.setCell ⟨K, 0, none⟩ a).setCell ⟨K, 1, none⟩ b).setCell ⟨K, 2, none⟩ c).setCell ⟨K, 3, none⟩ d).setCell ⟨K, 4, none⟩ e) base v n k l vc vh vr := by
 obtain ⟨h0, _, k0⟩ := st1_own (o := 0) h a hO
 obtain ⟨h1, _, k1⟩ := st1_own (o := 1) k0 b h0
 obtain ⟨h2, _, k2⟩ := st1_own (o := 2) k1 c h1
 obtain ⟨h3, _, k3⟩ := st1_own (o := 3) k2 d h2
 exact (st1_own (o := 4) k3 e h3).1
theorem st_ne {c1 c2 : Array Value} {t1 t2 : TypeId} (h1 : w.heap[K]? = some (.cells c1 t1)) (h2 : w.heap[K']? = some (.cells c2 t2)) (h : t1 ≠ t2) : K ≠ K' := by
 rintro rfl
 rw [h1] at h2
 simp only [Option.some.injEq, Obj.cells.injEq] at h2
 exact h h2.2.1
end
set_option maxHeartbeats 16000000 in
set_option maxRecDepth 100000 in
theorem event_read (c : Code) (hc : Tryz.f61.body.bind (regOf 4) = some c) (w3 : World) (V : RV) (y : Ev) (sb i p n R J ne nb tB tO tC EB EO EC rB rO rC uB uO uC va2 : Nat) (va1 : Option Addr)
  (y0 y3 y5 y6 y7 y8 y9 y10 y11 y12 y13 y14 y15 y16 y17 y18 y19 y20 y21 y22 y23 y24 y25 y26 y27 y28 y29 y30 y31 y32 y33 y34 y35 y36 y37 y38 y39 y40 y41 y42 y43 y44 y45 y46 y47 y48 y49 y50 y51 y52 y53 y54 y55 y56 y57 y58 y59 y60 y61 y62 y63 y64 y65 y66 y67 y68 y69 y70 y71 y72 y73 y74 y75 y76 y77 y78 y79 y80 y81 y82 y83 y84 y85 y86 y87 y88 y89 y90 y91 y92 y93 y94 y95 y96 y97 y98 y99 y100 y101 y102 y103 y104 y105 y106 y107 y108 y109 y110 y111 y112 y113 y114 y115 y116 y117 y118 y119 y120 y121 y122 y123 y124 y125 y126 y127 y128 y129 y130 y131 y132 y133 y134 y135 y136 y137 y138 y139 : Value)
  (c0 : w3.cell? ⟨sb, 0, none⟩ = some (.slice (some ⟨tB, tO, none⟩) n tC)) (c1 : w3.cell? ⟨sb, 1, none⟩ = some (.slice (some ⟨rB, rO, none⟩) R rC)) (m0 : w3.cell? ⟨EB, EO + J * 5, none⟩ = some (.int .i64 y.kind)) (m1 : w3.cell? ⟨EB, EO + J * 5 + 1, none⟩ = some (.int .i64 y.peer))
  (m2 : w3.cell? ⟨EB, EO + J * 5 + 2, none⟩ = some (.int .i64 y.msg)) (m3 : w3.cell? ⟨EB, EO + J * 5 + 3, none⟩ = some (.int .i64 y.time)) (m4 : w3.cell? ⟨EB, EO + J * 5 + 4, none⟩ = some (.slice va1 nb va2)) (e0 : w3.cell? ⟨tB, tO + p * 3 + 2, none⟩ = some (.slice (some ⟨EB, EO, none⟩) ne EC))
  (r0 : w3.cell? ⟨rB, rO + i, none⟩ = some (.slice (some ⟨uB, uO, none⟩) n uC)) (u0 : w3.cell? ⟨uB, uO + p, none⟩ = some (.int .i64 (J : Int))) (hpz : (p : Int) < (n : Int)) (hiR : (i : Int) < (R : Int)) (hJn : (J : Int) < (ne : Int))
  (Q : Act → World → Prop) (hQ : ∀ (bx : Nat) (W : World) (x28 x29 x30 x31 x32 x33 x34 x35 x36 x37 x38 x39 x40 x41 x42 x43 x44 : Value), W.heap[bx]? = some (e5 (.int .i64 y.kind) (.int .i64 y.peer) (.int .i64 y.msg) (.int .i64 y.time) (.slice va1 nb va2)) → Ext w3 W → Q { tmps := #[y0, .int .i64 (i : Int), .pointer (some ⟨sb, 0, none⟩), y3, .int .i64 (p : Int), .pointer (some ⟨bx, 0, none⟩), y6, y7, y8, y9, y10, y11, y12, y13, y14, y15, y16, y17, y18, y19, y20, y21, y22, y23, y24, y25, y26, y27, x28, x29, x30, x31, x32, x33, x34, x35, x36, x37, x38, x39, x40, x41, x42, x43, x44, y45, y46, y47, y48, y49, y50, y51, y52, y53, y54, y55, y56, y57, y58, y59, y60, y61, y62, y63, y64, y65, y66, y67, y68, y69, y70, y71, y72, y73, y74, y75, y76, y77, y78, y79, y80, y81, y82, y83, y84, y85, y86, y87, y88, y89, y90, y91, y92, y93, y94, y95, y96, y97, y98, y99, y100, y101, y102, y103, y104, y105, y106, y107, y108, y109, y110, y111, y112, y113, y114, y115, y116, y117, y118, y119, y120, y121, y122, y123, y124, y125, y126, y127, y128, y129, y130, y131, y132, y133, y134, y135, y136, y137, y138, y139], defers := [] } W) :
  c.wp Tryz.prog (OnlyN Q) { tmps := #[y0, .int .i64 (i : Int), .pointer (some ⟨sb, 0, none⟩), y3, .int .i64 (p : Int), y5, y6, y7, y8, y9, y10, y11, y12, y13, y14, y15, y16, y17, y18, y19, y20, y21, y22, y23, y24, y25, y26, y27, y28, y29, y30, y31, y32, y33, y34, y35, y36, y37, y38, y39, y40, y41, y42, y43, y44, y45, y46, y47, y48, y49, y50, y51, y52, y53, y54, y55, y56, y57, y58, y59, y60, y61, y62, y63, y64, y65, y66, y67, y68, y69, y70, y71, y72, y73, y74, y75, y76, y77, y78, y79, y80, y81, y82, y83, y84, y85, y86, y87, y88, y89, y90, y91, y92, y93, y94, y95, y96, y97, y98, y99, y100, y101, y102, y103, y104, y105, y106, y107, y108, y109, y110, y111, y112, y113, y114, y115, y116, y117, y118, y119, y120, y121, y122, y123, y124, y125, y126, y127, y128, y129, y130, y131, y132, y133, y134, y135, y136, y137, y138, y139], defers := [] } w3 := by
 have HQ := Lib.hid hQ
 clear hQ
 conv at hc => lhs; whnf
 cases hc
 have hpz0 : (0 : Int) ≤ (p : Int) := by omega
 have hiz : (0 : Int) ≤ (i : Int) := by omega
 have hJ0 : (0 : Int) ≤ (J : Int) := by omega
 refine wp_region_tail (fun W => W.cell? ⟨sb, 0, none⟩ = some (.slice (some ⟨tB, tO, none⟩) n tC) ∧ W.cell? ⟨sb, 1, none⟩ = some (.slice (some ⟨rB, rO, none⟩) R rC) ∧ W.cell? ⟨EB, EO + J * 5, none⟩ = some (.int .i64 y.kind) ∧ W.cell? ⟨EB, EO + J * 5 + 1, none⟩ = some (.int .i64 y.peer) ∧ W.cell? ⟨EB, EO + J * 5 + 2, none⟩ = some (.int .i64 y.msg) ∧ W.cell? ⟨EB, EO + J * 5 + 3, none⟩ = some (.int .i64 y.time) ∧ W.cell? ⟨EB, EO + J * 5 + 4, none⟩ = some (.slice va1 nb va2) ∧ W.cell? ⟨tB, tO + p * 3 + 2, none⟩ = some (.slice (some ⟨EB, EO, none⟩) ne EC) ∧ W.cell? ⟨rB, rO + i, none⟩ = some (.slice (some ⟨uB, uO, none⟩) n uC) ∧ W.cell? ⟨uB, uO + p, none⟩ = some (.int .i64 (J : Int))) 18 (by kernel_rfl) ⟨c0, c1, m0, m1, m2, m3, m4, e0, r0, u0⟩ (fun hHeld => ?_)
 have HXD : Hid (Ext w3 w3.drew) := Lib.hid (Ext.rf w3).dr
 generalize w3.drew = wd at *
 refine tkA 0 28 (v := ?_) rfl rfl (by kernel_rfl) (fun _ _ _ h => h) ?_ (by assumption) ?_
 rotate_left
 ·(intro w hSw; (try dsimp only at hSw); go_simp; try (with_reducible rfl))
 try simp only [Act.put]
 try simp only [List.setIfInBounds_toArray]
 try simp only [List.set_cons_zero, List.set_cons_succ]
 refine tkA 1 29 (v := ?_) rfl rfl (by kernel_rfl) (fun _ _ _ h => h) ?_ (by assumption) ?_
 rotate_left
 ·(intro w hSw; (try dsimp only at hSw); go_simp; try (with_reducible rfl))
 try simp only [Act.put]
 try simp only [List.setIfInBounds_toArray]
 try simp only [List.set_cons_zero, List.set_cons_succ]
 refine tkA 2 30 (v := ?_) rfl rfl (by kernel_rfl) (fun _ _ _ h => h) ?_ (by assumption) ?_
 rotate_left
 ·(intro w hSw; (try dsimp only at hSw); go_simp; try (with_reducible rfl))
 try simp only [Act.put]
 try simp only [List.setIfInBounds_toArray]
 try simp only [List.set_cons_zero, List.set_cons_succ]
 refine tkA 3 31 (v := ?_) rfl rfl (by kernel_rfl) (fun _ _ _ h => h) ?_ (by assumption) ?_
 rotate_left
 ·(intro w hSw; (try dsimp only at hSw); go_simp; try (with_reducible rfl))
 try simp only [Act.put]
 try simp only [List.setIfInBounds_toArray]
 try simp only [List.set_cons_zero, List.set_cons_succ]
 refine tkA 4 32 (v := ?_) rfl rfl (by kernel_rfl) (fun _ _ _ h => h) ?_ (by assumption) ?_
 rotate_left
 ·(intro w hSw; (try dsimp only at hSw); go_simp; try (with_reducible rfl))
 try simp only [Act.put]
 try simp only [List.setIfInBounds_toArray]
 try simp only [List.set_cons_zero, List.set_cons_succ]
 refine tkA 5 33 (v := ?_) rfl rfl (by kernel_rfl) (fun _ _ _ h => h) ?_ (by assumption) ?_
 rotate_left
 ·(intro w hSw; (try dsimp only at hSw); go_simp; try (with_reducible rfl))
 try simp only [Act.put]
 try simp only [List.setIfInBounds_toArray]
 try simp only [List.set_cons_zero, List.set_cons_succ]
 refine tkA 6 34 (v := ?_) rfl rfl (by kernel_rfl) (fun _ _ _ h => h) ?_ (by assumption) ?_
 rotate_left
 ·(intro w hSw; (try dsimp only at hSw); go_simp; try (with_reducible rfl))
 try simp only [Act.put]
 try simp only [List.setIfInBounds_toArray]
 try simp only [List.set_cons_zero, List.set_cons_succ]
 refine tkA 7 35 (v := ?_) rfl rfl (by kernel_rfl) (fun _ _ _ h => h) ?_ (by assumption) ?_
 rotate_left
 ·(intro w hSw; (try dsimp only at hSw); go_simp; try (with_reducible rfl))
 try simp only [Act.put]
 try simp only [List.setIfInBounds_toArray]
 try simp only [List.set_cons_zero, List.set_cons_succ]
 refine tkA 8 36 (v := ?_) rfl rfl (by kernel_rfl) (fun _ _ _ h => h) ?_ (by assumption) ?_
 rotate_left
 ·(intro w hSw; (try dsimp only at hSw); go_simp; try (with_reducible rfl))
 try simp only [Act.put]
 try simp only [List.setIfInBounds_toArray]
 try simp only [List.set_cons_zero, List.set_cons_succ]
 refine tkA 9 37 (v := ?_) rfl rfl (by kernel_rfl) (fun _ _ _ h => h) ?_ (by assumption) ?_
 rotate_left
 ·(intro w hSw; (try dsimp only at hSw); go_simp; try (with_reducible rfl))
 try simp only [Act.put]
 try simp only [List.setIfInBounds_toArray]
 try simp only [List.set_cons_zero, List.set_cons_succ]
 refine tkA 10 38 (v := ?_) rfl rfl (by kernel_rfl) (fun _ _ _ h => h) ?_ (by assumption) ?_
 rotate_left
 ·(intro w hSw; (try dsimp only at hSw); go_simp; try (with_reducible rfl))
 try simp only [Act.put]
 try simp only [List.setIfInBounds_toArray]
 try simp only [List.set_cons_zero, List.set_cons_succ]
 refine tkA 11 39 (v := ?_) rfl rfl (by kernel_rfl) (fun _ _ _ h => h) ?_ (by assumption) ?_
 rotate_left
 ·(intro w hSw; (try dsimp only at hSw); go_simp; try (with_reducible rfl))
 try simp only [Act.put]
 try simp only [List.setIfInBounds_toArray]
 try simp only [List.set_cons_zero, List.set_cons_succ]
 refine tkA 12 40 (v := ?_) rfl rfl (by kernel_rfl) (fun _ _ _ h => h) ?_ (by assumption) ?_
 rotate_left
 ·(intro w hSw; (try dsimp only at hSw); go_simp; try (with_reducible rfl))
 try simp only [Act.put]
 try simp only [List.setIfInBounds_toArray]
 try simp only [List.set_cons_zero, List.set_cons_succ]
 refine tkA 13 41 (v := ?_) rfl rfl (by kernel_rfl) (fun _ _ _ h => h) ?_ (by assumption) ?_
 rotate_left
 ·(intro w hSw; (try dsimp only at hSw); go_simp; try (with_reducible rfl))
 try simp only [Act.put]
 try simp only [List.setIfInBounds_toArray]
 try simp only [List.set_cons_zero, List.set_cons_succ]
 refine tkA 14 42 (v := ?_) rfl rfl (by kernel_rfl) (fun _ _ _ h => h) ?_ (by assumption) ?_
 rotate_left
 ·(intro w hSw; (try dsimp only at hSw); go_simp; try (with_reducible rfl))
 try simp only [Act.put]
 try simp only [List.setIfInBounds_toArray]
 try simp only [List.set_cons_zero, List.set_cons_succ]
 refine tkA 15 43 (v := ?_) rfl rfl (by kernel_rfl) (fun _ _ _ h => h) ?_ (by assumption) ?_
 rotate_left
 ·(intro w hSw; (try dsimp only at hSw); go_simp; try (with_reducible rfl))
 try simp only [Act.put]
 try simp only [List.setIfInBounds_toArray]
 try simp only [List.set_cons_zero, List.set_cons_succ]
 refine tkA 16 44 (v := ?_) rfl rfl (by kernel_rfl) (fun _ _ _ h => h) ?_ (by assumption) ?_
 rotate_left
 ·(intro w hSw; (try dsimp only at hSw); go_simp; try (with_reducible rfl))
 try simp only [Act.put]
 try simp only [List.setIfInBounds_toArray]
 try simp only [List.set_cons_zero, List.set_cons_succ]
 refine wpAnyT_step (i := 17) (by kernel_rfl) rfl (fun K hK => ?_)
 go_simp
 have HNW : Hid ((wd.alloc (.cells #[.int .i64 0, .int .i64 0, .int .i64 0, .int .i64 0, .slice none 0 0] 69)).heap[wd.heap.size]? = some (.cells #[.int .i64 0, .int .i64 0, .int .i64 0, .int .i64 0, .slice none 0 0] 69)) := Lib.hid (heap_alloc_new wd _)
 have HXW : Hid (Ext w3 (wd.alloc (.cells #[.int .i64 0, .int .i64 0, .int .i64 0, .int .i64 0, .slice none 0 0] 69))) := Lib.hid (HXD.out.al _)
 have HBW : Hid (w3.heap.size ≤ wd.heap.size) := Lib.hid HXD.out.sz
 generalize wd.heap.size = bx at *
 generalize wd.alloc (.cells #[.int .i64 0, .int .i64 0, .int .i64 0, .int .i64 0, .slice none 0 0] 69) = wA at *
 refine hK.out _ _ ?_ (fun hHeld => ?_)
 ·(try dsimp only)
  exact ⟨HXW.out.cl c0, HXW.out.cl c1, HXW.out.cl m0, HXW.out.cl m1, HXW.out.cl m2, HXW.out.cl m3, HXW.out.cl m4, HXW.out.cl e0, HXW.out.cl r0, HXW.out.cl u0⟩
 clear hK K
 try simp only [Act.put]
 try simp only [List.setIfInBounds_toArray]
 try simp only [List.set_cons_zero, List.set_cons_succ]
 have q0 := cellOf HNW.out 0
 have q1 := cellOf HNW.out 1
 have q2 := cellOf HNW.out 2
 have q3 := cellOf HNW.out 3
 have q4 := cellOf HNW.out 4
 have g0 := freeOf HNW.out 0
 have g1 := freeOf HNW.out 1
 have g2 := freeOf HNW.out 2
 have g3 := freeOf HNW.out 3
 have g4 := freeOf HNW.out 4
 simp only [List.getElem?_toArray, List.getElem?_cons_zero, List.getElem?_cons_succ] at q0 q1 q2 q3 q4
 refine wpAnyT_last (by kernel_rfl) rfl (by kernel_rfl) (fun K hK => ?_)
 go_simp
 refine hK.out _ _ ?_
 exact HQ.out bx _ _ _ _ _ _ _ _ _ _ _ _ _ _ _ _ _ _ (st5_set HNW.out _ _ _ _ _) (st5_ext HXW.out HBW.out _ _ _ _ _)
end Go.Proofs.YtfagfooggcinoaaGreat
namespace Go.Proofs.YtfagfooggcinoaaGreat
open Go.RowKit
set_option linter.unusedVariables false
set_option maxHeartbeats 16000000 in
set_option maxRecDepth 100000 in
theorem event_note (c : Code) (hc : Tryz.f61.body.bind (regOf 13) = some c) (w0 wf : World) (V : RV) (RA : Sn) (vr2 : Nat → Nat → Value) (sb bx p f b : Nat) (xm : Int) (em : Array Value)
  (y0 y1 y3 y7 y8 y9 y10 y11 y12 y13 y14 y15 y16 y17 y18 y19 y20 y21 y22 y23 y24 y25 y26 y27 y28 y29 y30 y31 y32 y33 y34 y35 y36 y37 y38 y39 y40 y41 y42 y43 y44 y45 y46 y47 y48 y49 y50 y51 y52 y53 y54 y55 y56 y57 y58 y59 y60 y61 y62 y63 y64 y65 y66 y67 y68 y69 y70 y71 y72 y73 y74 y75 y76 y77 y78 y79 y80 y81 y82 y83 y84 y85 y86 y87 y88 y89 y90 y91 y92 y93 y94 y95 y96 y97 y98 y99 y100 y101 y102 y103 y104 y105 y106 y107 y108 y109 y110 y111 y112 y113 y114 y115 y116 y117 y118 y119 y120 y121 y122 y123 y124 y125 y126 y127 y128 y129 y130 y131 y132 y133 y134 y135 y136 y137 y138 y139 : Value)
  (HR : Hid (RefAt w0 wf V RA vr2)) (hpn : p < V.n) (hfn : f < V.n) (hlen0 : (RA.l[p]!.chan[f]!).length ≤ b) (hb : b ≤ 1000000) (HBF : Hid (wf.heap[sb]? = some (.cells #[V.tv, V.rv, V.lv, V.av, .int .i64 V.d] 96)))
  (HYF : Hid (wf.heap[bx]? = some (.cells em 69))) (hy2 : wf.cell? ⟨bx, 2, none⟩ = some (.int .i64 xm)) :
  c.wp Tryz.prog (OnlyN fun a W => a.defers = [] ∧ KeepT wf W ∧ RefE w0 W V ⟨noteL RA.l p f xm, RA.at_⟩) { tmps := #[y0, y1, .pointer (some ⟨sb, 0, none⟩), y3, .int .i64 (p : Int), .pointer (some ⟨bx, 0, none⟩), .int .i64 (f : Int), y7, y8, y9, y10, y11, y12, y13, y14, y15, y16, y17, y18, y19, y20, y21, y22, y23, y24, y25, y26, y27, y28, y29, y30, y31, y32, y33, y34, y35, y36, y37, y38, y39, y40, y41, y42, y43, y44, y45, y46, y47, y48, y49, y50, y51, y52, y53, y54, y55, y56, y57, y58, y59, y60, y61, y62, y63, y64, y65, y66, y67, y68, y69, y70, y71, y72, y73, y74, y75, y76, y77, y78, y79, y80, y81, y82, y83, y84, y85, y86, y87, y88, y89, y90, y91, y92, y93, y94, y95, y96, y97, y98, y99, y100, y101, y102, y103, y104, y105, y106, y107, y108, y109, y110, y111, y112, y113, y114, y115, y116, y117, y118, y119, y120, y121, y122, y123, y124, y125, y126, y127, y128, y129, y130, y131, y132, y133, y134, y135, y136, y137, y138, y139], defers := [] } wf := by
 conv at hc => lhs; whnf
 cases hc
 have hR := HR.out
 obtain ⟨_, _, m2, _⟩ := hR.mks.cellsAt (i := p) (by rw [hR.ll]; exact hpn)
 obtain ⟨hgb, ho, hk, hvh, _, _, _, e0, hfr⟩ := hR.mks.hdrAt (i := p) (j := f) hpn hfn
 rw [hvh] at m2
 have HVH := Lib.hid hvh
 have HRW := Lib.hid (hR.mks.cha p hpn f hfn)
 obtain ⟨ra2, rc2, hrv2, _⟩ := HRW.out.any
 have HRV2 := Lib.hid hrv2
 rw [hrv2] at e0
 have b2 := cellOf HBF.out 2
 simp only [List.getElem?_toArray, List.getElem?_cons_zero, List.getElem?_cons_succ] at b2
 have yy2 := hy2
 obtain ⟨L, hL⟩ : ∃ L, (RA.l[p]!.chan[f]!).length = L := ⟨_, rfl⟩
 have HLL := Lib.hid hL
 rw [hL] at e0 hlen0 HRV2
 have hlen := hlen0
 have hpz : (p : Int) < (V.n : Int) := by omega
 have hpz0 : (0 : Int) ≤ (p : Int) := by omega
 have hfz : (f : Int) < (V.n : Int) := by omega
 have hfz0 : (0 : Int) ≤ (f : Int) := by omega
 obtain ⟨ii, hii, iz0, iz1, iz2⟩ := info_partsM info_intG
 clear hvh hrv2 hL hfr hR hlen0 hy2
 refine wp_region_tail (fun W => W.cell? ⟨sb, 2, none⟩ = some V.lv ∧ W.cell? ⟨V.g, V.o + p * 3 + 2, none⟩ = some (.slice (some ⟨hgb, ho, none⟩) V.n hk) ∧ W.cell? ⟨hgb, ho + f, none⟩ = some (.slice ra2 L rc2) ∧ W.cell? ⟨bx, 2, none⟩ = some (.int .i64 xm)) 21 (by kernel_rfl) ⟨b2, m2, e0, yy2⟩ (fun hHeld => ?_)
 refine tkA 0 119 (v := ?_) rfl rfl (by kernel_rfl) (fun _ _ _ h => h) ?_ (by assumption) ?_
 rotate_left
 ·(intro w hSw; (try dsimp only at hSw); go_simp; try (with_reducible rfl))
 try simp only [Act.put]
 try simp only [List.setIfInBounds_toArray]
 try simp only [List.set_cons_zero, List.set_cons_succ]
 refine tkA 1 120 (v := ?_) rfl rfl (by kernel_rfl) (fun _ _ _ h => h) ?_ (by assumption) ?_
 rotate_left
 ·(intro w hSw; (try dsimp only at hSw); go_simp; try (with_reducible rfl))
 try simp only [Act.put]
 try simp only [List.setIfInBounds_toArray]
 try simp only [List.set_cons_zero, List.set_cons_succ]
 refine tkA 2 121 (v := ?_) rfl rfl (by kernel_rfl) (fun _ _ _ h => h) ?_ (by assumption) ?_
 rotate_left
 ·(intro w hSw; (try dsimp only at hSw); go_simp; try (with_reducible rfl))
 try simp only [Act.put]
 try simp only [List.setIfInBounds_toArray]
 try simp only [List.set_cons_zero, List.set_cons_succ]
 refine tkA 3 122 (v := ?_) rfl rfl (by kernel_rfl) (fun _ _ _ h => h) ?_ (by assumption) ?_
 rotate_left
 ·(intro w hSw; (try dsimp only at hSw); go_simp; try (with_reducible rfl))
 try simp only [Act.put]
 try simp only [List.setIfInBounds_toArray]
 try simp only [List.set_cons_zero, List.set_cons_succ]
 refine tkA 4 123 (v := ?_) rfl rfl (by kernel_rfl) (fun _ _ _ h => h) ?_ (by assumption) ?_
 rotate_left
 ·(intro w hSw; (try dsimp only at hSw); go_simp; try (with_reducible rfl))
 try simp only [Act.put]
 try simp only [List.setIfInBounds_toArray]
 try simp only [List.set_cons_zero, List.set_cons_succ]
 refine tkA 5 124 (v := ?_) rfl rfl (by kernel_rfl) (fun _ _ _ h => h) ?_ (by assumption) ?_
 rotate_left
 ·(intro w hSw; (try dsimp only at hSw); go_simp; try (with_reducible rfl))
 try simp only [Act.put]
 try simp only [List.setIfInBounds_toArray]
 try simp only [List.set_cons_zero, List.set_cons_succ]
 refine tkA 6 125 (v := ?_) rfl rfl (by kernel_rfl) (fun _ _ _ h => h) ?_ (by assumption) ?_
 rotate_left
 ·(intro w hSw; (try dsimp only at hSw); go_simp; try (with_reducible rfl))
 try simp only [Act.put]
 try simp only [List.setIfInBounds_toArray]
 try simp only [List.set_cons_zero, List.set_cons_succ]
 refine tkA 7 126 (v := ?_) rfl rfl (by kernel_rfl) (fun _ _ _ h => h) ?_ (by assumption) ?_
 rotate_left
 ·(intro w hSw; (try dsimp only at hSw); go_simp; try (with_reducible rfl))
 try simp only [Act.put]
 try simp only [List.setIfInBounds_toArray]
 try simp only [List.set_cons_zero, List.set_cons_succ]
 refine tkA 8 127 (v := ?_) rfl rfl (by kernel_rfl) (fun _ _ _ h => h) ?_ (by assumption) ?_
 rotate_left
 ·(intro w hSw; (try dsimp only at hSw); go_simp; try (with_reducible rfl))
 try simp only [Act.put]
 try simp only [List.setIfInBounds_toArray]
 try simp only [List.set_cons_zero, List.set_cons_succ]
 refine tkA 9 128 (v := ?_) rfl rfl (by kernel_rfl) (fun _ _ _ h => h) ?_ (by assumption) ?_
 rotate_left
 ·(intro w hSw; (try dsimp only at hSw); go_simp; try (with_reducible rfl))
 try simp only [Act.put]
 try simp only [List.setIfInBounds_toArray]
 try simp only [List.set_cons_zero, List.set_cons_succ]
 refine tkA 10 129 (v := ?_) rfl rfl (by kernel_rfl) (fun _ _ _ h => h) ?_ (by assumption) ?_
 rotate_left
 ·(intro w hSw; (try dsimp only at hSw); go_simp; try (with_reducible rfl))
 try simp only [Act.put]
 try simp only [List.setIfInBounds_toArray]
 try simp only [List.set_cons_zero, List.set_cons_succ]
 refine tkA 11 130 (v := ?_) rfl rfl (by kernel_rfl) (fun _ _ _ h => h) ?_ (by assumption) ?_
 rotate_left
 ·(intro w hSw; (try dsimp only at hSw); go_simp; try (with_reducible rfl))
 try simp only [Act.put]
 try simp only [List.setIfInBounds_toArray]
 try simp only [List.set_cons_zero, List.set_cons_succ]
 refine tkA 12 131 (v := ?_) rfl rfl (by kernel_rfl) (fun _ _ _ h => h) ?_ (by assumption) ?_
 rotate_left
 ·(intro w hSw; (try dsimp only at hSw); go_simp; try (with_reducible rfl))
 try simp only [Act.put]
 try simp only [List.setIfInBounds_toArray]
 try simp only [List.set_cons_zero, List.set_cons_succ]
 refine tkA 13 132 (v := ?_) rfl rfl (by kernel_rfl) (fun _ _ _ h => h) ?_ (by assumption) ?_
 rotate_left
 ·(intro w hSw; (try dsimp only at hSw); go_simp; try (with_reducible rfl))
 try simp only [Act.put]
 try simp only [List.setIfInBounds_toArray]
 try simp only [List.set_cons_zero, List.set_cons_succ]
 refine tkA 14 133 (v := ?_) rfl rfl (by kernel_rfl) (fun _ _ _ h => h) ?_ (by assumption) ?_
 rotate_left
 ·(intro w hSw; (try dsimp only at hSw); go_simp; try (with_reducible rfl))
 try simp only [Act.put]
 try simp only [List.setIfInBounds_toArray]
 try simp only [List.set_cons_zero, List.set_cons_succ]
 refine tkA 15 134 (v := ?_) rfl rfl (by kernel_rfl) (fun _ _ _ h => h) ?_ (by assumption) ?_
 rotate_left
 ·(intro w hSw; (try dsimp only at hSw); go_simp; try (with_reducible rfl))
 try simp only [Act.put]
 try simp only [List.setIfInBounds_toArray]
 try simp only [List.set_cons_zero, List.set_cons_succ]
 refine tkA 16 135 (v := ?_) rfl rfl (by kernel_rfl) (fun _ _ _ h => h) ?_ (by assumption) ?_
 rotate_left
 ·(intro w hSw; (try dsimp only at hSw); go_simp; try (with_reducible rfl))
 try simp only [Act.put]
 try simp only [List.setIfInBounds_toArray]
 try simp only [List.set_cons_zero, List.set_cons_succ]
 refine tkA 17 136 (v := ?_) rfl rfl (by kernel_rfl) (fun _ _ _ h => h) ?_ (by assumption) ?_
 rotate_left
 ·(intro w hSw; (try dsimp only at hSw); go_simp; try (with_reducible rfl))
 try simp only [Act.put]
 try simp only [List.setIfInBounds_toArray]
 try simp only [List.set_cons_zero, List.set_cons_succ]
 refine wpAnyT_step (i := 18) (by kernel_rfl) rfl (fun K hK => ?_)
 go_simp
 have HXA : Hid (Ext wf (wf.alloc (.cells #[.int .i64 xm] 3)).drew) := Lib.hid ((Ext.rf wf).al _).dr
 have HNW : Hid ((wf.alloc (.cells #[.int .i64 xm] 3)).drew.heap[wf.heap.size]? = some (.cells #[.int .i64 xm] 3)) := Lib.hid (heap_alloc_new wf _)
 generalize (wf.alloc (.cells #[.int .i64 xm] 3)).drew = wA at *
 have HRA := Lib.hid (HR.out.grow HXA.out)
 have HRA2 : Hid (Row wA w0.heap.size 3 1 (.slice ra2 L rc2) L ((RA.l[p]!.chan[f]!).map (Value.int .i64))) := Lib.hid (by
  have h := HRW.out.ext HXA.out
  rw [HRV2.out, HLL.out] at h; exact h)
 have HBA := Lib.hid (HXA.out.hp HBF.out)
 have HYA := Lib.hid (HXA.out.hp HYF.out)
 refine hK.out _ _ ?_ (fun hHeld => ?_)
 ·(try dsimp only)
  exact ⟨HXA.out.cl b2, HXA.out.cl m2, HXA.out.cl e0, HXA.out.cl yy2⟩
 clear hK K
 try simp only [Act.put]
 try simp only [List.setIfInBounds_toArray]
 try simp only [List.set_cons_zero, List.set_cons_succ]
 refine wpAnyT_step (i := 19) (by kernel_rfl) rfl (fun K hK => ?_)
 refine step_append_rowN rfl _ _ 39 rfl w0.heap.size 3 ii (.int .i64 0) 1 8 Tryz.underlying39 hii iz0 iz1 iz2 rfl (by decide) (.slice ra2 L rc2) L ((RA.l[p]!.chan[f]!).map (Value.int .i64)) rfl HRA2.out wf.heap.size 1 [.int .i64 xm] rfl rfl ⟨_, HNW.out⟩ (by simp [Value.oneCell']) (by unfold maxLen; omega) (by omega) HRA.out.ext.sz ?_
 intro v8 w8 hown8 hgrow8 hblk8
 obtain ⟨x8, y8, rfl, _⟩ := hown8.any
 have HOW := Lib.hid hown8
 have HGR := Lib.hid hgrow8
 have HBL := Lib.hid hblk8
 have hhr := HRA.out.mks.hdr p hpn
 rw [HVH.out] at hhr
 obtain ⟨cuH, frH, hheapH⟩ := row_hp hhr
 obtain ⟨cuM, frM, hheapM⟩ := row_hp HRA.out.mks.row
 have gB := grown_heap HRA2.out hgrow8 HBA.out (by decide)
 have gY := grown_heap HRA2.out hgrow8 HYA.out (by decide)
 have gH := grown_heap HRA2.out hgrow8 hheapH (by decide)
 have gM := grown_heap HRA2.out hgrow8 hheapM (by decide)
 have b8 := (cell_same (o := 2) gB).trans (HXA.out.cl b2)
 have m8 := (cell_same (o := V.o + p * 3 + 2) gM).trans (HXA.out.cl m2)
 have e8 := (cell_same (o := ho + f) gH).trans (HXA.out.cl e0)
 have y8' := (cell_same (o := 2) gY).trans (HXA.out.cl yy2)
 have hfrz : w8.frozen? ⟨hgb, ho + f, none⟩ = false := (hhr.grown hgrow8 (hhr.apart HRA2.out (by decide))).free _
 clear hown8 hgrow8 hblk8 gB gY gH gM hheapH hheapM hhr b2 m2 e0 yy2
 refine hK.out _ _ ?_ (fun hHeld => ?_)
 ·(try dsimp only)
  exact ⟨b8, m8, e8, y8'⟩
 clear hK K
 try simp only [Act.put]
 try simp only [List.setIfInBounds_toArray]
 try simp only [List.set_cons_zero, List.set_cons_succ]
 refine tkA 20 139 (v := ?_) rfl rfl (by kernel_rfl) (fun _ _ _ h => h) ?_ (by assumption) ?_
 rotate_left
 ·(intro w hSw; (try dsimp only at hSw); go_simp; try (with_reducible rfl))
 try simp only [Act.put]
 try simp only [List.setIfInBounds_toArray]
 try simp only [List.set_cons_zero, List.set_cons_succ]
 refine wpAnyT_last (by kernel_rfl) rfl (by kernel_rfl) (fun K hK => ?_)
 go_simp
 refine hK.out _ _ ?_
 have HN := HRA.out.notes hpn hfn HVH.out (x := [xm]) (m := 1) (by rw [HRV2.out]; exact HGR.out) (by rw [HLL.out]; exact HOW.out) rfl (by rw [HRV2.out]; exact HBL.out)
 exact ⟨rfl, (KeepT.of HXA.out).tr HN.2, ⟨_, HN.1⟩⟩
end Go.Proofs.YtfagfooggcinoaaGreat
namespace Go.Proofs.YtfagfooggcinoaaGreat
open Go.RowKit
set_option linter.unusedVariables false
def cndOf (n : Nat) : Code → Option Code
 | .cond (.tmp k) a b => if k = n then some (.cond (.tmp k) a b) else (cndOf n a).or (cndOf n b)
 | .cond _ a b => (cndOf n a).or (cndOf n b)
 | .block _ b => cndOf n b
 | .seq a b => (cndOf n a).or (cndOf n b)
 | .loop b => cndOf n b
 | .scope b => cndOf n b
 | _ => none
set_option maxHeartbeats 16000000 in
set_option maxRecDepth 100000 in
theorem event_fire (c : Code) (hc : Tryz.f61.body.bind (cndOf 84) = some c) (w0 wb : World) (V : RV) (t : Tr) (r : List (List Int)) (A : Sn) (vr : Nat → Nat → Value) (sb i p f b : Nat) (cd : Bool) (si cn : Int) (cl : Bool)
  (y0 y3 y5 y7 y8 y9 y10 y11 y12 y13 y14 y15 y16 y17 y18 y19 y20 y21 y22 y23 y24 y25 y26 y27 y28 y29 y30 y31 y32 y33 y34 y35 y36 y37 y38 y39 y40 y41 y42 y43 y44 y45 y46 y47 y48 y49 y50 y51 y52 y53 y54 y55 y56 y57 y58 y59 y60 y61 y62 y63 y64 y65 y66 y67 y68 y69 y70 y71 y72 y73 y74 y75 y76 y77 y78 y79 y80 y81 y82 y83 y85 y86 y87 y88 y89 y90 y91 y92 y93 y94 y95 y96 y97 y98 y99 y100 y101 y102 y103 y104 y105 y106 y107 y108 y109 y110 y111 y112 y113 y114 y115 y116 y117 y118 y119 y120 y121 y122 y123 y124 y125 y126 y127 y128 y129 y130 y131 y132 y133 y134 y135 y136 y137 y138 y139 : Value)
  (HG : Hid (RefG w0 V t r)) (HR : Hid (RefAt w0 wb V A vr)) (HIA : Hid (InvA t A b)) (HI : Hid (i < r.length)) (hpn : p < V.n) (hfn : f < V.n) (HFQ : Hid (f ≠ p)) (HCC : Hid (A.l[f]!.cnt = cn)) (HCD : Hid ((decide (cn ≠ -1) && (!cl && decide (cn < si))) = cd))
  (HNO : cd = false → rcvA t r V.d A p f i si = A) (HYE : cd = true → rcvA t r V.d A p f i si = aAll' t r V.d i (aArr r A f p i))
  (HB5 : Hid (wb.heap[sb]? = some (.cells #[V.tv, V.rv, V.lv, V.av, .int .i64 V.d] 96))) :
  c.wp Tryz.prog (OnlyN fun a W => (∃ (x85 x86 x87 x88 x89 x90 x91 x92 x93 x94 x95 x96 x97 x98 x99 : Value), a = { tmps := #[y0, .int .i64 (i : Int), .pointer (some ⟨sb, 0, none⟩), y3, .int .i64 (p : Int), y5, .int .i64 (f : Int), y7, y8, y9, y10, y11, y12, y13, y14, y15, y16, y17, y18, y19, y20, y21, y22, y23, y24, y25, y26, y27, y28, y29, y30, y31, y32, y33, y34, y35, y36, y37, y38, y39, y40, y41, y42, y43, y44, y45, y46, y47, y48, y49, y50, y51, y52, y53, y54, y55, y56, y57, y58, y59, y60, y61, y62, y63, y64, y65, y66, y67, y68, y69, y70, y71, y72, y73, y74, y75, y76, y77, y78, y79, y80, y81, y82, y83, .bool cd, x85, x86, x87, x88, x89, x90, x91, x92, x93, x94, x95, x96, x97, x98, x99, y100, y101, y102, y103, y104, y105, y106, y107, y108, y109, y110, y111, y112, y113, y114, y115, y116, y117, y118, y119, y120, y121, y122, y123, y124, y125, y126, y127, y128, y129, y130, y131, y132, y133, y134, y135, y136, y137, y138, y139], defers := [] }) ∧ RefS w0 W V t (rcvA t r V.d A p f i si) b ∧ KeepT wb W) { tmps := #[y0, .int .i64 (i : Int), .pointer (some ⟨sb, 0, none⟩), y3, .int .i64 (p : Int), y5, .int .i64 (f : Int), y7, y8, y9, y10, y11, y12, y13, y14, y15, y16, y17, y18, y19, y20, y21, y22, y23, y24, y25, y26, y27, y28, y29, y30, y31, y32, y33, y34, y35, y36, y37, y38, y39, y40, y41, y42, y43, y44, y45, y46, y47, y48, y49, y50, y51, y52, y53, y54, y55, y56, y57, y58, y59, y60, y61, y62, y63, y64, y65, y66, y67, y68, y69, y70, y71, y72, y73, y74, y75, y76, y77, y78, y79, y80, y81, y82, y83, .bool cd, y85, y86, y87, y88, y89, y90, y91, y92, y93, y94, y95, y96, y97, y98, y99, y100, y101, y102, y103, y104, y105, y106, y107, y108, y109, y110, y111, y112, y113, y114, y115, y116, y117, y118, y119, y120, y121, y122, y123, y124, y125, y126, y127, y128, y129, y130, y131, y132, y133, y134, y135, y136, y137, y138, y139], defers := [] } wb := by
 conv at hc => lhs; whnf
 cases hc
 have HS5 : Hid (RefS w0 wb V t A b) := Lib.hid ⟨⟨vr, HR.out⟩, HIA.out⟩
 have HR2 : Hid (r[i]!.length = V.n) := Lib.hid ((HG.out.run.2 i HI.out).1.trans HG.out.len)
 have hpz : (p : Int) < (V.n : Int) := by omega
 have hpz0 : (0 : Int) ≤ (p : Int) := by omega
 have hfz : (f : Int) < (V.n : Int) := by omega
 have hfz0 : (0 : Int) ≤ (f : Int) := by omega
 cases cd with
 | false =>
   have HRR := Lib.hid (HNO rfl)
   go_wp2
   exact ⟨⟨_, _, _, _, _, _, _, _, _, _, _, _, _, _, _, rfl⟩, (by first | exact HS5.out | (rw [HRR.out]; exact HS5.out)), KeepT.rf _⟩
 | true =>
   have HRR := Lib.hid (HYE rfl)
   have HCN := Lib.hid (show A.l[f]!.cnt ≠ -1 from by rw [HCC.out]; intro e; have h := HCD.out; rw [decide_eq_false (fun h => h e)] at h; cases h)
   have HRC := Lib.hid (recordR50_calls w0 wb V A vr t b r p i HR.out HIA.out HG.out.rn HG.out.len.symm hpn HI.out HR2.out HG.out.few HG.out.run.1)
   have b0 := cellOf HB5.out 0
   have b1 := cellOf HB5.out 1
   have b2 := cellOf HB5.out 2
   have b3 := cellOf HB5.out 3
   have b4 := cellOf HB5.out 4
   simp only [List.getElem?_toArray, List.getElem?_cons_zero, List.getElem?_cons_succ] at b0 b1 b2 b3 b4
   go_wp2_with fail
   refine HRC.out.mono ?_
   rintro e w6 ⟨rfl, hK6, vr6, hR6⟩
   have HR6 := Lib.hid hR6
   have HK6 := Lib.hid hK6
   have HB6 := Lib.hid (hK6.2 _ _ _ _ HB5.out (by decide) (by decide) (by decide) (by decide) (by decide))
   clear b0 b1 b2 b3 b4 hR6 hK6
   have b2 := cellOf HB6.out 2
   simp only [List.getElem?_toArray, List.getElem?_cons_zero, List.getElem?_cons_succ] at b2
   obtain ⟨_, m1, _, _⟩ := HR6.out.mks.cellsAt (i := p) (by rw [HR6.out.ll]; exact hpn)
   obtain ⟨g3, o3, c3, hv3, _, _, _, k1, hf3⟩ := HR6.out.mks.boolAt (i := p) (j := f) hpn hfn
   rw [hv3] at m1
   have f3 := hf3 (o3 + f)
   have HV3 := Lib.hid hv3
   generalize (aRec? r A p i).l[p]!.closed[f]! = z3 at *
   clear hf3 hv3
   have HR7 := Lib.hid (HR6.out.setB hpn hfn HV3.out)
   have HK7 := Lib.hid (HK6.out.tr (HR6.out.keepB hpn HV3.out (o3 + f) (.bool true)))
   have HB7 := Lib.hid ((HR6.out.keepB hpn HV3.out (o3 + f) (.bool true)).2 _ _ _ _ HB6.out (by decide) (by decide) (by decide) (by decide) (by decide))
   go_upto_region 11 with (fail)
   generalize w6.setCell ⟨g3, o3 + f, none⟩ (.bool true) = w7 at *
   clear b2 m1 k1 f3
   have HS7 : Hid (RefS w0 w7 V t (aArr r A f p i) b) := Lib.hid ⟨⟨vr6, HR7.out⟩, HIA.out.arr HG.out.run (by rw [HG.out.len]; exact hfn) (by rw [HG.out.len]; exact hpn) HI.out HCN.out HFQ.out⟩
   have HAL := Lib.hid (arriveR_calls w0 w7 V t r (aArr r A f p i) b i HG.out HS7.out HI.out)
   have b0 := cellOf HB7.out 0
   have b1 := cellOf HB7.out 1
   have b2 := cellOf HB7.out 2
   have b3 := cellOf HB7.out 3
   have b4 := cellOf HB7.out 4
   simp only [List.getElem?_toArray, List.getElem?_cons_zero, List.getElem?_cons_succ] at b0 b1 b2 b3 b4
   go_wp2_with fail
   refine HAL.out.mono ?_
   rintro e w8 ⟨rfl, hK8, hS8⟩
   have HK8 := Lib.hid (HK7.out.tr hK8)
   have HS8 := Lib.hid hS8
   clear b0 b1 b2 b3 b4 hK8 hS8
   go_wp2
   exact ⟨⟨_, _, _, _, _, _, _, _, _, _, _, _, _, _, _, rfl⟩, (by first | exact HS8.out | (rw [HRR.out]; exact HS8.out)), HK8.out⟩
end Go.Proofs.YtfagfooggcinoaaGreat
namespace Go.Proofs.YtfagfooggcinoaaGreat
open Go.RowKit
set_option linter.unusedVariables false
theorem rcvA_no {t : Tr} {r : List (List Int)} {d : Int} {A : Sn} {q f i : Nat} {si : Int} (h : (decide (f ≠ q) && (decide (A.l[f]!.cnt ≠ -1) && (!A.l[q]!.closed[f]! && decide (A.l[f]!.cnt < si)))) = false) : rcvA t r d A q f i si = A := by
 unfold rcvA; rw [if_neg (by rw [h]; simp)]
theorem rcvA_yes {t : Tr} {r : List (List Int)} {d : Int} {A : Sn} {q f i : Nat} {si : Int} (h : (decide (f ≠ q) && (decide (A.l[f]!.cnt ≠ -1) && (!A.l[q]!.closed[f]! && decide (A.l[f]!.cnt < si)))) = true) : rcvA t r d A q f i si = aAll' t r d i (aArr r A f q i) := by
 unfold rcvA; rw [if_pos h]
set_option maxHeartbeats 16000000 in
set_option maxRecDepth 100000 in
theorem eventR_calls (w0 w : World) (V : RV) (t : Tr) (r : List (List Int)) (A : Sn) (b i : Nat) (hg : RefG w0 V t r) (hrb : runB t r = true) (h : RefS w0 w V t A b) (hi : i + 1 < r.length) (hb : b ≤ 1000000) :
  Calls Tryz.prog 61 #[V.st, .int .i64 i] w fun e w' => e = .returned (.tuple #[]) ∧ KeepT w w' ∧ RefS w0 w' V t (aEvent t r V.d A i) (b + 1) := by
 have HG := Lib.hid hg
 have HI1 := Lib.hid hi
 have HI := Lib.hid (show i < r.length by omega)
 have hn2 := hg.few
 have hrl := hg.run.1
 obtain ⟨Q, hQ, hset, hge, hlt2, hsent⟩ := run_step hrb hi
 have hrl2 := (hg.run.2 i HI.out).1
 have hrl3 := (hg.run.2 (i + 1) hi).1
 have HMV := Lib.hid (moves_eq hrl2 hQ hset)
 have hQN : Q < V.n := by have := hg.len; omega
 obtain ⟨J, hJ⟩ : ∃ J : Nat, rAt r i Q = (J : Int) := ⟨(rAt r i Q).toNat, by omega⟩
 have HJ := Lib.hid hJ
 rw [hJ] at hlt2
 have hJE : J < t[Q]!.events.length := by omega
 have HIN : Hid (Inn t (Q, J)) := Lib.hid ⟨hQ, hJE⟩
 have HER := Lib.hid (fun hk => aEvent_recv (t := t) (r := r) (d := V.d) (A := A) (i := i) HMV.out hk)
 have HEO := Lib.hid (fun hk => aEvent_other (t := t) (r := r) (d := V.d) (A := A) (i := i) HMV.out hk)
 rw [hJ, Int.toNat_natCast] at HER HEO
 have HSM := Lib.hid (fun p (hp : p ≠ Q) => run_same hset hp)
 have HMO := Lib.hid (run_more hrl2 hQ hset)
 have HR2 := Lib.hid (hrl2.trans hg.len)
 have HR3 := Lib.hid (hrl3.trans hg.len)
 obtain ⟨tB, tO, tC, vv, ve, hve, hlC, htB, hn0, hv0, he0, hV, hE0⟩ := proc_at hg.tr Q hQ
 obtain ⟨EB, EO, EC, va, hee, hlE, hEB, k0, k1, k2, k3, k4, ha⟩ := event_at hE0 J hJE
 subst hee
 obtain ⟨va1, va2, rfl, _⟩ := ha.sh
 rw [hg.len] at hve
 obtain ⟨ra, rc, hrv, _⟩ := hg.rn.sh
 have HFI := Lib.hid (fun W (hW : Ext w0 W) m => findR_calls V.tv t 2 m W (hg.tr.ext hW) (valid_small hg.val))
 have HVE := Lib.hid hve
 have HS := Lib.hid h
 have HX0 := Lib.hid h.ext
 rw [hve] at HFI
 have HX1 := Lib.hid ((Ext.rf w).al (.cells #[V.tv, V.rv, V.lv, V.av, .int .i64 V.d] 96))
 have HB1 := Lib.hid (heap_alloc_new w (.cells #[V.tv, V.rv, V.lv, V.av, .int .i64 V.d] 96))
 obtain ⟨rB, rO, rC, uB, uO, uC, hre, hrC, hrB, hr0, huC, huB, hu0⟩ := runAt hg.rn (i := i) (p := Q) HI.out (by rw [hrl2]; exact hQ)
 rw [hJ] at hu0
 rw [HR2.out] at hr0 huC
 obtain ⟨R, hR⟩ : ∃ R, r.length = R := ⟨_, rfl⟩
 have HRE := Lib.hid hR
 rw [hR] at hre hrC hrl
 have HRV := Lib.hid hre
 have b0 := cellOf HB1.out 0
 have b1 := cellOf HB1.out 1
 simp only [List.getElem?_toArray, List.getElem?_cons_zero, List.getElem?_cons_succ] at b0 b1
 replace b0 := b0.trans (congrArg some hve)
 replace b1 := b1.trans (congrArg some hre)
 have HEVE : Hid (ev t (Q, J) = t[Q]!.events[J]!) := Lib.hid rfl
 generalize t[Q]!.events[J]! = y at *
 generalize y.asg.length = nb at *
 generalize t[Q]!.events.length = ne at *
 have hiR : (i : Int) < (R : Int) := by rw [← hR]; omega
 have hiR1 : ((i + 1 : Nat) : Int) < (R : Int) := by rw [← hR]; omega
 have hiz : (0 : Int) ≤ (i : Int) := by omega
 have hiz1 : (0 : Int) ≤ ((i + 1 : Nat) : Int) := by omega
 have hw : IntKind.i64.wrap ((i : Int) + 1) = ((i + 1 : Nat) : Int) := by rw [IntWalk.i64_in _ (by omega)]; rfl
 have HKK := Lib.hid (show _ ∧ _ ∧ _ ∧ _ ∧ _ from ⟨k0, k1, k2, k3, k4⟩)
 have HE0 := Lib.hid he0
 have HR0 := Lib.hid (show _ ∧ _ from ⟨hr0, hu0⟩)
 have hJn : (J : Int) < (ne : Int) := by omega
 have hJ0 : (0 : Int) ≤ (J : Int) := by omega
 clear hg hrb h hi hset hge hsent hrl2 hrl3 hJ hlt2 hQ hlC htB hn0 hv0 he0 hV hE0 hlE hEB k0 k1 k2 k3 k4 ha hve hrv hre hr0 hu0 huC huB hrB hrC hR hJE
 go_enter Tryz.func61, Tryz.ntmps61
 go_wp2
 generalize w.alloc (.cells #[V.tv, V.rv, V.lv, V.av, .int .i64 V.d] 96) = w1 at *
 go_loopg [4] Q (fun g s4 wr => ∃ p : Nat, p ≤ Q ∧ Q - p ≤ g ∧ s4 = .int .i64 p ∧ Aside (Ext w1 wr))
 case atStart => exact ⟨0, Nat.zero_le _, by omega, rfl, Ext.rf _⟩
 case round =>
  obtain ⟨p, hp, hgp, rfl, HE⟩ := hrel
  have HW := Lib.hid ((HX0.out.trans' HX1.out).trans' HE.out)
  have HBX := Lib.hid (HE.out.hp HB1.out)
  have b0 := HE.out.cl b0
  have b1 := HE.out.cl b1
  have hpn : p < V.n := by omega
  have hpz : (p : Int) < (V.n : Int) := by omega
  have hpz0 : (0 : Int) ≤ (p : Int) := by omega
  obtain ⟨rB', rO', rC', xB, xO, xC, hre', _, _, r0, _, _, u0⟩ := runAt (Sl.ext rints_lasts HG.out.rn HW.out) (i := i) (p := p) HI.out (by rw [HR2.out]; exact hpn)
  rw [HRV.out] at hre'
  simp only [Value.slice.injEq, Option.some.injEq, Addr.mk.injEq, and_true] at hre'
  obtain ⟨⟨rfl, rfl⟩, hzz, rfl⟩ := hre'
  clear hzz
  obtain ⟨rB', rO', rC', yB, yO, yC, hre', _, _, r1, _, _, u1⟩ := runAt (Sl.ext rints_lasts HG.out.rn HW.out) (i := i + 1) (p := p) HI1.out (by rw [HR3.out]; exact hpn)
  rw [HRV.out] at hre'
  simp only [Value.slice.injEq, Option.some.injEq, Addr.mk.injEq, and_true] at hre'
  obtain ⟨⟨rfl, rfl⟩, hzz, rfl⟩ := hre'
  clear hzz
  rw [HR2.out] at r0
  rw [HR3.out] at r1
  by_cases hpQ : p = Q
  case neg =>
   rw [HSM.out p hpQ] at u1
   generalize rAt r i p = x at *
   have d1 : (x == x) = true := by simp
   go_upto_region 2 with (fail)
   go_quiet (fail)
   have HXN := Lib.hid (HE.out.drN nq)
   go_wp2
   go_roundg (Q - (p + 1))
   case measure => omega
   case rel => exact ⟨p + 1, by omega, by omega, by go_num, (show Ext _ _ from HXN.out)⟩
  case pos =>
   subst hpQ
   rw [HMO.out, HJ.out] at u1
   rw [HJ.out] at u0
   have d1 : ((J : Int) + 1 == (J : Int)) = false := by rw [beq_eq_false_iff_ne]; omega
   go_upto_region 2 with (fail)
   go_quiet (fail)
   have HXN := Lib.hid (HE.out.drN nq)
   have HBN := Lib.hid (((Ext.rf wr).drN nq).hp HBX.out)
   have HWN := Lib.hid (HW.out.drN nq)
   generalize wr.drewN nq = w3 at *
   clear b0 b1 r0 r1 u0 u1 d1 HE HW HBX
   have c0 := cellOf HBN.out 0
   have c1 := cellOf HBN.out 1
   simp only [List.getElem?_toArray, List.getElem?_cons_zero, List.getElem?_cons_succ] at c0 c1
   rw [HVE.out] at c0
   rw [HRV.out] at c1
   have m0 := HWN.out.cl HKK.out.1
   have m1 := HWN.out.cl HKK.out.2.1
   have m2 := HWN.out.cl HKK.out.2.2.1
   have m3 := HWN.out.cl HKK.out.2.2.2.1
   have m4 := HWN.out.cl HKK.out.2.2.2.2
   have e0 := HWN.out.cl HE0.out
   have r0 := HWN.out.cl HR0.out.1
   have u0 := HWN.out.cl HR0.out.2
   go_upto_region 4 with (fail)
   refine wp_onlyN (event_read _ (by kernel_rfl) w3 V y w.heap.size i p V.n R J ne nb tB tO tC EB EO EC rB rO rC uB uO uC va2 va1 _ _ _ _ _ _ _ _ _ _ _ _ _ _ _ _ _ _ _ _ _ _ _ _ _ _ _ _ _ _ _ _ _ _ _ _ _ _ _ _ _ _ _ _ _ _ _ _ _ _ _ _ _ _ _ _ _ _ _ _ _ _ _ _ _ _ _ _ _ _ _ _ _ _ _ _ _ _ _ _ _ _ _ _ _ _ _ _ _ _ _ _ _ _ _ _ _ _ _ _ _ _ _ _ _ _ _ _ _ _ _ _ _ _ _ _ _ _ _ _ _ _ _ _ _ _ _ _ _ _ _ _ _ _ _ _ _ c0 c1 m0 m1 m2 m3 m4 e0 r0 u0 hpz hiR hJn _ ?_) (fun a w h => h)
   intro bx w4 x28 x29 x30 x31 x32 x33 x34 x35 x36 x37 x38 x39 x40 x41 x42 x43 x44 hb9 hx9
   have HB9 := Lib.hid hb9
   have HX9 := Lib.hid hx9
   clear c0 c1 m0 m1 m2 m3 m4 e0 r0 u0 hb9 hx9
   have HW4 := Lib.hid (HX1.out.trans' (HXN.out.trans' HX9.out))
   have HS4 := Lib.hid (HS.out.grow HW4.out)
   have HB4 := Lib.hid (HX9.out.hp HBN.out)
   have y0 := cellOf HB9.out 0
   have y1 := cellOf HB9.out 1
   have y2 := cellOf HB9.out 2
   simp only [List.getElem?_toArray, List.getElem?_cons_zero, List.getElem?_cons_succ] at y0 y1 y2
   clear HXN HBN HWN HX9
   by_cases hk3 : y.kind = 3
   case neg =>
    have hkq : (y.kind != 3) = true := by rw [bne_iff_ne]; exact hk3
    have HEQ := Lib.hid (HEO.out (by rw [HEVE.out]; exact hk3))
    clear hk3
    go_wp2
    refine bodyPost_ret (v := .tuple #[]) (by simp [results, Tryz.results61, go_sem]) rfl ⟨rfl, KeepT.of HW4.out, ?_⟩
    rw [HEQ.out]
    exact ⟨HS4.out.1, HS4.out.2.more (by omega)⟩
   case pos =>
    have hkq : (y.kind != 3) = false := by rw [bne_eq_false_iff_eq]; exact hk3
    obtain ⟨s, hs1, hs2, _, hs3, hs4⟩ := send_peer HG.out.val HIN.out (by rw [HEVE.out]; exact hk3)
    rw [HEVE.out] at hs1 hs2
    have HEQ := Lib.hid ((HER.out (by rw [HEVE.out]; exact hk3)).trans ((congrArg (fun z => aRecv t r V.d A p z i) HEVE.out).trans (aRecv_eq hs2 hs1)))
    have hfn : s.1 < V.n := by have := HG.out.len; have := hs3.1; omega
    have HFC := Lib.hid (HFI.out w4 (HX0.out.trans' HW4.out) y.msg)
    rw [hs1] at HFC
    obtain ⟨f, s2⟩ := s
    simp only [eidA, eidB] at HFC HEQ hfn hs4 hs2
    rw [hs2] at y1
    have HFQ := Lib.hid hs4
    have hfd : ∀ W : World, (Instr.field 88 (.agg #[.int .i64 (f : Int), .int .i64 ((s2 : Int) + 1)]) 1).run Tryz.prog W = .ok (.int .i64 ((s2 : Int) + 1)) W := fun _ => by kernel_rfl
    have b0 := cellOf HB4.out 0
    simp only [List.getElem?_toArray, List.getElem?_cons_zero] at b0
    rw [HVE.out] at b0
    clear hk3 hs1 hs2 hs3 hs4
    go_wp2_with fail
    refine HFC.out.mono ?_
    rintro e w5 ⟨rfl, hE5⟩
    have HS5 := Lib.hid (HS4.out.grow hE5)
    have HW5 := Lib.hid (HW4.out.trans' hE5)
    have HB5 := Lib.hid (hE5.hp HB4.out)
    have HY5 := Lib.hid (hE5.hp HB9.out)
    clear y0 y1 y2 b0 hE5 HFC HS4 HW4 HB4 HB9 HFI
    obtain ⟨⟨vr, hR⟩, hIA⟩ := HS5.out
    have HR := Lib.hid hR
    have HIA := Lib.hid hIA
    obtain ⟨m0, _, _, _⟩ := hR.mks.cellsAt (i := f) (by rw [hR.ll]; exact hfn)
    obtain ⟨_, m1, _, _⟩ := hR.mks.cellsAt (i := p) (by rw [hR.ll]; exact hpn)
    obtain ⟨g2, o2, c2, hv, _, _, _, k1, _⟩ := hR.mks.boolAt (i := p) (j := f) hpn hfn
    rw [hv] at m1
    have hcn := hIA.cnt f (by rw [HG.out.len]; exact hfn)
    have HNO := Lib.hid (fun h => rcvA_no (t := t) (r := r) (d := V.d) (A := A) (q := p) (f := f) (i := i) (si := (s2 : Int) + 1) h)
    have HYE := Lib.hid (fun h => rcvA_yes (t := t) (r := r) (d := V.d) (A := A) (q := p) (f := f) (i := i) (si := (s2 : Int) + 1) h)
    rw [decide_eq_true HFQ.out, Bool.true_and] at HNO HYE
    obtain ⟨cn, hcc⟩ : ∃ x, A.l[f]!.cnt = x := ⟨_, rfl⟩
    have HCC := Lib.hid hcc
    rw [hcc] at m0 hcn HNO HYE
    generalize A.l[p]!.closed[f]! = cl at *
    have hfz : (f : Int) < (V.n : Int) := by omega
    have hfz0 : (0 : Int) ≤ (f : Int) := by omega
    have b2 := cellOf HB5.out 2
    simp only [List.getElem?_toArray, List.getElem?_cons_zero, List.getElem?_cons_succ] at b2
    clear hR hIA hv hcc
    obtain ⟨cd, hcd⟩ : ∃ cd, (decide (cn ≠ -1) && (!cl && decide (cn < (s2 : Int) + 1))) = cd := ⟨_, rfl⟩
    have HCD := Lib.hid hcd
    rw [hcd] at HNO HYE
    clear hcd
    go_upto_region 8 with (fail)
    go_cut [84] (fun s84 wx => s84 = .bool cd ∧ wx = w5)
    case first =>
     by_cases hc1 : cn = -1
     case pos =>
      have d1 : decide (0 ≤ cn) = false := decide_eq_false (by omega)
      have HCV : Hid (cd = false) := Lib.hid (by rw [← HCD.out, decide_eq_false (fun h => h hc1)]; rfl)
      clear hc1 hcn
      go_wp2
      go_meet
      exact ⟨by rw [HCV.out], rfl⟩
     case neg =>
      have d1 : decide (0 ≤ cn) = true := decide_eq_true (by omega)
      by_cases hc2 : cn < (s2 : Int) + 1
      case neg =>
       have d2 : decide (cn < (s2 : Int) + 1) = false := decide_eq_false hc2
       have HCV : Hid (cd = false) := Lib.hid (by rw [← HCD.out, d2, Bool.and_false, Bool.and_false])
       clear hc1 hcn hc2
       go_wp2
       go_meet
       exact ⟨by rw [HCV.out], rfl⟩
      case pos =>
       have d2 : decide (cn < (s2 : Int) + 1) = true := decide_eq_true hc2
       have HCV : Hid (cd = !cl) := Lib.hid (by rw [← HCD.out, d2, decide_eq_true hc1, Bool.and_true, Bool.true_and])
       clear hc1 hcn hc2
       go_wp2
       go_meet
       exact ⟨by rw [HCV.out], rfl⟩
    case rest =>
     obtain ⟨rfl, hwc⟩ := hcut
     obtain ⟨wb, rfl⟩ : ∃ x, x = wc := ⟨_, rfl⟩
     subst hwc
     clear m0 m1 k1 b2 hcn
     go_upto_if 84 with (fail)
     refine wp_onlyN (event_fire _ (by kernel_rfl) w0 wb V t r A vr w.heap.size i p f b cd ((s2 : Int) + 1) cn cl _ _ _ _ _ _ _ _ _ _ _ _ _ _ _ _ _ _ _ _ _ _ _ _ _ _ _ _ _ _ _ _ _ _ _ _ _ _ _ _ _ _ _ _ _ _ _ _ _ _ _ _ _ _ _ _ _ _ _ _ _ _ _ _ _ _ _ _ _ _ _ _ _ _ _ _ _ _ _ _ _ _ _ _ _ _ _ _ _ _ _ _ _ _ _ _ _ _ _ _ _ _ _ _ _ _ _ _ _ _ _ _ _ _ _ _ _ _ _ _ _ _ _ _ _ _ _ _ _ _ _ _ _ _ _ HG HR HIA HI hpn hfn HFQ HCC HCD HNO.out HYE.out HB5) ?_
     rintro a wf ⟨⟨x85, x86, x87, x88, x89, x90, x91, x92, x93, x94, x95, x96, x97, x98, x99, rfl⟩, hsr, hkr⟩
     have HSR := Lib.hid hsr
     have HKR := Lib.hid hkr
     clear hsr hkr
     have HBF := Lib.hid (HKR.out.2 _ _ _ _ HB5.out (by decide) (by decide) (by decide) (by decide) (by decide))
     have HYF := Lib.hid (HKR.out.2 _ _ _ _ HY5.out (by decide) (by decide) (by decide) (by decide) (by decide))
     have HKF := Lib.hid ((KeepT.of HW5.out).tr HKR.out)
     generalize rcvA t r V.d A p f i ((s2 : Int) + 1) = RA at *
     clear HNO HYE HCD HCC HR HIA HS5 HB5 HY5 HKR
     obtain ⟨⟨vr2, hR⟩, hIA⟩ := HSR.out
     have HR := Lib.hid hR
     have HIA := Lib.hid hIA
     obtain ⟨m0, m1, m2, _⟩ := hR.mks.cellsAt (i := p) (by rw [hR.ll]; exact hpn)
     obtain ⟨vg, vo, vk, hvc, _, _, _, k1, _⟩ := hR.mks.boolAt (i := p) (j := f) hpn hfn
     obtain ⟨hgb, ho, hk, hvh, _, _, _, e0, hfr⟩ := hR.mks.hdrAt (i := p) (j := f) hpn hfn
     rw [hvc] at m1
     rw [hvh] at m2
     have HVH := Lib.hid hvh
     have HRW := Lib.hid (hR.mks.cha p hpn f hfn)
     have hlen := hIA.few p (by rw [HG.out.len]; exact hpn) f (by rw [HG.out.len]; exact hfn)
     have HLE0 := Lib.hid hlen
     obtain ⟨ra2, rc2, hrv2, _⟩ := HRW.out.any
     have HRV2 := Lib.hid hrv2
     rw [hrv2] at e0
     have b2 := cellOf HBF.out 2
     have y2 := cellOf HYF.out 2
     simp only [List.getElem?_toArray, List.getElem?_cons_zero, List.getElem?_cons_succ] at b2 y2
     have HRB : Hid (rcvB RA p f y.msg = if (decide (RA.l[p]!.cnt ≠ -1) && !RA.l[p]!.closed[f]!) = true then ⟨noteL RA.l p f y.msg, RA.at_⟩ else RA) := Lib.hid rfl
     have HNI := Lib.hid (fun hc => hIA.note (show p < t.length by rw [HG.out.len]; exact hpn) (show f < t.length by rw [HG.out.len]; exact hfn) hc y.msg)
     have hcn := hIA.cnt p (by rw [HG.out.len]; exact hpn)
     generalize hcq : RA.l[p]!.cnt = cq at *
     generalize hbq : RA.l[p]!.closed[f]! = bq at *
     obtain ⟨L, hL⟩ : ∃ L, (RA.l[p]!.chan[f]!).length = L := ⟨_, rfl⟩
     have HLL := Lib.hid hL
     rw [hL] at e0 hlen HRV2
     have y20 := y2
     have hlen0 := HLE0.out
     generalize y.msg = xm at *
     clear hvc hvh hrv2 hcq hbq hL hfr hR hIA
     by_cases hc1 : cq = -1
     case pos =>
      have d1 : decide (0 ≤ cq) = false := decide_eq_false (by omega)
      have HE := Lib.hid (HRB.out.trans (if_neg (by rw [show decide (cq ≠ -1) = false from decide_eq_false (fun h => h hc1)]; simp)))
      clear hc1 hcn
      go_wp2
      go_end0
      exact ⟨rfl, HKF.out, by rw [HEQ.out, HE.out]; exact ⟨⟨vr2, HR.out⟩, HIA.out.more (by omega)⟩⟩
     case neg =>
      have d1 : decide (0 ≤ cq) = true := decide_eq_true (by omega)
      cases bq with
      | true =>
        have HE := Lib.hid (HRB.out.trans (if_neg (by simp)))
        clear hc1 hcn
        go_wp2
        go_end0
        exact ⟨rfl, HKF.out, by rw [HEQ.out, HE.out]; exact ⟨⟨vr2, HR.out⟩, HIA.out.more (by omega)⟩⟩
      | false =>
        have HE := Lib.hid (HRB.out.trans (if_pos (by rw [show decide (cq ≠ -1) = true from decide_eq_true hc1]; rfl)))
        have HNI2 := Lib.hid (HNI.out hc1)
        clear hc1 hcn
        go_upto_region 13 with (fail)
        clear k1 m1 m0 d1 m2 e0 b2 y2
        refine wp_onlyN (event_note _ (by kernel_rfl) w0 wf V RA vr2 w.heap.size bx p f b xm _ _ _ _ _ _ _ _ _ _ _ _ _ _ _ _ _ _ _ _ _ _ _ _ _ _ _ _ _ _ _ _ _ _ _ _ _ _ _ _ _ _ _ _ _ _ _ _ _ _ _ _ _ _ _ _ _ _ _ _ _ _ _ _ _ _ _ _ _ _ _ _ _ _ _ _ _ _ _ _ _ _ _ _ _ _ _ _ _ _ _ _ _ _ _ _ _ _ _ _ _ _ _ _ _ _ _ _ _ _ _ _ _ _ _ _ _ _ _ _ _ _ _ _ _ _ _ _ _ _ _ _ _ _ _ _ _ HR hpn hfn hlen0 hb HBF HYF y20) ?_
        rintro a W ⟨hdf, hKW, hEW⟩
        try simp only [Exit.inBlock, Exit.then]
        refine bodyPost_end (results_none rfl _ _ _) hdf ⟨rfl, HKF.out.tr hKW, ?_⟩
        rw [HEQ.out, HE.out]
        exact ⟨hEW, HNI2.out⟩
end Go.Proofs.YtfagfooggcinoaaGreat
namespace Go.Proofs.YtfagfooggcinoaaGreat
open Go.RowKit
set_option linter.unusedVariables false
theorem srNews {w : World} {a : Option Addr} {n c : Nat} {xs : List Value} (h : CellsAt w (.slice a n c) 1 n xs) : 0 < n → ∃ ad, a = some ad ∧ ∀ j u, xs[j]? = some u → w.cell? (ad.add j) = some u := by
 intro hn
 obtain ⟨hl, a', c', he, hlc, h⟩ := h
 simp only [Value.slice.injEq] at he
 obtain ⟨rfl, _, rfl⟩ := he
 obtain ⟨b, off, rfl, hb, hc⟩ := h hn
 refine ⟨_, rfl, fun j u hj => ?_⟩
 have hjl : j < n * 1 := by have := (List.getElem?_eq_some_iff.1 hj).1; omega
 rw [Addr.add_lit, hc j hjl]
 exact hj
theorem srOne (l : List Int) : ∀ u ∈ l.map (Value.int .i64), u.oneCell' = true := by
 intro u hu
 obtain ⟨x, _, rfl⟩ := List.mem_map.1 hu
 rfl
theorem ahead_lost {t : Tr} (hv : validT t = true) {q f k : Nat} (hf : f < t.length) (hk : k ≤ t[f]!.events.length) : aheadTo t (q : Int) (t[q]!.events.length : Int) f k = lostTo t (q : Int) f k := by
 unfold aheadTo lostTo
 congr 1
 refine List.filter_congr fun j hj => ?_
 have hj := List.mem_range.1 hj
 unfold aheadB lostB
 cases hr : findE t 3 (ev t (f, j)).msg with
 | none => rfl
 | some s =>
   by_cases h1 : (ev t (f, j)).kind = 2
   ·by_cases h2 : (ev t (f, j)).peer = (q : Int)
    ·obtain ⟨e, hin, _⟩ := rcv_at hv (f := f) (q := q) (j := j) ⟨hf, by show j < t[f]!.events.length; omega⟩ ⟨h1, h2⟩ hr
     have h3 : s.2 < t[s.1]!.events.length := hin.2
     rw [e] at h3
     simp only [Option.isNone_some, Bool.and_false]
     rw [decide_eq_false (show ¬ ((t[q]!.events.length : Int) < (s.2 : Int) + 1) by omega)]
     simp
    ·rw [decide_eq_false h2]; simp
   ·rw [decide_eq_false h1]; rfl
theorem run_last {t : Tr} {r : List (List Int)} (h : runB t r = true) {L q : Nat} (hL : r.length = L + 1) (hq : q < t.length) : rAt r L q = (t[q]!.events.length : Int) := by
 have h1 := (run_parts h).2.2.1
 rw [hL, Nat.add_sub_cancel] at h1
 unfold rAt
 rw [h1, lenT]
 rw [getElem!_pos _ q (by simpa using hq)]
 simp only [List.getElem_map, List.getElem_range]
set_option maxHeartbeats 16000000 in
set_option maxRecDepth 100000 in
theorem chan_note (c : Code) (hc : Tryz.f17.body.bind (regOf 22) = some c) (w wf : World) (V : RV) (t : Tr) (r : List (List Int)) (l : List Mk) (at' : List Int) (vr2 : Nat → Nat → Value) (sb q f L R rB rO rC b : Nat)
  (y0 y2 y3 y4 y5 y6 y7 y8 y9 y10 y11 y13 y15 y18 y19 y20 y21 y22 y23 y24 y25 y26 y27 y28 y29 y30 y31 y32 y33 y34 y35 y36 y37 y38 y39 y40 y41 y42 y43 y44 y45 y46 y47 y48 y49 y50 y51 y52 y53 y54 y55 y56 y57 y58 y59 y60 y61 y62 y63 y64 y65 y66 y67 y68 y69 y70 y71 y72 y73 y74 y75 y76 y77 y78 y79 y80 y81 y82 y83 y84 y85 y86 y87 y88 y89 y90 y91 y92 y93 y94 y95 y96 y97 y98 y99 y100 y101 y102 y103 y104 y105 y106 y107 y108 y109 y110 y111 y112 y113 y114 y115 y116 y117 y118 y119 y120 y121 y122 y123 y124 y125 y126 y127 : Value)
  (HG : Hid (RefG w V t r)) (HRB : Hid (runB t r = true)) (HR : Hid (RefAt w wf V ⟨l, at'⟩ vr2)) (hqn : q < V.n) (hfn : f < V.n) (hcn0 : 0 ≤ l[f]!.cnt ∧ l[f]!.cnt ≤ (t[f]!.events.length : Int)) (hlen0 : (l[q]!.chan[f]!).length ≤ b) (hb : b ≤ 1000000)
  (HRR : Hid (r.length = R)) (HL : Hid (R = L + 1)) (HVR : Hid (V.rv = .slice (some ⟨rB, rO, none⟩) R rC))
  (HBF : Hid (wf.heap[sb]? = some (.cells #[V.tv, V.rv, V.lv, V.av, .int .i64 V.d] 96))) :
  c.wp Tryz.prog (OnlyN fun a W => (∃ x92 x93 x94 x95 x96 x97 x98 x99 x100 x101 x102 x103 x104 x105 x106 x107 x108 x109 x110 x111 x112 x113 x114 x115 x116 x117 : Value, a = { tmps := #[y0, .slice (some ⟨rB, rO, none⟩) R rC, y2, y3, y4, y5, y6, y7, y8, y9, y10, y11, .pointer (some ⟨sb, 0, none⟩), y13, .int .i64 (L : Int), y15, .int .i64 (q : Int), .int .i64 (f : Int), y18, y19, y20, y21, y22, y23, y24, y25, y26, y27, y28, y29, y30, y31, y32, y33, y34, y35, y36, y37, y38, y39, y40, y41, y42, y43, y44, y45, y46, y47, y48, y49, y50, y51, y52, y53, y54, y55, y56, y57, y58, y59, y60, y61, y62, y63, y64, y65, y66, y67, y68, y69, y70, y71, y72, y73, y74, y75, y76, y77, y78, y79, y80, y81, y82, y83, y84, y85, y86, y87, y88, y89, y90, y91, x92, x93, x94, x95, x96, x97, x98, x99, x100, x101, x102, x103, x104, x105, x106, x107, x108, x109, x110, x111, x112, x113, x114, x115, x116, x117, y118, y119, y120, y121, y122, y123, y124, y125, y126, y127], defers := [] }) ∧ KeepT wf W ∧ RefE w W V ⟨chM l q f (lostTo t (q : Int) f l[f]!.cnt.toNat), at'⟩) { tmps := #[y0, .slice (some ⟨rB, rO, none⟩) R rC, y2, y3, y4, y5, y6, y7, y8, y9, y10, y11, .pointer (some ⟨sb, 0, none⟩), y13, .int .i64 (L : Int), y15, .int .i64 (q : Int), .int .i64 (f : Int), y18, y19, y20, y21, y22, y23, y24, y25, y26, y27, y28, y29, y30, y31, y32, y33, y34, y35, y36, y37, y38, y39, y40, y41, y42, y43, y44, y45, y46, y47, y48, y49, y50, y51, y52, y53, y54, y55, y56, y57, y58, y59, y60, y61, y62, y63, y64, y65, y66, y67, y68, y69, y70, y71, y72, y73, y74, y75, y76, y77, y78, y79, y80, y81, y82, y83, y84, y85, y86, y87, y88, y89, y90, y91, y92, y93, y94, y95, y96, y97, y98, y99, y100, y101, y102, y103, y104, y105, y106, y107, y108, y109, y110, y111, y112, y113, y114, y115, y116, y117, y118, y119, y120, y121, y122, y123, y124, y125, y126, y127], defers := [] } wf := by
 conv at hc => lhs; whnf
 cases hc
 have hR := HR.out
 have hLr : L < r.length := by have h1 := HRR.out; have h2 := HL.out; omega
 have hrl := HG.out.run.1
 have hrq : r[L]!.length = V.n := (HG.out.run.2 L hLr).1.trans HG.out.len
 obtain ⟨rB', rO', rC', uB, uO, uC, hrve, hrC, _, r0, huC, _, u0⟩ := runAt (Sl.ext rints_lasts HG.out.rn hR.ext) hLr (p := q) (by rw [hrq]; exact hqn)
 have hIR : Hid (Ints wf (.slice (some ⟨uB, uO, none⟩) r[L]!.length uC) r[L]!) := Lib.hid (by
  obtain ⟨rB2, rO2, rC2, xa, xc, e1, _, _, h1, h2⟩ := rowAt (Sl.ext rints_lasts HG.out.rn hR.ext) L hLr
  rw [hrve] at e1
  simp only [Value.slice.injEq, Option.some.injEq, Addr.mk.injEq, and_true] at e1
  obtain ⟨⟨rfl, rfl⟩, _, _⟩ := e1
  rw [r0] at h1
  simp only [Option.some.injEq, Value.slice.injEq] at h1
  obtain ⟨rfl, _, rfl⟩ := h1
  exact h2)
 rw [HVR.out] at hrve
 simp only [Value.slice.injEq, Option.some.injEq, Addr.mk.injEq, and_true] at hrve
 obtain ⟨⟨rfl, rfl⟩, hzz, rfl⟩ := hrve
 have h64 := valid_64 HG.out.val (p := f) (by rw [HG.out.len]; exact hfn)
 have HAH := Lib.hid (fun W (hW : Ext wf W) => aheadR_calls w W V ⟨l, at'⟩ vr2 t f q r[L]! (.slice (some ⟨uB, uO, none⟩) r[L]!.length uC) (HR.out.grow hW) (Or.inr hcn0) HG.out.tr (valid_small HG.out.val) HG.out.len.symm (hIR.out.ext hW) (by rw [hrq]; exact hqn) (by rw [HG.out.len]; exact hfn) (by rw [hrq]; have := HG.out.few; omega))
 have hra : r[L]![q]! = (t[q]!.events.length : Int) := run_last HRB.out (HRR.out.trans HL.out) (by rw [HG.out.len]; exact hqn)
 have hkx : l[f]!.cnt.toNat ≤ t[f]!.events.length := by omega
 have hstv : V.st = .agg #[V.tv, .slice (some ⟨rB, rO, none⟩) R rC, V.lv, V.av, .int .i64 V.d] := by show Value.agg #[_, V.rv, _, _, _] = _; rw [HVR.out]
 simp only at HAH
 rw [hra, ahead_lost HG.out.val (by rw [HG.out.len]; exact hfn) hkx, hstv, hrq] at HAH
 rw [hrq] at r0
 have hxl0 := lostTo_len t (q : Int) f l[f]!.cnt.toNat
 obtain ⟨X, hX⟩ : ∃ X, lostTo t (q : Int) f l[f]!.cnt.toNat = X := ⟨_, rfl⟩
 rw [hX] at HAH hxl0 ⊢
 obtain ⟨xl, hxl⟩ : ∃ x, X.length = x := ⟨_, rfl⟩
 rw [hxl] at hxl0
 have HXL := Lib.hid hxl
 have hx64 : xl ≤ 64 := by omega
 obtain ⟨_, _, m2, _⟩ := hR.mks.cellsAt (i := q) (by rw [hR.ll]; exact hqn)
 obtain ⟨hgb, ho, hk, hvh, _, _, _, e0, hfr⟩ := hR.mks.hdrAt (i := q) (j := f) hqn hfn
 rw [hvh] at m2
 have HVH := Lib.hid hvh
 have HRW := Lib.hid (hR.mks.cha q hqn f hfn)
 obtain ⟨ra2, rc2, hrv2, _⟩ := HRW.out.any
 have HRV2 := Lib.hid hrv2
 rw [hrv2] at e0
 have b0 := cellOf HBF.out 0
 have b1 := cellOf HBF.out 1
 have b2 := cellOf HBF.out 2
 have b3 := cellOf HBF.out 3
 have b4 := cellOf HBF.out 4
 simp only [List.getElem?_toArray, List.getElem?_cons_zero, List.getElem?_cons_succ] at b0 b1 b2 b3 b4
 replace b1 := b1.trans (congrArg some HVR.out)
 obtain ⟨LL, hL⟩ : ∃ LL, (l[q]!.chan[f]!).length = LL := ⟨_, rfl⟩
 have HLL := Lib.hid hL
 simp only at e0 HRV2 m2
 rw [hL] at e0 hlen0 HRV2
 have hlen := hlen0
 have hqz : (q : Int) < (V.n : Int) := by omega
 have hqz0 : (0 : Int) ≤ (q : Int) := by omega
 have hfz : (f : Int) < (V.n : Int) := by omega
 have hfz0 : (0 : Int) ≤ (f : Int) := by omega
 have hLz : (L : Int) < (R : Int) := by have h2 := HL.out; omega
 have hLz0 : (0 : Int) ≤ (L : Int) := by omega
 obtain ⟨ii, hii, iz0, iz1, iz2⟩ := info_partsM info_intG
 have HR80 : Hid (∀ W, Ext w W → W.cell? ⟨rB, rO + L, none⟩ = some (.slice (some ⟨uB, uO, none⟩) V.n uC)) := Lib.hid (fun W hW => by
  obtain ⟨rB2, rO2, rC2, vB, vO, vC, e1, _, _, h1, _, _, _⟩ := runAt HG.out.rn hLr (p := q) (by rw [hrq]; exact hqn)
  rw [HVR.out] at e1
  simp only [Value.slice.injEq, Option.some.injEq, Addr.mk.injEq, and_true] at e1
  obtain ⟨⟨rfl, rfl⟩, _, _⟩ := e1
  have h2 := HR.out.ext.cl h1
  rw [hrq, r0] at h2
  rw [hW.cl h1, hrq]; exact h2.symm)
 clear hvh hrv2 hL hfr hR hlen0 hzz hrC huC u0 hra hkx hstv hX hxl hxl0 hcn0 h64 hrq hLr hrl
 refine wp_region_tail (fun W => W.cell? ⟨sb, 0, none⟩ = some V.tv ∧ W.cell? ⟨sb, 1, none⟩ = some (.slice (some ⟨rB, rO, none⟩) R rC) ∧ W.cell? ⟨sb, 2, none⟩ = some V.lv ∧ W.cell? ⟨sb, 3, none⟩ = some V.av ∧ W.cell? ⟨sb, 4, none⟩ = some (.int .i64 V.d) ∧ W.cell? ⟨V.g, V.o + q * 3 + 2, none⟩ = some (.slice (some ⟨hgb, ho, none⟩) V.n hk) ∧ W.cell? ⟨hgb, ho + f, none⟩ = some (.slice ra2 LL rc2) ∧ W.cell? ⟨rB, rO + L, none⟩ = some (.slice (some ⟨uB, uO, none⟩) V.n uC)) 26 (by kernel_rfl) ⟨b0, b1, b2, b3, b4, m2, e0, r0⟩ (fun hHeld => ?_)
 have HXD : Hid (Ext wf wf.drew) := Lib.hid (Ext.rf wf).dr
 generalize wf.drew = wd at *
 refine tkA 0 92 (v := ?_) rfl rfl (by kernel_rfl) (fun _ _ _ h => h) ?_ (by assumption) ?_
 rotate_left
 ·(intro w hSw; (try dsimp only at hSw); go_simp; try (with_reducible rfl))
 try simp only [Act.put]
 try simp only [List.setIfInBounds_toArray]
 try simp only [List.set_cons_zero, List.set_cons_succ]
 refine tkA 1 93 (v := ?_) rfl rfl (by kernel_rfl) (fun _ _ _ h => h) ?_ (by assumption) ?_
 rotate_left
 ·(intro w hSw; (try dsimp only at hSw); go_simp; try (with_reducible rfl))
 try simp only [Act.put]
 try simp only [List.setIfInBounds_toArray]
 try simp only [List.set_cons_zero, List.set_cons_succ]
 refine tkA 2 94 (v := ?_) rfl rfl (by kernel_rfl) (fun _ _ _ h => h) ?_ (by assumption) ?_
 rotate_left
 ·(intro w hSw; (try dsimp only at hSw); go_simp; try (with_reducible rfl))
 try simp only [Act.put]
 try simp only [List.setIfInBounds_toArray]
 try simp only [List.set_cons_zero, List.set_cons_succ]
 refine tkA 3 95 (v := ?_) rfl rfl (by kernel_rfl) (fun _ _ _ h => h) ?_ (by assumption) ?_
 rotate_left
 ·(intro w hSw; (try dsimp only at hSw); go_simp; try (with_reducible rfl))
 try simp only [Act.put]
 try simp only [List.setIfInBounds_toArray]
 try simp only [List.set_cons_zero, List.set_cons_succ]
 refine tkA 4 96 (v := ?_) rfl rfl (by kernel_rfl) (fun _ _ _ h => h) ?_ (by assumption) ?_
 rotate_left
 ·(intro w hSw; (try dsimp only at hSw); go_simp; try (with_reducible rfl))
 try simp only [Act.put]
 try simp only [List.setIfInBounds_toArray]
 try simp only [List.set_cons_zero, List.set_cons_succ]
 refine tkA 5 97 (v := ?_) rfl rfl (by kernel_rfl) (fun _ _ _ h => h) ?_ (by assumption) ?_
 rotate_left
 ·(intro w hSw; (try dsimp only at hSw); go_simp; try (with_reducible rfl))
 try simp only [Act.put]
 try simp only [List.setIfInBounds_toArray]
 try simp only [List.set_cons_zero, List.set_cons_succ]
 refine tkA 6 98 (v := ?_) rfl rfl (by kernel_rfl) (fun _ _ _ h => h) ?_ (by assumption) ?_
 rotate_left
 ·(intro w hSw; (try dsimp only at hSw); go_simp; try (with_reducible rfl))
 try simp only [Act.put]
 try simp only [List.setIfInBounds_toArray]
 try simp only [List.set_cons_zero, List.set_cons_succ]
 refine tkA 7 99 (v := ?_) rfl rfl (by kernel_rfl) (fun _ _ _ h => h) ?_ (by assumption) ?_
 rotate_left
 ·(intro w hSw; (try dsimp only at hSw); go_simp; try (with_reducible rfl))
 try simp only [Act.put]
 try simp only [List.setIfInBounds_toArray]
 try simp only [List.set_cons_zero, List.set_cons_succ]
 refine tkA 8 100 (v := ?_) rfl rfl (by kernel_rfl) (fun _ _ _ h => h) ?_ (by assumption) ?_
 rotate_left
 ·(intro w hSw; (try dsimp only at hSw); go_simp; try (with_reducible rfl))
 try simp only [Act.put]
 try simp only [List.setIfInBounds_toArray]
 try simp only [List.set_cons_zero, List.set_cons_succ]
 refine tkA 9 101 (v := ?_) rfl rfl (by kernel_rfl) (fun _ _ _ h => h) ?_ (by assumption) ?_
 rotate_left
 ·(intro w hSw; (try dsimp only at hSw); go_simp; try (with_reducible rfl))
 try simp only [Act.put]
 try simp only [List.setIfInBounds_toArray]
 try simp only [List.set_cons_zero, List.set_cons_succ]
 refine tkA 10 102 (v := ?_) rfl rfl (by kernel_rfl) (fun _ _ _ h => h) ?_ (by assumption) ?_
 rotate_left
 ·(intro w hSw; (try dsimp only at hSw); go_simp; try (with_reducible rfl))
 try simp only [Act.put]
 try simp only [List.setIfInBounds_toArray]
 try simp only [List.set_cons_zero, List.set_cons_succ]
 refine tkA 11 103 (v := ?_) rfl rfl (by kernel_rfl) (fun _ _ _ h => h) ?_ (by assumption) ?_
 rotate_left
 ·(intro w hSw; (try dsimp only at hSw); go_simp; try (with_reducible rfl))
 try simp only [Act.put]
 try simp only [List.setIfInBounds_toArray]
 try simp only [List.set_cons_zero, List.set_cons_succ]
 refine tkA 12 104 (v := ?_) rfl rfl (by kernel_rfl) (fun _ _ _ h => h) ?_ (by assumption) ?_
 rotate_left
 ·(intro w hSw; (try dsimp only at hSw); go_simp; try (with_reducible rfl))
 try simp only [Act.put]
 try simp only [List.setIfInBounds_toArray]
 try simp only [List.set_cons_zero, List.set_cons_succ]
 refine tkA 13 105 (v := ?_) rfl rfl (by kernel_rfl) (fun _ _ _ h => h) ?_ (by assumption) ?_
 rotate_left
 ·(intro w hSw; (try dsimp only at hSw); go_simp; try (with_reducible rfl))
 try simp only [Act.put]
 try simp only [List.setIfInBounds_toArray]
 try simp only [List.set_cons_zero, List.set_cons_succ]
 refine tkA 14 106 (v := ?_) rfl rfl (by kernel_rfl) (fun _ _ _ h => h) ?_ (by assumption) ?_
 rotate_left
 ·(intro w hSw; (try dsimp only at hSw); go_simp; try (with_reducible rfl))
 try simp only [Act.put]
 try simp only [List.setIfInBounds_toArray]
 try simp only [List.set_cons_zero, List.set_cons_succ]
 refine tkA 15 107 (v := ?_) rfl rfl (by kernel_rfl) (fun _ _ _ h => h) ?_ (by assumption) ?_
 rotate_left
 ·(intro w hSw; (try dsimp only at hSw); go_simp; try (with_reducible rfl))
 try simp only [Act.put]
 try simp only [List.setIfInBounds_toArray]
 try simp only [List.set_cons_zero, List.set_cons_succ]
 refine tkA 16 108 (v := ?_) rfl rfl (by kernel_rfl) (fun _ _ _ h => h) ?_ (by assumption) ?_
 rotate_left
 ·(intro w hSw; (try dsimp only at hSw); go_simp; try (with_reducible rfl))
 try simp only [Act.put]
 try simp only [List.setIfInBounds_toArray]
 try simp only [List.set_cons_zero, List.set_cons_succ]
 refine tkA 17 109 (v := ?_) rfl rfl (by kernel_rfl) (fun _ _ _ h => h) ?_ (by assumption) ?_
 rotate_left
 ·(intro w hSw; (try dsimp only at hSw); go_simp; try (with_reducible rfl))
 try simp only [Act.put]
 try simp only [List.setIfInBounds_toArray]
 try simp only [List.set_cons_zero, List.set_cons_succ]
 refine tkA 18 110 (v := ?_) rfl rfl (by kernel_rfl) (fun _ _ _ h => h) ?_ (by assumption) ?_
 rotate_left
 ·(intro w hSw; (try dsimp only at hSw); go_simp; try (with_reducible rfl))
 try simp only [Act.put]
 try simp only [List.setIfInBounds_toArray]
 try simp only [List.set_cons_zero, List.set_cons_succ]
 refine tkA 19 111 (v := ?_) rfl rfl (by kernel_rfl) (fun _ _ _ h => h) ?_ (by assumption) ?_
 rotate_left
 ·(intro w hSw; (try dsimp only at hSw); go_simp; try (with_reducible rfl))
 try simp only [Act.put]
 try simp only [List.setIfInBounds_toArray]
 try simp only [List.set_cons_zero, List.set_cons_succ]
 refine tkA 20 112 (v := ?_) rfl rfl (by kernel_rfl) (fun _ _ _ h => h) ?_ (by assumption) ?_
 rotate_left
 ·(intro w hSw; (try dsimp only at hSw); go_simp; try (with_reducible rfl))
 try simp only [Act.put]
 try simp only [List.setIfInBounds_toArray]
 try simp only [List.set_cons_zero, List.set_cons_succ]
 refine tkA 21 113 (v := ?_) rfl rfl (by kernel_rfl) (fun _ _ _ h => h) ?_ (by assumption) ?_
 rotate_left
 ·(intro w hSw; (try dsimp only at hSw); go_simp; try (with_reducible rfl))
 try simp only [Act.put]
 try simp only [List.setIfInBounds_toArray]
 try simp only [List.set_cons_zero, List.set_cons_succ]
 refine tkA 22 114 (v := ?_) rfl rfl (by kernel_rfl) (fun _ _ _ h => h) ?_ (by assumption) ?_
 rotate_left
 ·(intro w hSw; (try dsimp only at hSw); go_simp; try (with_reducible rfl))
 try simp only [Act.put]
 try simp only [List.setIfInBounds_toArray]
 try simp only [List.set_cons_zero, List.set_cons_succ]
 refine wpAnyT_step (i := 23) (o := ⟨some 115, _, _, _, _, _⟩) (by kernel_rfl) rfl (fun K hK => ?_)
 refine step_callW (by kernel_rfl) 63 _ _ rfl enters_63 [.agg #[V.tv, .slice (some ⟨rB, rO, none⟩) R rC, V.lv, V.av, .int .i64 V.d], .int .i64 f, .int .i64 q, .slice (some ⟨uB, uO, none⟩) V.n uC] (by first | rfl | kernel_rfl | go_simp) (HAH.out _ HXD.out) ?_
 rintro e wA ⟨va, rfl, hRa, hXa⟩
 rw [HXL.out] at hRa
 obtain ⟨xa, xc, rfl, _⟩ := hRa.any
 refine ⟨_, rfl, ?_⟩
 have HXA := Lib.hid (HXD.out.trans' hXa)
 have HRX := Lib.hid hRa.cells
 clear hRa hXa
 have HRA := Lib.hid (HR.out.grow HXA.out)
 have HRA2 : Hid (Row wA w.heap.size 3 1 (.slice ra2 LL rc2) LL ((l[q]!.chan[f]!).map (Value.int .i64))) := Lib.hid (by
  have h := HRW.out.ext HXA.out
  rw [HRV2.out] at h
  simp only at h
  rw [HLL.out] at h; exact h)
 have HBA := Lib.hid (HXA.out.hp HBF.out)
 refine hK.out _ _ ?_ (fun hHeld => ?_)
 ·(try dsimp only)
  exact ⟨HXA.out.cl b0, HXA.out.cl b1, HXA.out.cl b2, HXA.out.cl b3, HXA.out.cl b4, HXA.out.cl m2, HXA.out.cl e0, HXA.out.cl r0⟩
 clear hK K
 try simp only [Act.put]
 try simp only [List.setIfInBounds_toArray]
 try simp only [List.set_cons_zero, List.set_cons_succ]
 refine wpAnyT_step (i := 24) (by kernel_rfl) rfl (fun K hK => ?_)
 refine step_append_rowM rfl _ _ 39 rfl w.heap.size 3 ii (.int .i64 0) 1 8 Tryz.underlying39 hii iz0 iz1 iz2 rfl (by decide) (.slice ra2 LL rc2) LL ((l[q]!.chan[f]!).map (Value.int .i64)) rfl HRA2.out xa xl xc (X.map (Value.int .i64)) rfl (by rw [List.length_map, HXL.out, Nat.mul_one]) (srNews HRX.out) (srOne _) (by unfold maxLen; omega) (by omega) HRA.out.ext.sz ?_
 intro v8 w8 hown8 hgrow8 hblk8
 obtain ⟨x8, y8', rfl, _⟩ := hown8.any
 have HOW := Lib.hid hown8
 have HGR := Lib.hid hgrow8
 have HBL := Lib.hid hblk8
 have hhr := HRA.out.mks.hdr q hqn
 rw [HVH.out] at hhr
 obtain ⟨cuH, frH, hheapH⟩ := row_hp hhr
 obtain ⟨cuM, frM, hheapM⟩ := row_hp HRA.out.mks.row
 have HRL := Lib.hid (HRA.out.mks.row.lt V.g rfl)
 have r8 := (HR80.out _ ((HRA.out.ext).gr hgrow8 (fun z hz => (HRA2.out.lt z hz).1)))
 have gB := grown_heap HRA2.out hgrow8 HBA.out (by decide)
 have gH := grown_heap HRA2.out hgrow8 hheapH (by decide)
 have gM := grown_heap HRA2.out hgrow8 hheapM (by decide)
 have a0 := (cell_same (o := 0) gB).trans (HXA.out.cl b0)
 have a1 := (cell_same (o := 1) gB).trans (HXA.out.cl b1)
 have a2 := (cell_same (o := 2) gB).trans (HXA.out.cl b2)
 have a3 := (cell_same (o := 3) gB).trans (HXA.out.cl b3)
 have a4 := (cell_same (o := 4) gB).trans (HXA.out.cl b4)
 have m8 := (cell_same (o := V.o + q * 3 + 2) gM).trans (HXA.out.cl m2)
 have e8 := (cell_same (o := ho + f) gH).trans (HXA.out.cl e0)
 have hfrz : w8.frozen? ⟨hgb, ho + f, none⟩ = false := (hhr.grown hgrow8 (hhr.apart HRA2.out (by decide))).free _
 clear hown8 hgrow8 hblk8 gB gH gM hheapH hheapM hhr b0 b1 b2 b3 b4 m2 e0
 refine hK.out _ _ ?_ (fun hHeld => ?_)
 ·(try dsimp only)
  exact ⟨a0, a1, a2, a3, a4, m8, e8, r8⟩
 clear hK K
 try simp only [Act.put]
 try simp only [List.setIfInBounds_toArray]
 try simp only [List.set_cons_zero, List.set_cons_succ]
 refine tkA 25 117 (v := ?_) rfl rfl (by kernel_rfl) (fun _ _ _ h => h) ?_ (by assumption) ?_
 rotate_left
 ·(intro w hSw; (try dsimp only at hSw); go_simp; try (with_reducible rfl))
 try simp only [Act.put]
 try simp only [List.setIfInBounds_toArray]
 try simp only [List.set_cons_zero, List.set_cons_succ]
 refine wpAnyT_last (by kernel_rfl) rfl (by kernel_rfl) (fun K hK => ?_)
 go_simp
 refine hK.out _ _ ?_
 have HN := HRA.out.notes hqn hfn HVH.out (x := X) (m := xl) (by rw [HRV2.out]; exact HGR.out) (by simp only; rw [HLL.out]; exact HOW.out) HXL.out (by rw [HRV2.out]; exact HBL.out)
 exact ⟨⟨_, _, _, _, _, _, _, _, _, _, _, _, _, _, _, _, _, _, _, _, _, _, _, _, _, _, rfl⟩, (KeepT.of HXA.out).tr HN.2, ⟨_, HN.1⟩⟩
end Go.Proofs.YtfagfooggcinoaaGreat
namespace Go.Proofs.YtfagfooggcinoaaGreat
open Go.RowKit
set_option linter.unusedVariables false
def BegE (w wx : World) (sb : Nat) (V : RV) (A : Sn) : Prop := wx.heap[sb]? = some (.cells #[V.tv, V.rv, V.lv, V.av, .int .i64 V.d] 96) ∧ RefE w wx V A
theorem begE {w wb : World} {sb g o cap ga n : Nat} {d : Int} {tv rv : Value} {l : List Mk} {vc vh : Nat → Value} {vr : Nat → Nat → Value} (hx : Ext w wb) (hO : OwnM wb w.heap.size (.slice (some ⟨g, o, none⟩) n cap) n l.length l vc vh vr) (hl : l.length = n) (hn : n ≤ 1000)
  (hA : wb.heap[ga]? = some (.cells (madeCells #[.int .i64 0] n) 3)) (hga : w.heap.size ≤ ga) (hs : wb.heap[sb]? = some (.cells #[tv, rv, .slice (some ⟨g, o, none⟩) n cap, .slice (some ⟨ga, 0, none⟩) n n, .int .i64 d] 96))
  (hd : ∀ i j, i < n → j < n → Dis (.slice (some ⟨ga, 0, none⟩) n n) (vr i j)) :
  BegE w wb sb ⟨g, o, cap, ga, 0, n, n, d, tv, rv, vc, vh⟩ ⟨l, List.replicate n 0⟩ := by
 refine ⟨hs, vr, hx, ?_, hl, ?_, List.length_replicate .., hd⟩
 ·have h := hO
  rw [hl] at h
  exact h
 ·rw [List.map_replicate]
  exact row_made hA hga (show n ≤ maxLen from by unfold maxLen; omega)
def RecI (w wr : World) (V : RV) (t : Tr) (r : List (List Int)) (l : List Mk) (b last k : Nat) : Prop := ∃ at', RefE w wr V ⟨endRec r l last k, at'⟩ ∧ InvA t ⟨endRec r l last k, at'⟩ b
theorem RecI.next {w wr : World} {V : RV} {t : Tr} {r : List (List Int)} {l : List Mk} {b last k : Nat} {at' : List Int} (hr : RunIn t r) (hk : k < t.length) (hl : last < r.length) (hI : InvA t ⟨endRec r l last k, at'⟩ b) (hE : RefE w wr V (aRec? r ⟨endRec r l last k, at'⟩ k last)) : RecI w wr V t r l b last (k + 1) := by
 unfold aRec? at hE
 unfold RecI
 rw [endRec_succ]
 by_cases hc : (endRec r l last k)[k]!.cnt = -1
 ·rw [if_pos hc]
  rw [if_pos (show (Sn.mk (endRec r l last k) at').l[k]!.cnt = -1 from hc)] at hE
  exact ⟨_, hE, hI.reco hr hk hl hc⟩
 ·rw [if_neg hc]
  rw [if_neg (show ¬ (Sn.mk (endRec r l last k) at').l[k]!.cnt = -1 from hc)] at hE
  exact ⟨at', hE, hI⟩
theorem InvE.more {t : Tr} {l : List Mk} {b b' : Nat} (h : InvE t l b) (hb : b ≤ b') : InvE t l b' :=
 ⟨h.ll, h.cl, h.ch, h.cnt, fun q hq f hf ho => Nat.le_trans (h.op q hq f hf ho) hb, fun q hq f hf => Nat.le_trans (h.few q hq f hf) (by omega)⟩
def FinR (w wr : World) (V : RV) (t : Tr) (l : List Mk) (b q k : Nat) : Prop := (∃ at', RefE w wr V ⟨endTo t l q k, at'⟩) ∧ InvE t (endTo t l q k) b
set_option maxHeartbeats 16000000 in
set_option maxRecDepth 100000 in
theorem refChandy_calls (v rv : Value) (t : Tr) (r : List (List Int)) (P A0 : Nat) (d : Int) (w : World) (h : TrAt w v t) (hv : validT t = true) (hrb : runB t r = true) (hrv : Sl RInts 1 w rv r) (hrl : r.length ≤ 1000000) (hp : P < t.length) (ha : A0 < r.length) (hd : 0 ≤ d ∧ d ≤ 1000) :
  Calls Tryz.prog 17 #[.agg #[v], rv, .int .i64 P, .int .i64 A0, .int .i64 d] w fun e w' => ∃ v', e = .returned v' ∧ Ext w w' ∧ Sl RMk 3 w' v' (chanL t r d P A0) ∧ InvE t (chanL t r d P A0) r.length := by
 obtain ⟨ii, hii, iz0, iz1, iz2⟩ := info_partsM info_intG
 have HRI := Lib.hid (run_in hrb hrl)
 have hn2 : t.length ≤ 1000 := by have := (valid_8 hv).2; omega
 have hrA := (HRI.out.2 A0 ha).1
 have HT := Lib.hid h
 have HV := Lib.hid hv
 have HRB := Lib.hid hrb
 have HRV := Lib.hid hrv
 obtain ⟨ta, tc, rfl, htc⟩ := h.sh
 obtain ⟨rB, rO, rC, uB, uO, uC, rfl, hrC, hrB, r0, huC, huB, u0⟩ := runAt hrv (i := A0) (p := P) ha (by rw [hrA]; exact hp)
 rw [hrA] at r0 huC
 obtain ⟨N, hN⟩ : ∃ N, t.length = N := ⟨_, rfl⟩
 obtain ⟨R, hR⟩ : ∃ R, r.length = R := ⟨_, rfl⟩
 have HNE := Lib.hid hN
 have HRE := Lib.hid hR
 have HBG := Lib.hid (fun W => beginR_calls N P (rAt r A0 P) W (by omega) (by omega))
 rw [hN] at hp r0 huC htc hn2 ⊢
 rw [hR] at ha hrC hrl ⊢
 have HMA := Lib.hid (fun W : World => run_make (P := Tryz.prog) W 39 3 ii (.int .i64 0) Tryz.underlying39 hii iz0 .i64 .i64 (N : Int) (N : Int) (by omega) (by omega) (by rw [iz2]; omega) (by omega))
 rw [iz1] at HMA
 simp only [Int.toNat_natCast, Nat.mul_one] at HMA
 have hmk := HMA.out
 obtain ⟨c0, hc0⟩ : ∃ c, rAt r A0 P = c := ⟨_, rfl⟩
 have HC0 := Lib.hid hc0
 rw [hc0] at u0 HBG
 clear hc0
 have hpz : (P : Int) < (N : Int) := by omega
 have hpz0 : (0 : Int) ≤ (P : Int) := by omega
 have haz : (A0 : Int) < (R : Int) := by omega
 have haz0 : (0 : Int) ≤ (A0 : Int) := by omega
 have HB0 := Lib.hid (heap_alloc_new w (.cells #[.slice ta N tc] 24))
 have HX0 := Lib.hid ((Ext.rf w).al (.cells #[.slice ta N tc] 24))
 have t0 := cellOf HB0.out 0
 simp only [List.getElem?_toArray, List.getElem?_cons_zero] at t0
 have HT0 := Lib.hid t0
 have HR0 := Lib.hid (HX0.out.cl r0)
 have HU0 := Lib.hid (HX0.out.cl u0)
 clear h hv hrb hrv hrA htc hrC hrB huC huB r0 u0 hN hR
 go_enter Tryz.func17, Tryz.ntmps17
 go_upto_region 2 with (fail)
 generalize w.alloc (.cells #[.slice ta N tc] 24) = w1 at *
 clear t0
 have HTT := Lib.hid HT0.out
 go_cut [12] (fun s12 wx => ∃ (sb : Nat) (V : RV), s12 = .pointer (some ⟨sb, 0, none⟩) ∧ Aside (V.n = N ∧ V.d = d ∧ V.tv = .slice ta N tc ∧ V.rv = .slice (some ⟨rB, rO, none⟩) R rC) ∧ Aside (BegE w wx sb V ⟨recL (begL N) P c0, List.replicate N 0⟩))
 case first =>
  refine wp_region_tail (fun W => W.cell? ⟨w.heap.size, 0, none⟩ = some (.slice ta N tc) ∧ W.cell? ⟨rB, rO + A0, none⟩ = some (.slice (some ⟨uB, uO, none⟩) N uC) ∧ W.cell? ⟨uB, uO + P, none⟩ = some (.int .i64 c0)) 17 (by kernel_rfl) ⟨HTT.out, HR0.out, HU0.out⟩ (fun hHeld => ?_)
  have HXD : Hid (Ext w1 w1.drew) := Lib.hid (Ext.rf w1).dr
  generalize w1.drew = wd at *
  refine tkA 0 21 (v := ?_) rfl rfl (by kernel_rfl) (fun _ _ _ h => h) ?_ (by assumption) ?_
  rotate_left
  ·(intro w hSw; (try dsimp only at hSw); go_simp; try (with_reducible rfl))
  try simp only [Act.put]
  try simp only [List.setIfInBounds_toArray]
  try simp only [List.set_cons_zero, List.set_cons_succ]
  refine tkA 1 22 (v := ?_) rfl rfl (by kernel_rfl) (fun _ _ _ h => h) ?_ (by assumption) ?_
  rotate_left
  ·(intro w hSw; (try dsimp only at hSw); go_simp; try (with_reducible rfl))
  try simp only [Act.put]
  try simp only [List.setIfInBounds_toArray]
  try simp only [List.set_cons_zero, List.set_cons_succ]
  refine tkA 2 23 (v := ?_) rfl rfl (by kernel_rfl) (fun _ _ _ h => h) ?_ (by assumption) ?_
  rotate_left
  ·(intro w hSw; (try dsimp only at hSw); go_simp; try (with_reducible rfl))
  try simp only [Act.put]
  try simp only [List.setIfInBounds_toArray]
  try simp only [List.set_cons_zero, List.set_cons_succ]
  refine tkA 3 24 (v := ?_) rfl rfl (by kernel_rfl) (fun _ _ _ h => h) ?_ (by assumption) ?_
  rotate_left
  ·(intro w hSw; (try dsimp only at hSw); go_simp; try (with_reducible rfl))
  try simp only [Act.put]
  try simp only [List.setIfInBounds_toArray]
  try simp only [List.set_cons_zero, List.set_cons_succ]
  refine tkA 4 25 (v := ?_) rfl rfl (by kernel_rfl) (fun _ _ _ h => h) ?_ (by assumption) ?_
  rotate_left
  ·(intro w hSw; (try dsimp only at hSw); go_simp; try (with_reducible rfl))
  try simp only [Act.put]
  try simp only [List.setIfInBounds_toArray]
  try simp only [List.set_cons_zero, List.set_cons_succ]
  refine tkA 5 26 (v := ?_) rfl rfl (by kernel_rfl) (fun _ _ _ h => h) ?_ (by assumption) ?_
  rotate_left
  ·(intro w hSw; (try dsimp only at hSw); go_simp; try (with_reducible rfl))
  try simp only [Act.put]
  try simp only [List.setIfInBounds_toArray]
  try simp only [List.set_cons_zero, List.set_cons_succ]
  refine tkA 6 27 (v := ?_) rfl rfl (by kernel_rfl) (fun _ _ _ h => h) ?_ (by assumption) ?_
  rotate_left
  ·(intro w hSw; (try dsimp only at hSw); go_simp; try (with_reducible rfl))
  try simp only [Act.put]
  try simp only [List.setIfInBounds_toArray]
  try simp only [List.set_cons_zero, List.set_cons_succ]
  refine tkA 7 28 (v := ?_) rfl rfl (by kernel_rfl) (fun _ _ _ h => h) ?_ (by assumption) ?_
  rotate_left
  ·(intro w hSw; (try dsimp only at hSw); go_simp; try (with_reducible rfl))
  try simp only [Act.put]
  try simp only [List.setIfInBounds_toArray]
  try simp only [List.set_cons_zero, List.set_cons_succ]
  refine tkA 8 29 (v := ?_) rfl rfl (by kernel_rfl) (fun _ _ _ h => h) ?_ (by assumption) ?_
  rotate_left
  ·(intro w hSw; (try dsimp only at hSw); go_simp; try (with_reducible rfl))
  try simp only [Act.put]
  try simp only [List.setIfInBounds_toArray]
  try simp only [List.set_cons_zero, List.set_cons_succ]
  refine tkA 9 30 (v := ?_) rfl rfl (by kernel_rfl) (fun _ _ _ h => h) ?_ (by assumption) ?_
  rotate_left
  ·(intro w hSw; (try dsimp only at hSw); go_simp; try (with_reducible rfl))
  try simp only [Act.put]
  try simp only [List.setIfInBounds_toArray]
  try simp only [List.set_cons_zero, List.set_cons_succ]
  refine tkA 10 31 (v := ?_) rfl rfl (by kernel_rfl) (fun _ _ _ h => h) ?_ (by assumption) ?_
  rotate_left
  ·(intro w hSw; (try dsimp only at hSw); go_simp; try (with_reducible rfl))
  try simp only [Act.put]
  try simp only [List.setIfInBounds_toArray]
  try simp only [List.set_cons_zero, List.set_cons_succ]
  refine tkA 12 33 (v := ?_) rfl rfl (by kernel_rfl) (fun _ _ _ h => h) ?_ (by assumption) ?_
  rotate_left
  ·(intro w hSw; (try dsimp only at hSw); go_simp; try (with_reducible rfl))
  try simp only [Act.put]
  try simp only [List.setIfInBounds_toArray]
  try simp only [List.set_cons_zero, List.set_cons_succ]
  refine tkA 14 35 (v := ?_) rfl rfl (by kernel_rfl) (fun _ _ _ h => h) ?_ (by assumption) ?_
  rotate_left
  ·(intro w hSw; (try dsimp only at hSw); go_simp; try (with_reducible rfl))
  try simp only [Act.put]
  try simp only [List.setIfInBounds_toArray]
  try simp only [List.set_cons_zero, List.set_cons_succ]
  refine wpAnyT_ready (rs := [11, 13, 16]) (by kernel_rfl) (by simp) ?_
  refine AllT.cons (i := 11) rfl (fun K hK => ?_) ?_
  ·(skip)
   refine step_callW (by kernel_rfl) 59 _ _ rfl enters_59 [.int .i64 N, .int .i64 P, .int .i64 c0] (by first | rfl | kernel_rfl | go_simp) (HBG.out wd) ?_
   rintro e wa ⟨lv, vc, vh, vr, rfl, hO, hE⟩
   have hl : (recL (begL N) P c0).length = N := by rw [recL_len, begL_len]
   obtain ⟨lg, lo, lc, rfl, _⟩ := hO.row.shape (by rw [hl]; omega)
   rw [hl] at hO ⊢
   have HO := Lib.hid hO
   have HCE := Lib.hid hE
   have HXa := Lib.hid (HXD.out.trans' hE)
   refine ⟨_, rfl, ?_⟩
   clear hO hE
   refine hK.out _ _ ?_ (fun hHeld => ?_)
   ·(try dsimp only)
    exact ⟨HXa.out.cl HTT.out, HXa.out.cl HR0.out, HXa.out.cl HU0.out⟩
   clear hK K
   try simp only [Act.put]
   try simp only [List.setIfInBounds_toArray]
   try simp only [List.set_cons_zero, List.set_cons_succ]
   have HCB := Lib.hid (Nat.le_trans HX0.out.sz HXD.out.sz)
   refine wpAnyT_ready (rs := [13, 16]) (by kernel_rfl) (by simp) ?_
   refine AllT.cons (i := 13) rfl (fun K hK => ?_) ?_
   ·(skip)
    go_simp
    have HGA : Hid ((wa.alloc (.cells (madeCells #[.int .i64 0] N) 3)).heap[wa.heap.size]? = some (.cells (madeCells #[.int .i64 0] N) 3)) := Lib.hid (heap_alloc_new wa _)
    have HNA : Hid (Ext wa (wa.alloc (.cells (madeCells #[.int .i64 0] N) 3))) := Lib.hid ((Ext.rf wa).al _)
    have HBA : Hid (w1.heap.size ≤ wa.heap.size) := Lib.hid HXa.out.sz
    generalize hga : wa.heap.size = ga at *
    have HLA := Lib.hid (Nat.le_of_eq hga)
    clear hga
    generalize wa.alloc (.cells (madeCells #[.int .i64 0] N) 3) = wb at *
    have HXb := Lib.hid (HXa.out.trans' HNA.out)
    refine hK.out _ _ ?_ (fun hHeld => ?_)
    ·(try dsimp only)
     exact ⟨HXb.out.cl HTT.out, HXb.out.cl HR0.out, HXb.out.cl HU0.out⟩
    clear hK K
    try simp only [Act.put]
    try simp only [List.setIfInBounds_toArray]
    try simp only [List.set_cons_zero, List.set_cons_succ]
    have HDV := Lib.hid (fun i j hi hj => (dis_new (HO.out.cha i hi j hj) (row_made HGA.out (Nat.le_refl ga) (by unfold maxLen; omega)) HLA.out).symm)
    refine tkA 15 36 (v := ?_) rfl rfl (by kernel_rfl) (fun _ _ _ h => h) ?_ (by assumption) ?_
    rotate_left
    ·(intro w hSw; (try dsimp only at hSw); go_simp; try (with_reducible rfl))
    try simp only [Act.put]
    try simp only [List.setIfInBounds_toArray]
    try simp only [List.set_cons_zero, List.set_cons_succ]
    refine wpAnyT_step (i := 16) (by kernel_rfl) rfl (fun K hK => ?_)
    go_simp
    have HGS : Hid ((wb.alloc (.cells #[.slice none 0 0, .slice none 0 0, .slice none 0 0, .slice none 0 0, .int .i64 0] 96)).heap[wb.heap.size]? = some (.cells #[.slice none 0 0, .slice none 0 0, .slice none 0 0, .slice none 0 0, .int .i64 0] 96)) := Lib.hid (heap_alloc_new wb _)
    have HNS : Hid (Ext wb (wb.alloc (.cells #[.slice none 0 0, .slice none 0 0, .slice none 0 0, .slice none 0 0, .int .i64 0] 96))) := Lib.hid ((Ext.rf wb).al _)
    have HBS : Hid (w1.heap.size ≤ wb.heap.size) := Lib.hid HXb.out.sz
    generalize wb.heap.size = gs at *
    generalize wb.alloc (.cells #[.slice none 0 0, .slice none 0 0, .slice none 0 0, .slice none 0 0, .int .i64 0] 96) = wc at *
    have HXc := Lib.hid (HXb.out.trans' HNS.out)
    refine hK.out _ _ ?_ (fun hHeld => ?_)
    ·(try dsimp only)
     exact ⟨HXc.out.cl HTT.out, HXc.out.cl HR0.out, HXc.out.cl HU0.out⟩
    clear hK K
    try simp only [Act.put]
    try simp only [List.setIfInBounds_toArray]
    try simp only [List.set_cons_zero, List.set_cons_succ]
    have HPS := Lib.hid (HGS.out)
    have HPA := Lib.hid (HNS.out.hp HGA.out)
    have HPO := Lib.hid ((HO.out.ext HNA.out).ext HNS.out)
    have HDD : Hid (∀ i j, i < N → j < N → Dis (.slice (some ⟨ga, 0, none⟩) N N) (vr i j)) := Lib.hid (HDV.out)
    have q0 := cellOf HPS.out 0
    have q1 := cellOf HPS.out 1
    have q2 := cellOf HPS.out 2
    have q3 := cellOf HPS.out 3
    have q4 := cellOf HPS.out 4
    have g0 := freeOf HPS.out 0
    have g1 := freeOf HPS.out 1
    have g2 := freeOf HPS.out 2
    have g3 := freeOf HPS.out 3
    have g4 := freeOf HPS.out 4
    simp only [List.getElem?_toArray, List.getElem?_cons_zero, List.getElem?_cons_succ] at q0 q1 q2 q3 q4
    refine wpAnyT_last (by kernel_rfl) rfl (by kernel_rfl) (fun K hK => ?_)
    go_simp
    refine hK.out _ _ ?_
    go_wp2
    go_meet
    exact ⟨gs, ⟨lg, lo, lc, ga, 0, N, N, d, .slice ta N tc, .slice (some ⟨rB, rO, none⟩) R rC, vc, vh⟩, rfl, ⟨rfl, rfl, rfl, rfl⟩, (show BegE _ _ _ _ _ from begE (st5_ext (HX0.out.trans' HXc.out) (Nat.le_trans HX0.out.sz HBS.out) _ _ _ _ _) (l := recL (begL N) P c0) (by rw [recL_len, begL_len]; exact st5_own HPS.out (OwnM.mono HPO.out HCB.out) _ _ _ _ _) (by rw [recL_len, begL_len]) hn2 ((st5_other (st_ne HPA.out HPS.out (by decide)) _ _ _ _ _).trans HPA.out) (Nat.le_trans HX0.out.sz HBA.out) (st5_set HPS.out _ _ _ _ _) HDD.out)⟩
   refine AllT.cons (i := 16) rfl (fun K hK => ?_) AllT.nil
   go_simp
   have HGS : Hid ((wa.alloc (.cells #[.slice none 0 0, .slice none 0 0, .slice none 0 0, .slice none 0 0, .int .i64 0] 96)).heap[wa.heap.size]? = some (.cells #[.slice none 0 0, .slice none 0 0, .slice none 0 0, .slice none 0 0, .int .i64 0] 96)) := Lib.hid (heap_alloc_new wa _)
   have HNS : Hid (Ext wa (wa.alloc (.cells #[.slice none 0 0, .slice none 0 0, .slice none 0 0, .slice none 0 0, .int .i64 0] 96))) := Lib.hid ((Ext.rf wa).al _)
   have HBS : Hid (w1.heap.size ≤ wa.heap.size) := Lib.hid HXa.out.sz
   generalize wa.heap.size = gs at *
   generalize wa.alloc (.cells #[.slice none 0 0, .slice none 0 0, .slice none 0 0, .slice none 0 0, .int .i64 0] 96) = wb at *
   have HXb := Lib.hid (HXa.out.trans' HNS.out)
   refine hK.out _ _ ?_ (fun hHeld => ?_)
   ·(try dsimp only)
    exact ⟨HXb.out.cl HTT.out, HXb.out.cl HR0.out, HXb.out.cl HU0.out⟩
   clear hK K
   try simp only [Act.put]
   try simp only [List.setIfInBounds_toArray]
   try simp only [List.set_cons_zero, List.set_cons_succ]
   refine wpAnyT_step (i := 13) (by kernel_rfl) rfl (fun K hK => ?_)
   go_simp
   have HGA : Hid ((wb.alloc (.cells (madeCells #[.int .i64 0] N) 3)).heap[wb.heap.size]? = some (.cells (madeCells #[.int .i64 0] N) 3)) := Lib.hid (heap_alloc_new wb _)
   have HNA : Hid (Ext wb (wb.alloc (.cells (madeCells #[.int .i64 0] N) 3))) := Lib.hid ((Ext.rf wb).al _)
   have HBA : Hid (w1.heap.size ≤ wb.heap.size) := Lib.hid HXb.out.sz
   generalize hga : wb.heap.size = ga at *
   have HLA := Lib.hid (Nat.le_of_eq hga)
   clear hga
   generalize wb.alloc (.cells (madeCells #[.int .i64 0] N) 3) = wc at *
   have HXc := Lib.hid (HXb.out.trans' HNA.out)
   refine hK.out _ _ ?_ (fun hHeld => ?_)
   ·(try dsimp only)
    exact ⟨HXc.out.cl HTT.out, HXc.out.cl HR0.out, HXc.out.cl HU0.out⟩
   clear hK K
   try simp only [Act.put]
   try simp only [List.setIfInBounds_toArray]
   try simp only [List.set_cons_zero, List.set_cons_succ]
   have HDV := Lib.hid (fun i j hi hj => (dis_new ((HO.out.cha i hi j hj).ext HNS.out) (row_made HGA.out (Nat.le_refl ga) (by unfold maxLen; omega)) HLA.out).symm)
   refine tkA 15 36 (v := ?_) rfl rfl (by kernel_rfl) (fun _ _ _ h => h) ?_ (by assumption) ?_
   rotate_left
   ·(intro w hSw; (try dsimp only at hSw); go_simp; try (with_reducible rfl))
   try simp only [Act.put]
   try simp only [List.setIfInBounds_toArray]
   try simp only [List.set_cons_zero, List.set_cons_succ]
   have HPS := Lib.hid (HNA.out.hp HGS.out)
   have HPA := Lib.hid (HGA.out)
   have HPO := Lib.hid ((HO.out.ext HNS.out).ext HNA.out)
   have HDD : Hid (∀ i j, i < N → j < N → Dis (.slice (some ⟨ga, 0, none⟩) N N) (vr i j)) := Lib.hid (HDV.out)
   have q0 := cellOf HPS.out 0
   have q1 := cellOf HPS.out 1
   have q2 := cellOf HPS.out 2
   have q3 := cellOf HPS.out 3
   have q4 := cellOf HPS.out 4
   have g0 := freeOf HPS.out 0
   have g1 := freeOf HPS.out 1
   have g2 := freeOf HPS.out 2
   have g3 := freeOf HPS.out 3
   have g4 := freeOf HPS.out 4
   simp only [List.getElem?_toArray, List.getElem?_cons_zero, List.getElem?_cons_succ] at q0 q1 q2 q3 q4
   refine wpAnyT_last (by kernel_rfl) rfl (by kernel_rfl) (fun K hK => ?_)
   go_simp
   refine hK.out _ _ ?_
   go_wp2
   go_meet
   exact ⟨gs, ⟨lg, lo, lc, ga, 0, N, N, d, .slice ta N tc, .slice (some ⟨rB, rO, none⟩) R rC, vc, vh⟩, rfl, ⟨rfl, rfl, rfl, rfl⟩, (show BegE _ _ _ _ _ from begE (st5_ext (HX0.out.trans' HXc.out) (Nat.le_trans HX0.out.sz HBS.out) _ _ _ _ _) (l := recL (begL N) P c0) (by rw [recL_len, begL_len]; exact st5_own HPS.out (OwnM.mono HPO.out HCB.out) _ _ _ _ _) (by rw [recL_len, begL_len]) hn2 ((st5_other (st_ne HPA.out HPS.out (by decide)) _ _ _ _ _).trans HPA.out) (Nat.le_trans HX0.out.sz HBA.out) (st5_set HPS.out _ _ _ _ _) HDD.out)⟩
  refine AllT.cons (i := 13) rfl (fun K hK => ?_) ?_
  ·(skip)
   go_simp
   have HGA : Hid ((wd.alloc (.cells (madeCells #[.int .i64 0] N) 3)).heap[wd.heap.size]? = some (.cells (madeCells #[.int .i64 0] N) 3)) := Lib.hid (heap_alloc_new wd _)
   have HNA : Hid (Ext wd (wd.alloc (.cells (madeCells #[.int .i64 0] N) 3))) := Lib.hid ((Ext.rf wd).al _)
   have HBA : Hid (w1.heap.size ≤ wd.heap.size) := Lib.hid HXD.out.sz
   generalize hga : wd.heap.size = ga at *
   have HLA := Lib.hid (Nat.le_of_eq hga)
   clear hga
   generalize wd.alloc (.cells (madeCells #[.int .i64 0] N) 3) = wa at *
   have HXa := Lib.hid (HXD.out.trans' HNA.out)
   refine hK.out _ _ ?_ (fun hHeld => ?_)
   ·(try dsimp only)
    exact ⟨HXa.out.cl HTT.out, HXa.out.cl HR0.out, HXa.out.cl HU0.out⟩
   clear hK K
   try simp only [Act.put]
   try simp only [List.setIfInBounds_toArray]
   try simp only [List.set_cons_zero, List.set_cons_succ]
   refine wpAnyT_ready (rs := [11, 16]) (by kernel_rfl) (by simp) ?_
   refine AllT.cons (i := 11) rfl (fun K hK => ?_) ?_
   ·(skip)
    refine step_callW (by kernel_rfl) 59 _ _ rfl enters_59 [.int .i64 N, .int .i64 P, .int .i64 c0] (by first | rfl | kernel_rfl | go_simp) (HBG.out wa) ?_
    rintro e wb ⟨lv, vc, vh, vr, rfl, hO, hE⟩
    have hl : (recL (begL N) P c0).length = N := by rw [recL_len, begL_len]
    obtain ⟨lg, lo, lc, rfl, _⟩ := hO.row.shape (by rw [hl]; omega)
    rw [hl] at hO ⊢
    have HO := Lib.hid hO
    have HCE := Lib.hid hE
    have HXb := Lib.hid (HXa.out.trans' hE)
    refine ⟨_, rfl, ?_⟩
    clear hO hE
    refine hK.out _ _ ?_ (fun hHeld => ?_)
    ·(try dsimp only)
     exact ⟨HXb.out.cl HTT.out, HXb.out.cl HR0.out, HXb.out.cl HU0.out⟩
    clear hK K
    try simp only [Act.put]
    try simp only [List.setIfInBounds_toArray]
    try simp only [List.set_cons_zero, List.set_cons_succ]
    have HCB := Lib.hid (Nat.le_trans HX0.out.sz HXa.out.sz)
    have HDV := Lib.hid (fun i j hi hj => dis_new (row_made HGA.out (Nat.le_refl ga) (by unfold maxLen; omega)) (HO.out.cha i hi j hj) (Nat.le_refl _))
    refine tkA 15 36 (v := ?_) rfl rfl (by kernel_rfl) (fun _ _ _ h => h) ?_ (by assumption) ?_
    rotate_left
    ·(intro w hSw; (try dsimp only at hSw); go_simp; try (with_reducible rfl))
    try simp only [Act.put]
    try simp only [List.setIfInBounds_toArray]
    try simp only [List.set_cons_zero, List.set_cons_succ]
    refine wpAnyT_step (i := 16) (by kernel_rfl) rfl (fun K hK => ?_)
    go_simp
    have HGS : Hid ((wb.alloc (.cells #[.slice none 0 0, .slice none 0 0, .slice none 0 0, .slice none 0 0, .int .i64 0] 96)).heap[wb.heap.size]? = some (.cells #[.slice none 0 0, .slice none 0 0, .slice none 0 0, .slice none 0 0, .int .i64 0] 96)) := Lib.hid (heap_alloc_new wb _)
    have HNS : Hid (Ext wb (wb.alloc (.cells #[.slice none 0 0, .slice none 0 0, .slice none 0 0, .slice none 0 0, .int .i64 0] 96))) := Lib.hid ((Ext.rf wb).al _)
    have HBS : Hid (w1.heap.size ≤ wb.heap.size) := Lib.hid HXb.out.sz
    generalize wb.heap.size = gs at *
    generalize wb.alloc (.cells #[.slice none 0 0, .slice none 0 0, .slice none 0 0, .slice none 0 0, .int .i64 0] 96) = wc at *
    have HXc := Lib.hid (HXb.out.trans' HNS.out)
    refine hK.out _ _ ?_ (fun hHeld => ?_)
    ·(try dsimp only)
     exact ⟨HXc.out.cl HTT.out, HXc.out.cl HR0.out, HXc.out.cl HU0.out⟩
    clear hK K
    try simp only [Act.put]
    try simp only [List.setIfInBounds_toArray]
    try simp only [List.set_cons_zero, List.set_cons_succ]
    have HPS := Lib.hid (HGS.out)
    have HPA := Lib.hid (HNS.out.hp (HCE.out.hp HGA.out))
    have HPO := Lib.hid (HO.out.ext HNS.out)
    have HDD : Hid (∀ i j, i < N → j < N → Dis (.slice (some ⟨ga, 0, none⟩) N N) (vr i j)) := Lib.hid (HDV.out)
    have q0 := cellOf HPS.out 0
    have q1 := cellOf HPS.out 1
    have q2 := cellOf HPS.out 2
    have q3 := cellOf HPS.out 3
    have q4 := cellOf HPS.out 4
    have g0 := freeOf HPS.out 0
    have g1 := freeOf HPS.out 1
    have g2 := freeOf HPS.out 2
    have g3 := freeOf HPS.out 3
    have g4 := freeOf HPS.out 4
    simp only [List.getElem?_toArray, List.getElem?_cons_zero, List.getElem?_cons_succ] at q0 q1 q2 q3 q4
    refine wpAnyT_last (by kernel_rfl) rfl (by kernel_rfl) (fun K hK => ?_)
    go_simp
    refine hK.out _ _ ?_
    go_wp2
    go_meet
    exact ⟨gs, ⟨lg, lo, lc, ga, 0, N, N, d, .slice ta N tc, .slice (some ⟨rB, rO, none⟩) R rC, vc, vh⟩, rfl, ⟨rfl, rfl, rfl, rfl⟩, (show BegE _ _ _ _ _ from begE (st5_ext (HX0.out.trans' HXc.out) (Nat.le_trans HX0.out.sz HBS.out) _ _ _ _ _) (l := recL (begL N) P c0) (by rw [recL_len, begL_len]; exact st5_own HPS.out (OwnM.mono HPO.out HCB.out) _ _ _ _ _) (by rw [recL_len, begL_len]) hn2 ((st5_other (st_ne HPA.out HPS.out (by decide)) _ _ _ _ _).trans HPA.out) (Nat.le_trans HX0.out.sz HBA.out) (st5_set HPS.out _ _ _ _ _) HDD.out)⟩
   refine AllT.cons (i := 16) rfl (fun K hK => ?_) AllT.nil
   go_simp
   have HGS : Hid ((wa.alloc (.cells #[.slice none 0 0, .slice none 0 0, .slice none 0 0, .slice none 0 0, .int .i64 0] 96)).heap[wa.heap.size]? = some (.cells #[.slice none 0 0, .slice none 0 0, .slice none 0 0, .slice none 0 0, .int .i64 0] 96)) := Lib.hid (heap_alloc_new wa _)
   have HNS : Hid (Ext wa (wa.alloc (.cells #[.slice none 0 0, .slice none 0 0, .slice none 0 0, .slice none 0 0, .int .i64 0] 96))) := Lib.hid ((Ext.rf wa).al _)
   have HBS : Hid (w1.heap.size ≤ wa.heap.size) := Lib.hid HXa.out.sz
   generalize wa.heap.size = gs at *
   generalize wa.alloc (.cells #[.slice none 0 0, .slice none 0 0, .slice none 0 0, .slice none 0 0, .int .i64 0] 96) = wb at *
   have HXb := Lib.hid (HXa.out.trans' HNS.out)
   refine hK.out _ _ ?_ (fun hHeld => ?_)
   ·(try dsimp only)
    exact ⟨HXb.out.cl HTT.out, HXb.out.cl HR0.out, HXb.out.cl HU0.out⟩
   clear hK K
   try simp only [Act.put]
   try simp only [List.setIfInBounds_toArray]
   try simp only [List.set_cons_zero, List.set_cons_succ]
   refine wpAnyT_step (i := 11) (by kernel_rfl) rfl (fun K hK => ?_)
   refine step_callW (by kernel_rfl) 59 _ _ rfl enters_59 [.int .i64 N, .int .i64 P, .int .i64 c0] (by first | rfl | kernel_rfl | go_simp) (HBG.out wb) ?_
   rintro e wc ⟨lv, vc, vh, vr, rfl, hO, hE⟩
   have hl : (recL (begL N) P c0).length = N := by rw [recL_len, begL_len]
   obtain ⟨lg, lo, lc, rfl, _⟩ := hO.row.shape (by rw [hl]; omega)
   rw [hl] at hO ⊢
   have HO := Lib.hid hO
   have HCE := Lib.hid hE
   have HXc := Lib.hid (HXb.out.trans' hE)
   refine ⟨_, rfl, ?_⟩
   clear hO hE
   refine hK.out _ _ ?_ (fun hHeld => ?_)
   ·(try dsimp only)
    exact ⟨HXc.out.cl HTT.out, HXc.out.cl HR0.out, HXc.out.cl HU0.out⟩
   clear hK K
   try simp only [Act.put]
   try simp only [List.setIfInBounds_toArray]
   try simp only [List.set_cons_zero, List.set_cons_succ]
   have HCB := Lib.hid (Nat.le_trans HX0.out.sz HXb.out.sz)
   have HDV := Lib.hid (fun i j hi hj => dis_new (row_made (HNS.out.hp HGA.out) (Nat.le_refl ga) (by unfold maxLen; omega)) (HO.out.cha i hi j hj) (Nat.le_refl _))
   refine tkA 15 36 (v := ?_) rfl rfl (by kernel_rfl) (fun _ _ _ h => h) ?_ (by assumption) ?_
   rotate_left
   ·(intro w hSw; (try dsimp only at hSw); go_simp; try (with_reducible rfl))
   try simp only [Act.put]
   try simp only [List.setIfInBounds_toArray]
   try simp only [List.set_cons_zero, List.set_cons_succ]
   have HPS := Lib.hid (HCE.out.hp HGS.out)
   have HPA := Lib.hid (HCE.out.hp (HNS.out.hp HGA.out))
   have HPO := Lib.hid (HO.out)
   have HDD : Hid (∀ i j, i < N → j < N → Dis (.slice (some ⟨ga, 0, none⟩) N N) (vr i j)) := Lib.hid (HDV.out)
   have q0 := cellOf HPS.out 0
   have q1 := cellOf HPS.out 1
   have q2 := cellOf HPS.out 2
   have q3 := cellOf HPS.out 3
   have q4 := cellOf HPS.out 4
   have g0 := freeOf HPS.out 0
   have g1 := freeOf HPS.out 1
   have g2 := freeOf HPS.out 2
   have g3 := freeOf HPS.out 3
   have g4 := freeOf HPS.out 4
   simp only [List.getElem?_toArray, List.getElem?_cons_zero, List.getElem?_cons_succ] at q0 q1 q2 q3 q4
   refine wpAnyT_last (by kernel_rfl) rfl (by kernel_rfl) (fun K hK => ?_)
   go_simp
   refine hK.out _ _ ?_
   go_wp2
   go_meet
   exact ⟨gs, ⟨lg, lo, lc, ga, 0, N, N, d, .slice ta N tc, .slice (some ⟨rB, rO, none⟩) R rC, vc, vh⟩, rfl, ⟨rfl, rfl, rfl, rfl⟩, (show BegE _ _ _ _ _ from begE (st5_ext (HX0.out.trans' HXc.out) (Nat.le_trans HX0.out.sz HBS.out) _ _ _ _ _) (l := recL (begL N) P c0) (by rw [recL_len, begL_len]; exact st5_own HPS.out (OwnM.mono HPO.out HCB.out) _ _ _ _ _) (by rw [recL_len, begL_len]) hn2 ((st5_other (st_ne HPA.out HPS.out (by decide)) _ _ _ _ _).trans HPA.out) (Nat.le_trans HX0.out.sz HBA.out) (st5_set HPS.out _ _ _ _ _) HDD.out)⟩
  refine AllT.cons (i := 16) rfl (fun K hK => ?_) AllT.nil
  go_simp
  have HGS : Hid ((wd.alloc (.cells #[.slice none 0 0, .slice none 0 0, .slice none 0 0, .slice none 0 0, .int .i64 0] 96)).heap[wd.heap.size]? = some (.cells #[.slice none 0 0, .slice none 0 0, .slice none 0 0, .slice none 0 0, .int .i64 0] 96)) := Lib.hid (heap_alloc_new wd _)
  have HNS : Hid (Ext wd (wd.alloc (.cells #[.slice none 0 0, .slice none 0 0, .slice none 0 0, .slice none 0 0, .int .i64 0] 96))) := Lib.hid ((Ext.rf wd).al _)
  have HBS : Hid (w1.heap.size ≤ wd.heap.size) := Lib.hid HXD.out.sz
  generalize wd.heap.size = gs at *
  generalize wd.alloc (.cells #[.slice none 0 0, .slice none 0 0, .slice none 0 0, .slice none 0 0, .int .i64 0] 96) = wa at *
  have HXa := Lib.hid (HXD.out.trans' HNS.out)
  refine hK.out _ _ ?_ (fun hHeld => ?_)
  ·(try dsimp only)
   exact ⟨HXa.out.cl HTT.out, HXa.out.cl HR0.out, HXa.out.cl HU0.out⟩
  clear hK K
  try simp only [Act.put]
  try simp only [List.setIfInBounds_toArray]
  try simp only [List.set_cons_zero, List.set_cons_succ]
  refine wpAnyT_ready (rs := [11, 13]) (by kernel_rfl) (by simp) ?_
  refine AllT.cons (i := 11) rfl (fun K hK => ?_) ?_
  ·(skip)
   refine step_callW (by kernel_rfl) 59 _ _ rfl enters_59 [.int .i64 N, .int .i64 P, .int .i64 c0] (by first | rfl | kernel_rfl | go_simp) (HBG.out wa) ?_
   rintro e wb ⟨lv, vc, vh, vr, rfl, hO, hE⟩
   have hl : (recL (begL N) P c0).length = N := by rw [recL_len, begL_len]
   obtain ⟨lg, lo, lc, rfl, _⟩ := hO.row.shape (by rw [hl]; omega)
   rw [hl] at hO ⊢
   have HO := Lib.hid hO
   have HCE := Lib.hid hE
   have HXb := Lib.hid (HXa.out.trans' hE)
   refine ⟨_, rfl, ?_⟩
   clear hO hE
   refine hK.out _ _ ?_ (fun hHeld => ?_)
   ·(try dsimp only)
    exact ⟨HXb.out.cl HTT.out, HXb.out.cl HR0.out, HXb.out.cl HU0.out⟩
   clear hK K
   try simp only [Act.put]
   try simp only [List.setIfInBounds_toArray]
   try simp only [List.set_cons_zero, List.set_cons_succ]
   have HCB := Lib.hid (Nat.le_trans HX0.out.sz HXa.out.sz)
   refine wpAnyT_step (i := 13) (by kernel_rfl) rfl (fun K hK => ?_)
   go_simp
   have HGA : Hid ((wb.alloc (.cells (madeCells #[.int .i64 0] N) 3)).heap[wb.heap.size]? = some (.cells (madeCells #[.int .i64 0] N) 3)) := Lib.hid (heap_alloc_new wb _)
   have HNA : Hid (Ext wb (wb.alloc (.cells (madeCells #[.int .i64 0] N) 3))) := Lib.hid ((Ext.rf wb).al _)
   have HBA : Hid (w1.heap.size ≤ wb.heap.size) := Lib.hid HXb.out.sz
   generalize hga : wb.heap.size = ga at *
   have HLA := Lib.hid (Nat.le_of_eq hga)
   clear hga
   generalize wb.alloc (.cells (madeCells #[.int .i64 0] N) 3) = wc at *
   have HXc := Lib.hid (HXb.out.trans' HNA.out)
   refine hK.out _ _ ?_ (fun hHeld => ?_)
   ·(try dsimp only)
    exact ⟨HXc.out.cl HTT.out, HXc.out.cl HR0.out, HXc.out.cl HU0.out⟩
   clear hK K
   try simp only [Act.put]
   try simp only [List.setIfInBounds_toArray]
   try simp only [List.set_cons_zero, List.set_cons_succ]
   have HDV := Lib.hid (fun i j hi hj => (dis_new (HO.out.cha i hi j hj) (row_made HGA.out (Nat.le_refl ga) (by unfold maxLen; omega)) HLA.out).symm)
   refine tkA 15 36 (v := ?_) rfl rfl (by kernel_rfl) (fun _ _ _ h => h) ?_ (by assumption) ?_
   rotate_left
   ·(intro w hSw; (try dsimp only at hSw); go_simp; try (with_reducible rfl))
   try simp only [Act.put]
   try simp only [List.setIfInBounds_toArray]
   try simp only [List.set_cons_zero, List.set_cons_succ]
   have HPS := Lib.hid (HNA.out.hp (HCE.out.hp HGS.out))
   have HPA := Lib.hid (HGA.out)
   have HPO := Lib.hid (HO.out.ext HNA.out)
   have HDD : Hid (∀ i j, i < N → j < N → Dis (.slice (some ⟨ga, 0, none⟩) N N) (vr i j)) := Lib.hid (HDV.out)
   have q0 := cellOf HPS.out 0
   have q1 := cellOf HPS.out 1
   have q2 := cellOf HPS.out 2
   have q3 := cellOf HPS.out 3
   have q4 := cellOf HPS.out 4
   have g0 := freeOf HPS.out 0
   have g1 := freeOf HPS.out 1
   have g2 := freeOf HPS.out 2
   have g3 := freeOf HPS.out 3
   have g4 := freeOf HPS.out 4
   simp only [List.getElem?_toArray, List.getElem?_cons_zero, List.getElem?_cons_succ] at q0 q1 q2 q3 q4
   refine wpAnyT_last (by kernel_rfl) rfl (by kernel_rfl) (fun K hK => ?_)
   go_simp
   refine hK.out _ _ ?_
   go_wp2
   go_meet
   exact ⟨gs, ⟨lg, lo, lc, ga, 0, N, N, d, .slice ta N tc, .slice (some ⟨rB, rO, none⟩) R rC, vc, vh⟩, rfl, ⟨rfl, rfl, rfl, rfl⟩, (show BegE _ _ _ _ _ from begE (st5_ext (HX0.out.trans' HXc.out) (Nat.le_trans HX0.out.sz HBS.out) _ _ _ _ _) (l := recL (begL N) P c0) (by rw [recL_len, begL_len]; exact st5_own HPS.out (OwnM.mono HPO.out HCB.out) _ _ _ _ _) (by rw [recL_len, begL_len]) hn2 ((st5_other (st_ne HPA.out HPS.out (by decide)) _ _ _ _ _).trans HPA.out) (Nat.le_trans HX0.out.sz HBA.out) (st5_set HPS.out _ _ _ _ _) HDD.out)⟩
  refine AllT.cons (i := 13) rfl (fun K hK => ?_) AllT.nil
  go_simp
  have HGA : Hid ((wa.alloc (.cells (madeCells #[.int .i64 0] N) 3)).heap[wa.heap.size]? = some (.cells (madeCells #[.int .i64 0] N) 3)) := Lib.hid (heap_alloc_new wa _)
  have HNA : Hid (Ext wa (wa.alloc (.cells (madeCells #[.int .i64 0] N) 3))) := Lib.hid ((Ext.rf wa).al _)
  have HBA : Hid (w1.heap.size ≤ wa.heap.size) := Lib.hid HXa.out.sz
  generalize hga : wa.heap.size = ga at *
  have HLA := Lib.hid (Nat.le_of_eq hga)
  clear hga
  generalize wa.alloc (.cells (madeCells #[.int .i64 0] N) 3) = wb at *
  have HXb := Lib.hid (HXa.out.trans' HNA.out)
  refine hK.out _ _ ?_ (fun hHeld => ?_)
  ·(try dsimp only)
   exact ⟨HXb.out.cl HTT.out, HXb.out.cl HR0.out, HXb.out.cl HU0.out⟩
  clear hK K
  try simp only [Act.put]
  try simp only [List.setIfInBounds_toArray]
  try simp only [List.set_cons_zero, List.set_cons_succ]
  refine wpAnyT_step (i := 11) (by kernel_rfl) rfl (fun K hK => ?_)
  refine step_callW (by kernel_rfl) 59 _ _ rfl enters_59 [.int .i64 N, .int .i64 P, .int .i64 c0] (by first | rfl | kernel_rfl | go_simp) (HBG.out wb) ?_
  rintro e wc ⟨lv, vc, vh, vr, rfl, hO, hE⟩
  have hl : (recL (begL N) P c0).length = N := by rw [recL_len, begL_len]
  obtain ⟨lg, lo, lc, rfl, _⟩ := hO.row.shape (by rw [hl]; omega)
  rw [hl] at hO ⊢
  have HO := Lib.hid hO
  have HCE := Lib.hid hE
  have HXc := Lib.hid (HXb.out.trans' hE)
  refine ⟨_, rfl, ?_⟩
  clear hO hE
  refine hK.out _ _ ?_ (fun hHeld => ?_)
  ·(try dsimp only)
   exact ⟨HXc.out.cl HTT.out, HXc.out.cl HR0.out, HXc.out.cl HU0.out⟩
  clear hK K
  try simp only [Act.put]
  try simp only [List.setIfInBounds_toArray]
  try simp only [List.set_cons_zero, List.set_cons_succ]
  have HCB := Lib.hid (Nat.le_trans HX0.out.sz HXb.out.sz)
  have HDV := Lib.hid (fun i j hi hj => dis_new (row_made HGA.out (Nat.le_refl ga) (by unfold maxLen; omega)) (HO.out.cha i hi j hj) (Nat.le_refl _))
  refine tkA 15 36 (v := ?_) rfl rfl (by kernel_rfl) (fun _ _ _ h => h) ?_ (by assumption) ?_
  rotate_left
  ·(intro w hSw; (try dsimp only at hSw); go_simp; try (with_reducible rfl))
  try simp only [Act.put]
  try simp only [List.setIfInBounds_toArray]
  try simp only [List.set_cons_zero, List.set_cons_succ]
  have HPS := Lib.hid (HCE.out.hp (HNA.out.hp HGS.out))
  have HPA := Lib.hid (HCE.out.hp HGA.out)
  have HPO := Lib.hid (HO.out)
  have HDD : Hid (∀ i j, i < N → j < N → Dis (.slice (some ⟨ga, 0, none⟩) N N) (vr i j)) := Lib.hid (HDV.out)
  have q0 := cellOf HPS.out 0
  have q1 := cellOf HPS.out 1
  have q2 := cellOf HPS.out 2
  have q3 := cellOf HPS.out 3
  have q4 := cellOf HPS.out 4
  have g0 := freeOf HPS.out 0
  have g1 := freeOf HPS.out 1
  have g2 := freeOf HPS.out 2
  have g3 := freeOf HPS.out 3
  have g4 := freeOf HPS.out 4
  simp only [List.getElem?_toArray, List.getElem?_cons_zero, List.getElem?_cons_succ] at q0 q1 q2 q3 q4
  refine wpAnyT_last (by kernel_rfl) rfl (by kernel_rfl) (fun K hK => ?_)
  go_simp
  refine hK.out _ _ ?_
  go_wp2
  go_meet
  exact ⟨gs, ⟨lg, lo, lc, ga, 0, N, N, d, .slice ta N tc, .slice (some ⟨rB, rO, none⟩) R rC, vc, vh⟩, rfl, ⟨rfl, rfl, rfl, rfl⟩, (show BegE _ _ _ _ _ from begE (st5_ext (HX0.out.trans' HXc.out) (Nat.le_trans HX0.out.sz HBS.out) _ _ _ _ _) (l := recL (begL N) P c0) (by rw [recL_len, begL_len]; exact st5_own HPS.out (OwnM.mono HPO.out HCB.out) _ _ _ _ _) (by rw [recL_len, begL_len]) hn2 ((st5_other (st_ne HPA.out HPS.out (by decide)) _ _ _ _ _).trans HPA.out) (Nat.le_trans HX0.out.sz HBA.out) (st5_set HPS.out _ _ _ _ _) HDD.out)⟩
 case rest =>
  obtain ⟨sb, V, rfl, HVV, HBE⟩ := hcut
  obtain ⟨w5, rfl⟩ : ∃ z, z = wc := ⟨_, rfl⟩
  obtain ⟨hvn, hvd, hvt, hvr⟩ := HVV.out
  subst hvn
  subst hvd
  have HVT := Lib.hid hvt
  have HVR := Lib.hid hvr
  obtain ⟨L, hL⟩ : ∃ L, R = L + 1 := ⟨R - 1, by omega⟩
  have HL := Lib.hid hL
  clear hL
  have HG : Hid (RefG w V t r) := Lib.hid ⟨by have h := HT.out; rw [HNE.out] at h; rw [HVT.out]; exact h, by rw [HVR.out, ← HRE.out]; exact HRV.out, HV.out, HRI.out, HNE.out, hn2, hd.1, by omega⟩
  obtain ⟨hbx, vr, hR⟩ := HBE.out
  have HBX := Lib.hid hbx
  have b3 := cellOf hbx 3
  simp only [List.getElem?_toArray, List.getElem?_cons_zero, List.getElem?_cons_succ] at b3
  obtain ⟨av0, ha0⟩ : ∃ u, ((List.replicate V.n (0 : Int)).map (Value.int .i64))[P]? = some u := ⟨_, List.getElem?_eq_getElem (by simpa using hp)⟩
  have a0 := hR.atr.cell P (by omega)
  simp only at a0
  rw [ha0] at a0
  have fa := hR.atr.free (V.oa + P)
  have HR2 := Lib.hid (hR.setA hp A0)
  have HB2 := Lib.hid ((hR.keepA (V.oa + P) (.int .i64 A0)).2 _ _ _ _ hbx (by decide) (by decide) (by decide) (by decide) (by decide))
  have HIB := Lib.hid (beg_rec (t := t) HRI.out (p := P) (a := A0) (by rw [HNE.out]; exact hp) (by rw [HRE.out]; exact ha))
  clear hvt hvr hbx hR ha0 HMA hmk
  go_upto_region 4 with (fail)
  generalize w5.setCell ⟨V.ga, V.oa + P, none⟩ (.int .i64 A0) = w6 at *
  have HS6 : Hid (RefS w w6 V t (aRec r ⟨begL V.n, List.replicate V.n 0⟩ P A0) 0) := Lib.hid ⟨⟨vr, by
   have h := HR2.out
   unfold aRec
   rw [HC0.out]
   exact h⟩, by have h := HIB.out; rw [HNE.out] at h; exact h⟩
  obtain ⟨AS, hAS⟩ : ∃ A, aRec r ⟨begL V.n, List.replicate V.n 0⟩ P A0 = A := ⟨_, rfl⟩
  have HAS := Lib.hid hAS
  rw [hAS] at HS6
  clear b3 a0 fa hAS HIB HR2 HBX HBE
  go_wp2
  go_loopg [13] R (fun g s13 wr => ∃ (i : Nat) (A : Sn), A0 ≤ i ∧ i ≤ R ∧ R - i ≤ g ∧ s13 = .int .i64 i ∧ Aside (RefS w wr V t A i) ∧ Aside (wr.heap[sb]? = some (.cells #[V.tv, V.rv, V.lv, V.av, .int .i64 V.d] 96)) ∧ Aside (aRun t r V.d (R - i) i A = aRun t r V.d (R - A0) A0 AS))
  case atStart => exact ⟨A0, AS, Nat.le_refl _, by omega, by omega, rfl, (show RefS _ _ _ _ _ _ from ⟨HS6.out.1, HS6.out.2.more (Nat.zero_le _)⟩), (show _ = _ from HB2.out), (show aRun _ _ _ _ _ _ = _ from rfl)⟩
  case round =>
   obtain ⟨i, A, hai, hiR, hgi, rfl, HSA, HBA, HRU⟩ := hrel
   clear HS6 HB2
   by_cases hlt : i < R
   case pos =>
    have hiz : (i : Int) < (R : Int) := by omega
    have hiz0 : (0 : Int) ≤ (i : Int) := by omega
    have HIR := Lib.hid (show i < r.length by rw [HRE.out]; exact hlt)
    have HAL := Lib.hid (arriveR_calls w wr V t r A i i HG.out HSA.out HIR.out)
    have b0 := cellOf HBA.out 0
    have b1 := cellOf HBA.out 1
    have b2 := cellOf HBA.out 2
    have b3 := cellOf HBA.out 3
    have b4 := cellOf HBA.out 4
    simp only [List.getElem?_toArray, List.getElem?_cons_zero, List.getElem?_cons_succ] at b0 b1 b2 b3 b4
    go_wp2_with fail
    refine HAL.out.mono ?_
    rintro e w7 ⟨rfl, hK7, hS7⟩
    have HS7 := Lib.hid hS7
    have HB7 := Lib.hid (hK7.2 _ _ _ _ HBA.out (by decide) (by decide) (by decide) (by decide) (by decide))
    clear b0 b1 b2 b3 b4 hK7 hS7 HAL HSA HBA
    generalize hB : aAll' t r V.d i A = B at *
    have HB := Lib.hid hB
    clear hB
    have hw : IntKind.i64.wrap ((i : Int) + 1) = ((i + 1 : Nat) : Int) := by rw [IntWalk.i64_in _ (by omega)]; rfl
    by_cases hlast : i + 1 < R
    case pos =>
     have hq : ((i + 1 : Nat) : Int) < (R : Int) := by omega
     have HEV := Lib.hid (eventR_calls w w7 V t r B i i HG.out HRB.out HS7.out (by rw [HRE.out]; exact hlast) (by omega))
     have HRN : Hid (aRun t r V.d (R - i) i A = aRun t r V.d (R - (i + 1)) (i + 1) (aEvent t r V.d B i)) := Lib.hid (by
      rw [show R - i = (R - (i + 1)) + 1 by omega, aRun_next (by rw [HRE.out]; omega), HB.out])
     have b0 := cellOf HB7.out 0
     have b1 := cellOf HB7.out 1
     have b2 := cellOf HB7.out 2
     have b3 := cellOf HB7.out 3
     have b4 := cellOf HB7.out 4
     simp only [List.getElem?_toArray, List.getElem?_cons_zero, List.getElem?_cons_succ] at b0 b1 b2 b3 b4
     go_wp2_with fail
     refine HEV.out.mono ?_
     rintro e w8 ⟨rfl, hK8, hS8⟩
     have HS8 := Lib.hid hS8
     have HB8 := Lib.hid (hK8.2 _ _ _ _ HB7.out (by decide) (by decide) (by decide) (by decide) (by decide))
     clear b0 b1 b2 b3 b4 hK8 hS8 HEV hq
     go_wp2
     go_roundg (R - (i + 1))
     case measure => omega
     case rel => exact ⟨i + 1, _, by omega, by omega, Nat.le_refl _, by first | rfl | go_num, (show RefS _ _ _ _ _ _ from HS8.out), (show _ = _ from HB8.out), (show aRun _ _ _ _ _ _ = _ from by rw [← HRU.out, HRN.out])⟩
    case neg =>
     have hq : ¬ ((i + 1 : Nat) : Int) < (R : Int) := by omega
     have HRN : Hid (aRun t r V.d (R - i) i A = aRun t r V.d (R - (i + 1)) (i + 1) B) := Lib.hid (by
      rw [show R - (i + 1) = 0 by omega, show R - i = 0 + 1 by omega, aRun_last (by rw [HRE.out]; omega), HB.out]; rfl)
     go_wp2
     go_roundg (R - (i + 1))
     case measure => omega
     case rel => exact ⟨i + 1, B, by omega, by omega, Nat.le_refl _, by first | rfl | go_num, (show RefS _ _ _ _ _ _ from ⟨HS7.out.1, HS7.out.2.more (by omega)⟩), (show _ = _ from HB7.out), (show aRun _ _ _ _ _ _ = _ from by rw [← HRU.out, HRN.out])⟩
   case neg =>
    have hiz : ¬ (i : Int) < (R : Int) := by omega
    have HIE := Lib.hid (show i = R by omega)
    have HIR9 := Lib.hid (show i ≤ R by omega)
    have HRA : Hid (aRun t r V.d (R - A0) A0 AS = A) := Lib.hid (by rw [← HRU.out, HIE.out, Nat.sub_self]; rfl)
    have hw2 : IntKind.i64.wrap ((R : Int) - 1) = (L : Int) := by have h2 := HL.out; rw [IntWalk.i64_in _ (by omega)]; omega
    have HRC0 : Hid (RecI w wr V t r A.l i L 0) := Lib.hid ⟨A.at_, HSA.out.1, HSA.out.2⟩
    have HAL0 := Lib.hid HSA.out.2.ll
    have HEI := Lib.hid (endRec_inv HSA.out.2 HRI.out (show L < r.length by have h2 := HL.out; rw [HRE.out]; omega))
    have HLR := Lib.hid (show L < r.length by have h2 := HL.out; rw [HRE.out]; omega)
    go_wp2
    go_loopg [15] V.n (fun g s15 wr => ∃ k : Nat, k ≤ V.n ∧ V.n - k ≤ g ∧ s15 = .int .i64 k ∧ Aside (RecI w wr V t r A.l i L k) ∧ Aside (wr.heap[sb]? = some (.cells #[V.tv, V.rv, V.lv, V.av, .int .i64 V.d] 96)))
    case atStart => exact ⟨0, Nat.zero_le _, by omega, rfl, (show RecI _ _ _ _ _ _ _ _ _ from HRC0.out), (show _ = _ from HBA.out)⟩
    case round =>
     obtain ⟨k, hk, hgk, rfl, HRK, HBK⟩ := hrel
     clear HRC0 HBA HSA HRU
     by_cases hkn : k < V.n
     case pos =>
      have hkz : (k : Int) < (V.n : Int) := by omega
      obtain ⟨at', ⟨vrk, hRk⟩, hIk⟩ := HRK.out
      have HIK := Lib.hid hIk
      have HCC := Lib.hid (recordR50_calls w wr V ⟨endRec r A.l L k, at'⟩ vrk t i r k L hRk hIk HG.out.rn HG.out.len.symm hkn HLR.out (by rw [(HRI.out.2 L HLR.out).1]; exact HNE.out) hn2 HRI.out.1)
      have b0 := cellOf HBK.out 0
      have b1 := cellOf HBK.out 1
      have b2 := cellOf HBK.out 2
      have b3 := cellOf HBK.out 3
      have b4 := cellOf HBK.out 4
      simp only [List.getElem?_toArray, List.getElem?_cons_zero, List.getElem?_cons_succ] at b0 b1 b2 b3 b4
      clear hRk hIk
      go_wp2_with fail
      refine HCC.out.mono ?_
      rintro e w9 ⟨rfl, hK9, hE9⟩
      have HB9 := Lib.hid (hK9.2 _ _ _ _ HBK.out (by decide) (by decide) (by decide) (by decide) (by decide))
      have HN := Lib.hid (RecI.next HRI.out (by rw [HNE.out]; exact hkn) HLR.out HIK.out hE9)
      clear b0 b1 b2 b3 b4 hK9 hE9 HCC
      go_wp2
      go_roundg (V.n - (k + 1))
      case measure => omega
      case rel => exact ⟨k + 1, by omega, by omega, by go_num, (show RecI _ _ _ _ _ _ _ _ _ from HN.out), (show _ = _ from HB9.out)⟩
     case neg =>
      have hkz : ¬ (k : Int) < (V.n : Int) := by omega
      have HKE := Lib.hid (show k = V.n by omega)
      have HCE : Hid (chanL t r V.d P A0 = endTo t (endRec r A.l L k) V.n 0) := Lib.hid (by
       have e2 : A.l.length = V.n := by rw [HAL0.out]; exact HNE.out
       unfold chanL aEnd
       rw [HRE.out, HNE.out, HAS.out, HRA.out, HL.out, Nat.add_sub_cancel, e2, HKE.out])
      have HSL := Lib.hid (show (endRec r A.l L k).length = V.n from by rw [endRec_len, HAL0.out]; exact HNE.out)
      have HF0 : Hid (FinR w wr V t (endRec r A.l L k) i 0 0) := Lib.hid (by
       obtain ⟨at', h1, _⟩ := HRK.out
       obtain ⟨⟨at2, h2⟩, h3⟩ := HEI.out k (by rw [HKE.out, HNE.out]; exact Nat.le_refl _)
       exact ⟨⟨at', h1⟩, h2.toE (fun p hp => h3 p (by rw [HKE.out, ← HNE.out]; exact hp))⟩)
      generalize endRec r A.l L k = L1 at *
      clear HRK HEI hw2
      go_wp2
      go_loopg [16, 17] V.n (fun g s16 s17 wr => ∃ q : Nat, q ≤ V.n ∧ V.n - q ≤ g ∧ s16 = .int .i64 q ∧ Aside (FinR w wr V t L1 i q 0) ∧ Aside (wr.heap[sb]? = some (.cells #[V.tv, V.rv, V.lv, V.av, .int .i64 V.d] 96)))
      case atStart => exact ⟨0, Nat.zero_le _, by omega, rfl, (show FinR _ _ _ _ _ _ _ _ from HF0.out), (show _ = _ from HBK.out)⟩
      case round =>
       obtain ⟨q, hq, hgq, rfl, HF, HBQ⟩ := hrel
       clear HF0 HBK
       by_cases hqn : q < V.n
       case neg =>
        have hqz : ¬ (q : Int) < (V.n : Int) := by omega
        have HQE := Lib.hid (show q = V.n by omega)
        have b2 := cellOf HBQ.out 2
        simp only [List.getElem?_toArray, List.getElem?_cons_zero, List.getElem?_cons_succ] at b2
        go_wp2
        go_ret
        obtain ⟨⟨at9, vr9, g1⟩, gE⟩ := HF.out
        refine ⟨_, rfl, g1.ext, ?_, ?_⟩
        ·rw [HCE.out, ← HQE.out]
         exact g1.mks.sl2 g1.ll
        ·rw [HCE.out, ← HQE.out]
         first | exact gE.more HIR9.out | (rw [HRE.out]; exact gE.more HIR9.out)
       case pos =>
        have hqz : (q : Int) < (V.n : Int) := by omega
        have hqz0 : (0 : Int) ≤ (q : Int) := by omega
        go_wp2
        go_loopg [17] V.n (fun g s17 wr => ∃ k : Nat, k ≤ V.n ∧ V.n - k ≤ g ∧ s17 = .int .i64 k ∧ Aside (FinR w wr V t L1 i q k) ∧ Aside (wr.heap[sb]? = some (.cells #[V.tv, V.rv, V.lv, V.av, .int .i64 V.d] 96)))
        case atStart => exact ⟨0, Nat.zero_le _, by omega, rfl, (show FinR _ _ _ _ _ _ _ _ from HF.out), (show _ = _ from HBQ.out)⟩
        case round =>
         obtain ⟨f, hf, hgf, rfl, HFF, HBF⟩ := hrel
         clear HF HBQ
         by_cases hfn : f < V.n
         case neg =>
          have hfz : ¬ (f : Int) < (V.n : Int) := by omega
          have HFE := Lib.hid (show f = V.n by omega)
          have HN := Lib.hid (show FinR w wr V t L1 i (q + 1) 0 from by
           have h := HFF.out
           unfold FinR at h ⊢
           rw [HFE.out, endTo_next HSL.out] at h
           exact h)
          go_wp2
          go_roundg (V.n - (q + 1))
          case measure => omega
          case rel => exact ⟨q + 1, by omega, by omega, by go_num, (show FinR _ _ _ _ _ _ _ _ from HN.out), (show _ = _ from HBF.out)⟩
         case pos =>
          obtain ⟨⟨at1, vr1, hs1⟩, hE1⟩ := HFF.out
          have HS1 := Lib.hid hs1
          have HE1 := Lib.hid hE1
          have HES := Lib.hid (endTo_succ (t := t) (l := L1) (q := q) (k := f))
          have HEI := Lib.hid (hE1.endCh (q := q) (f := f) (by rw [HNE.out]; exact hqn) (by rw [HNE.out]; exact hfn) (valid_64 HV.out (by rw [HNE.out]; exact hfn)))
          generalize endTo t L1 q f = l at *
          have hfz : (f : Int) < (V.n : Int) := by omega
          have hfz0 : (0 : Int) ≤ (f : Int) := by omega
          have b2 := cellOf HBF.out 2
          simp only [List.getElem?_toArray, List.getElem?_cons_zero, List.getElem?_cons_succ] at b2
          obtain ⟨_, k1, _, _⟩ := hs1.mks.cellsAt (i := q) (by rw [hs1.ll]; exact hqn)
          obtain ⟨vg, vo, vk, hvc, _, _, _, d0, _⟩ := hs1.mks.boolAt (i := q) (j := f) hqn hfn
          rw [hvc] at k1
          have HVC := Lib.hid hvc
          have HCL := Lib.hid (fun h => endCh_open (t := t) (l := l) (q := q) (f := f) h)
          have HCS := Lib.hid (fun h => endCh_shut (t := t) (l := l) (q := q) (f := f) h)
          have hopl := hE1.op q (by rw [HNE.out]; exact hqn) f (by rw [HNE.out]; exact hfn)
          have hcn := hE1.cnt f (by rw [HNE.out]; exact hfn)
          obtain ⟨cb, hcb⟩ : ∃ x, l[q]!.closed[f]! = x := ⟨_, rfl⟩
          simp only at d0
          rw [hcb] at d0 HCL HCS hopl
          clear hs1 hE1 hvc hcb
          cases cb with
          | true =>
            have HN := Lib.hid (show FinR w wr V t L1 i q (f + 1) from by
             unfold FinR
             rw [HES.out, HCS.out rfl]
             exact ⟨⟨at1, vr1, HS1.out⟩, HE1.out⟩)
            clear hopl hcn
            go_wp2
            go_roundg (V.n - (f + 1))
            case measure => omega
            case rel => exact ⟨f + 1, by omega, by omega, by go_num, (show FinR _ _ _ _ _ _ _ _ from HN.out), (show _ = _ from HBF.out)⟩
          | false =>
            have hlen0 := hopl rfl
            have HCO := Lib.hid (HCL.out rfl)
            clear hopl
            go_upto_region 22 with (fail)
            clear b2 k1 d0
            refine wp_onlyN (chan_note _ (by kernel_rfl) w wr V t r l at1 vr1 sb q f L R rB rO rC i _ _ _ _ _ _ _ _ _ _ _ _ _ _ _ _ _ _ _ _ _ _ _ _ _ _ _ _ _ _ _ _ _ _ _ _ _ _ _ _ _ _ _ _ _ _ _ _ _ _ _ _ _ _ _ _ _ _ _ _ _ _ _ _ _ _ _ _ _ _ _ _ _ _ _ _ _ _ _ _ _ _ _ _ _ _ _ _ _ _ _ _ _ _ _ _ _ _ _ _ _ _ _ _ _ _ _ _ _ _ _ _ _ _ _ _ _ _ _ _ _ _ _ HG HRB HS1 hqn hfn hcn hlen0 (by omega) HRE HL HVR HBF) ?_
            rintro a W ⟨⟨x92, x93, x94, x95, x96, x97, x98, x99, x100, x101, x102, x103, x104, x105, x106, x107, x108, x109, x110, x111, x112, x113, x114, x115, x116, x117, rfl⟩, hKW, vr9, hE9⟩
            have HE9 := Lib.hid hE9
            have HB9 := Lib.hid (hKW.2 _ _ _ _ HBF.out (by decide) (by decide) (by decide) (by decide) (by decide))
            clear hlen0 hcn hKW
            have b2 := cellOf HB9.out 2
            simp only [List.getElem?_toArray, List.getElem?_cons_zero, List.getElem?_cons_succ] at b2
            obtain ⟨_, k1, _, _⟩ := hE9.mks.cellsAt (i := q) (by rw [hE9.ll]; exact hqn)
            obtain ⟨vg', vo', vk', hvc', _, _, _, d0, hfrz⟩ := hE9.mks.boolAt (i := q) (j := f) hqn hfn
            rw [hvc'] at k1
            have HVC' := Lib.hid hvc'
            have f0 := hfrz (vo' + f)
            obtain ⟨z9, hz9⟩ : ∃ z, (({ l := chM l q f (lostTo t (q : Int) f l[f]!.cnt.toNat), at_ := at1 } : Sn).l[q]!.closed[f]!) = z := ⟨_, rfl⟩
            rw [hz9] at d0
            have HN : Hid (FinR w (W.setCell ⟨vg', vo' + f, none⟩ (.bool true)) V t L1 i q (f + 1)) := Lib.hid (by
             unfold FinR
             rw [HES.out]
             refine ⟨⟨at1, vr9, ?_⟩, HEI.out⟩
             rw [HCO.out]
             exact HE9.out.setB hqn hfn HVC'.out)
            have HBN := Lib.hid ((HE9.out.keepB hqn HVC'.out (vo' + f) (.bool true)).2 _ _ _ _ HB9.out (by decide) (by decide) (by decide) (by decide) (by decide))
            clear hE9 hvc' hfrz hz9
            go_wp2
            go_roundg (V.n - (f + 1))
            case measure => omega
            case rel => exact ⟨f + 1, by omega, by omega, by go_num, (show FinR _ _ _ _ _ _ _ _ from HN.out), (show _ = _ from HBN.out)⟩
end Go.Proofs.YtfagfooggcinoaaGreat
