/-
  Rows that the call itself has made: a slice value that owns a part of a block of the call's own, wherever in the block it begins. No program is named here.
-/
import Derived.Test.YtodkcfebcjgahaaBase
import Derived.ArgAppend
namespace Go.Proofs.Ytodkcfebcjgahaa
open Go.RowKit
set_option linter.unusedVariables false

theorem heap_setCell_same {w : World} {g o : Nat} {u : Value} {cur : Array Value} {e : TypeId} {fr : Nat × Nat} (hg : w.heap[g]? = some (.cells cur e fr)) : (w.setCell ⟨g, o, none⟩ u).heap[g]? = some (.cells (cur.setIfInBounds o u) e fr) := by
  simp [World.setCell, Array.getElem?_modify, hg]
theorem size_setCell (w : World) (p : Addr) (u : Value) : (w.setCell p u).heap.size = w.heap.size := by simp [World.setCell]

/-- The slice value v, of n elements (type e, 'size' cells each), owns the cells xs: nil, or a part of a block from 'base' on. -/
def Row (w : World) (base : Nat) (e : TypeId) (size : Nat) (v : Value) (n : Nat) (xs : List Value) : Prop :=
  xs.length = n * size ∧
  ((v = .slice none 0 0 ∧ n = 0) ∨
   ∃ g off cap cur, v = .slice (some ⟨g, off, none⟩) n cap ∧ base ≤ g ∧ w.heap[g]? = some (.cells cur e (0, 0)) ∧ n ≤ cap ∧ cap ≤ maxLen ∧ off + cap * size ≤ cur.size ∧ (cur.toList.drop off).take (n * size) = xs)

theorem Row.ofOwns {w : World} {base : Nat} {e : TypeId} {size : Nat} {v : Value} {n : Nat} {xs : List Value} (h : w.ownsRow base e size v n xs) : Row w base e size v n xs := by
  refine ⟨h.1, ?_⟩
  rcases h.2 with h | ⟨g, cap, cur, rfl, h2, h3, h4, h5, h6, h7⟩
  · exact .inl h
  · exact .inr ⟨g, 0, cap, cur, rfl, h2, h3, h4, h5, by omega, by simpa using h7⟩

theorem Row.mkNil (w : World) (base : Nat) (e : TypeId) (size : Nat) : Row w base e size (.slice none 0 0) 0 [] := ⟨by simp, .inl ⟨rfl, rfl⟩⟩

theorem Row.mono {w : World} {base base' : Nat} {e : TypeId} {size : Nat} {v : Value} {n : Nat} {xs : List Value} (h : Row w base e size v n xs) (hb : base' ≤ base) : Row w base' e size v n xs :=
  ⟨h.1, h.2.imp id fun ⟨g, off, cap, cur, h1, h2, h3⟩ => ⟨g, off, cap, cur, h1, Nat.le_trans hb h2, h3⟩⟩

theorem Row.lt {w : World} {base : Nat} {e : TypeId} {size : Nat} {v : Value} {n : Nat} {xs : List Value} (h : Row w base e size v n xs) : ∀ k, v.ownBlock = some k → base ≤ k ∧ k < w.heap.size := by
  intro k hk
  rcases h.2 with ⟨rfl, _⟩ | ⟨g, off, cap, cur, rfl, hb, hg, _⟩
  · simp [Value.ownBlock] at hk
  · simp [Value.ownBlock] at hk
    subst hk
    exact ⟨hb, (Array.getElem?_eq_some_iff.1 hg).1⟩

/-- Where the own block lies as it lay, the row is kept. -/
theorem Row.heap {w w' : World} {base : Nat} {e : TypeId} {size : Nat} {v : Value} {n : Nat} {xs : List Value} (h : Row w base e size v n xs) (hh : ∀ k, v.ownBlock = some k → w'.heap[k]? = w.heap[k]?) : Row w' base e size v n xs := by
  refine ⟨h.1, h.2.imp id ?_⟩
  rintro ⟨g, off, cap, cur, rfl, h2, h3, rest⟩
  exact ⟨g, off, cap, cur, rfl, h2, by rw [hh g rfl]; exact h3, rest⟩

theorem Row.grown {w w' : World} {base : Nat} {e : TypeId} {size : Nat} {v : Value} {n : Nat} {xs : List Value} {row : Option Nat} (h : Row w base e size v n xs) (hg : w.grownBy w' row) (hne : v.ownBlock = none ∨ v.ownBlock ≠ row) : Row w' base e size v n xs :=
  h.heap fun k hk => hg.block k (h.lt k hk).2 (hne.elim (fun h1 => by simp [h1] at hk) (fun h1 => by rw [hk] at h1; exact h1))

theorem Row.ext {w w' : World} {base : Nat} {e : TypeId} {size : Nat} {v : Value} {n : Nat} {xs : List Value} (h : Row w base e size v n xs) (x : Ext w w') : Row w' base e size v n xs :=
  h.heap fun k hk => x.block k (h.lt k hk).2

theorem Row.al {w : World} {base : Nat} {e : TypeId} {size : Nat} {v : Value} {n : Nat} {xs : List Value} (h : Row w base e size v n xs) (o : Obj) : Row (w.alloc o) base e size v n xs :=
  h.ext ((Ext.rf w).al o)

/-- A store into another block. -/
theorem Row.st {w : World} {base : Nat} {e : TypeId} {size : Nat} {v : Value} {n : Nat} {xs : List Value} (h : Row w base e size v n xs) {p : Addr} (hp : v.ownBlock ≠ some p.block) (u : Value) : Row (w.setCell p u) base e size v n xs :=
  h.heap fun k hk => Below.heap_setCell w p u k (fun e => hp (e ▸ hk))

/-- A cell of the row. -/
theorem Row.cell {w : World} {base : Nat} {e : TypeId} {size g off n cap : Nat} {xs : List Value} (h : Row w base e size (.slice (some ⟨g, off, none⟩) n cap) n xs) (j : Nat) (hj : j < n * size) : w.cell? ⟨g, off + j, none⟩ = xs[j]? := by
  rcases h.2 with ⟨h, _⟩ | ⟨g', off', cap', cur, hv, _, hg, _, _, hs, hx⟩
  · simp at h
  · simp only [Value.slice.injEq, Option.some.injEq, Addr.mk.injEq, true_and, and_true] at hv
    obtain ⟨⟨rfl, rfl⟩, rfl⟩ := hv
    rw [← hx, List.getElem?_take_of_lt hj, List.getElem?_drop]
    simp [World.cell?, hg]

theorem Row.nil_of {w : World} {base : Nat} {e : TypeId} {size : Nat} {v : Value} {n : Nat} {xs : List Value} (h : Row w base e size v n xs) (hn : n = 0) : ∃ a c, v = .slice a 0 c := by
  subst hn
  rcases h.2 with ⟨rfl, _⟩ | ⟨g', off', cap', cur, rfl, _⟩ <;> exact ⟨_, _, rfl⟩

/-- The row's shape where there is an element. -/
theorem Row.shape {w : World} {base : Nat} {e : TypeId} {size : Nat} {v : Value} {n : Nat} {xs : List Value} (h : Row w base e size v n xs) (hn : 0 < n) : ∃ g off cap, v = .slice (some ⟨g, off, none⟩) n cap ∧ base ≤ g ∧ g < w.heap.size ∧ n ≤ cap := by
  rcases h.2 with ⟨_, h0⟩ | ⟨g, off, cap, cur, rfl, hb, hg, hn, _⟩
  · omega
  · exact ⟨g, off, cap, rfl, hb, (Array.getElem?_eq_some_iff.1 hg).1, hn⟩

/-- The row's shape, whatever its length. -/
theorem Row.any {w : World} {base : Nat} {e : TypeId} {size : Nat} {v : Value} {n : Nat} {xs : List Value} (h : Row w base e size v n xs) : ∃ a cap, v = .slice a n cap ∧ n ≤ cap ∧ (0 < n → ∃ g off, a = some ⟨g, off, none⟩ ∧ base ≤ g ∧ g < w.heap.size ∧ n ≤ cap) := by
  rcases h.2 with ⟨rfl, rfl⟩ | ⟨g, off, cap, cur, rfl, hb, hg, hn, _⟩
  · exact ⟨_, _, rfl, Nat.le_refl _, fun h => absurd h (by omega)⟩
  · exact ⟨_, _, rfl, hn, fun _ => ⟨g, off, rfl, hb, (Array.getElem?_eq_some_iff.1 hg).1, hn⟩⟩

/-- A row of numbers is read as numbers. -/
theorem Row.ints {w : World} {base : Nat} {e : TypeId} {v : Value} {n : Nat} {l : List Int} (h : Row w base e 1 v n (l.map (Value.int .i64))) : Ints w v l := by
  have hl : l.length = n := by simpa using h.1
  subst hl
  obtain ⟨a, cap, rfl, hlc, ha⟩ := h.any
  refine ⟨a, cap, rfl, hlc, fun hne => ?_⟩
  have h0 : 0 < l.length := List.length_pos_iff.2 hne
  obtain ⟨g, off, rfl, hb, hg, hc⟩ := ha h0
  refine ⟨g, off, rfl, hg, fun i hi => ?_⟩
  rw [h.cell i (by omega)]
  simp [hi]

/-- Some elements more. -/
theorem run_append_row {P : Program} (w : World) (base : Nat) (t ty e : TypeId) (i : TypeInfo) (z : Value) (size bytes : Nat) (ht : P.underlying t = some (.slice e)) (hi : P.info? e = some i) (hz : i.zero = some z)
    (hsize : i.size = size) (hby : i.bytes = bytes) (hzs : z.cells.size = size) (hsz : 0 < size)
    (v : Value) (n : Nat) (xs : List Value) (hown : Row w base e size v n xs)
    (ao : Option Addr) (m c : Nat) (news : List Value) (hl : news.length = m * size) (hm0 : 0 < m → ∃ ad, ao = some ad ∧ ∀ j u, news[j]? = some u → w.cell? (ad.add j) = some u) (h1 : ∀ u ∈ news, u.oneCell' = true)
    (h63 : n + m ≤ maxLen) (hbytes : (n + m) * bytes ≤ 140737488355328) (hbase : base ≤ w.heap.size) :
    ∃ v' w', (Builtin.append_ #[t, t] ty #[v, .slice ao m c]).run P w = .ok v' w' ∧ Row w' base e size v' (n + m) (xs ++ news) ∧ w.grownBy w' v.ownBlock ∧
      (v'.ownBlock = v.ownBlock ∨ ∃ k, v'.ownBlock = some k ∧ w.heap.size ≤ k) := by
  subst hsize
  subst hby
  by_cases hm : m = 0
  · -- nothing is appended
    subst hm
    obtain rfl : news = [] := List.eq_nil_of_length_eq_zero (by simpa using hl)
    have hfc : (Builtin.firstCells i.size 0 (.slice ao 0 c)).run P w = .ok #[] w := by
      cases ao <;> simp [Builtin.firstCells, loadCells, loadCellsFrom]
    refine ⟨v, w, ?_, by simpa using hown, ⟨rfl, rfl, rfl, Nat.le_refl _, fun _ _ _ => rfl⟩, .inl rfl⟩
    obtain ⟨a, cap, rfl, hnc, ha⟩ := hown.any
    have hst : ∀ ad : Addr, (storeCells ad []).run P w = .ok () w := fun ad => by simp [storeCells]
    cases a with
    | none => simp [Builtin.append_, run_underlying ht, sizeOf, typeInfo, hi, Builtin.lenOf, hnc, hfc]
    | some ad => simp [Builtin.append_, run_underlying ht, sizeOf, typeInfo, hi, Builtin.lenOf, hnc, hfc, hst]
  · obtain ⟨ad, rfl, hnews⟩ := hm0 (by omega)
    rcases hown.2 with ⟨rfl, rfl⟩ | ⟨g, off, cap, cur, rfl, hbg, hg, hnc, hcm, hcs, htake⟩
    · obtain rfl : xs = [] := List.eq_nil_of_length_eq_zero (by simpa using hown.1)
      obtain ⟨v', w', hr, h2, h3, _⟩ := run_append_own (P := P) w w.heap.size t ty e i z i.size i.bytes ht hi hz rfl rfl hzs hsz (.slice none 0 0) 0 [] (World.ownsRow_nil _ _ _ _) ad m c news hl hnews h1 h63 hbytes (Nat.le_refl _)
      refine ⟨v', w', hr, (Row.ofOwns h2).mono hbase, h3, ?_⟩
      rcases h2.2 with ⟨_, h0⟩ | ⟨g, _, _, rfl, hb, _⟩
      · omega
      · exact .inr ⟨g, rfl, hb⟩
    · by_cases hroom : n + m ≤ cap
      · have hsum : n * i.size + m * i.size ≤ cap * i.size := by rw [← Nat.add_mul]; exact Nat.mul_le_mul_right _ hroom
        have hcell : ∀ j, j < news.length → ∃ u, w.cell? ⟨g, off + n * i.size + j, none⟩ = some u := fun j hj => by
          refine ⟨cur[off + n * i.size + j]'(by omega), ?_⟩
          simp [World.cell?, hg]
        have hr := run_append_room_cells (P := P) w t ty e i ht hi g off n cap ad m c news hl hnews h1 hroom
          (fun j hj => by obtain ⟨u, hu⟩ := hcell j hj; rw [hu]; rfl) (fun j hj => by simp only [World.frozen?, hg]; simp)
        refine ⟨_, _, hr, ?_, ?_, .inl rfl⟩
        · -- what the block holds behind the store
          have hh : ∀ (vs : List Value) (o : Nat) (w : World) (cur : Array Value), w.heap[g]? = some (.cells cur e (0, 0)) → o + vs.length ≤ cur.size →
              ∃ cur', (w.setCells g o vs).heap[g]? = some (.cells cur' e (0, 0)) ∧ cur'.size = cur.size ∧ cur'.toList = cur.toList.take o ++ vs ++ cur.toList.drop (o + vs.length) := by
            intro vs
            induction vs with
            | nil => intro o w cur hg _; exact ⟨cur, hg, rfl, by simp⟩
            | cons x vs ih =>
              intro o w cur hg hle
              simp only [List.length_cons] at hle
              have hg1 : (w.setCell ⟨g, o, none⟩ x).heap[g]? = some (.cells (cur.setIfInBounds o x) e (0, 0)) := heap_setCell_same hg
              obtain ⟨cur', h1, h2, h3⟩ := ih (o + 1) (w.setCell ⟨g, o, none⟩ x) (cur.setIfInBounds o x) hg1 (by simp; omega)
              refine ⟨cur', h1, by simpa using h2, ?_⟩
              rw [h3]
              have : (cur.setIfInBounds o x).toList = cur.toList.set o x := by simp
              rw [this]
              have ho : o < cur.toList.length := by simp; omega
              rw [List.drop_set_of_lt (by omega), List.take_succ_eq_append_getElem (by simpa using ho), List.take_set_of_le (Nat.le_refl _)]
              simp only [List.getElem_set_self, List.length_cons, List.append_assoc, List.cons_append, List.nil_append]
              rw [show o + 1 + vs.length = o + (vs.length + 1) by omega]
          obtain ⟨cur', h1', h2', h3'⟩ := hh news (off + n * i.size) w cur hg (by omega)
          refine ⟨by rw [List.length_append, hown.1, hl, Nat.add_mul], .inr ⟨g, off, cap, cur', rfl, hbg, h1', hroom, hcm, by omega, ?_⟩⟩
          have hxl := hown.1
          have e1 : cur.toList.take (off + n * i.size) = cur.toList.take off ++ xs := by
            rw [← htake, ← List.take_add]
          have e2 : (cur.toList.take off).length = off := by simp; omega
          rw [h3', e1, List.append_assoc, List.append_assoc, List.drop_left' e2, ← List.append_assoc]
          exact List.take_left' (by rw [List.length_append, hxl, hl, Nat.add_mul])
        · have hb : ∀ (vs : List Value) (o : Nat) (w : World), w.grownBy (w.setCells g o vs) (some g) := by
            intro vs
            induction vs with
            | nil => intro o w; exact World.grownBy.refl w _
            | cons x vs ih =>
              intro o w
              have := ih (o + 1) (w.setCell ⟨g, o, none⟩ x)
              refine ⟨this.os, this.tape, this.output, ?_, fun k hk hne => ?_⟩
              · have h := this.size; rw [size_setCell] at h; exact h
              · have h2 := this.block k (by rw [size_setCell]; exact hk) hne
                rw [show (w.setCells g o (x :: vs)).heap[k]? = ((w.setCell ⟨g, o, none⟩ x).setCells g (o + 1) vs).heap[k]? from rfl, h2]
                exact Below.heap_setCell w _ x k (by simp only; intro e; exact hne (by rw [e]))
          exact hb news _ w
      · obtain ⟨v', w', hr, h2, h3⟩ := run_append_arg_grows (P := P) w t ty e i z i.size i.bytes ht hi hz rfl rfl hzs hsz ⟨g, off, none⟩ n cap xs hown.1
          (fun j u hj => by
            have hj' : j < n * i.size := by have := (List.getElem?_eq_some_iff.1 hj).1; rw [hown.1] at this; exact this
            rw [Addr.add_lit, hown.cell j hj']; exact hj) ad m c news hl hnews (by omega) h63 hbytes
        refine ⟨v', w', hr, (Row.ofOwns h2).mono hbase, ⟨h3.os, h3.tape, h3.output, h3.size, fun k hk _ => h3.block k hk (by simp)⟩, ?_⟩
        rcases h2.2 with ⟨_, h0⟩ | ⟨g', _, _, rfl, hb, _⟩
        · omega
        · exact .inr ⟨g', rfl, hb⟩

/-- The same for the walk. -/
theorem wpList_append_row {P : Program} {w : World} {ops : Array Oper} {rest : List Oper} {o : Oper} {a : Act} {Q : Exit → Act → World → Prop} (hgd : o.guard = none) (s x : Operand) (t : TypeId)
    (ho : o.op = .call { callee := .builtin .append, args := #[s, x], argTypes := #[t, t] })
    (base : Nat) (e : TypeId) (i : TypeInfo) (z : Value) (size bytes : Nat) (ht : P.underlying t = some (.slice e)) (hi : P.info? e = some i) (hz : i.zero = some z)
    (hsize : i.size = size) (hby : i.bytes = bytes) (hzs : z.cells.size = size) (hsz : 0 < size)
    (v : Value) (n : Nat) (xs : List Value) (hs : a.eval s = v) (hown : Row w base e size v n xs)
    (ao : Option Addr) (m c : Nat) (news : List Value) (hx : a.eval x = .slice ao m c) (hl : news.length = m * size) (hm0 : 0 < m → ∃ ad, ao = some ad ∧ ∀ j u, news[j]? = some u → w.cell? (ad.add j) = some u) (h1 : ∀ u ∈ news, u.oneCell' = true)
    (h63 : n + m ≤ maxLen) (hbytes : (n + m) * bytes ≤ 140737488355328) (hbase : base ≤ w.heap.size)
    (h : ∀ v' w', Row w' base e size v' (n + m) (xs ++ news) → w.grownBy w' v.ownBlock → (v'.ownBlock = v.ownBlock ∨ ∃ k, v'.ownBlock = some k ∧ w.heap.size ≤ k) → wpList P ops Q rest (a.put o.dst v') w') : wpList P ops Q (o :: rest) a w := by
  refine wpList_plain hgd fun K hK => ?_
  obtain ⟨v', w', hr, h2, h3, h4⟩ := run_append_row (P := P) w base t o.type e i z size bytes ht hi hz hsize hby hzs hsz v n xs hown ao m c news hl hm0 h1 h63 hbytes hbase
  unfold Oper.wp execOp
  simp only [ho, resolve, invoke, builtin, Sem.run_bind, Sem.run_pure, Result.andThen_ok, List.map_toArray, List.map_cons, List.map_nil, hs, hx, hr]
  exact hK _ _ (h v' w' h2 h3 h4)

/-- One element of one cell, that the call has just laid in a block of its own ('append(v, x)'). -/
theorem wpList_append_one {P : Program} {w : World} {ops : Array Oper} {rest : List Oper} {o : Oper} {a : Act} {Q : Exit → Act → World → Prop} (hgd : o.guard = none) (s x : Operand) (t : TypeId)
    (ho : o.op = .call { callee := .builtin .append, args := #[s, x], argTypes := #[t, t] })
    (base : Nat) (e : TypeId) (i : TypeInfo) (z : Value) (size bytes : Nat) (ht : P.underlying t = some (.slice e)) (hi : P.info? e = some i) (hz : i.zero = some z)
    (hsize : i.size = size) (hby : i.bytes = bytes) (hzs : z.cells.size = size) (hsz : 0 < size)
    (v : Value) (n : Nat) (xs : List Value) (hs : a.eval s = v) (hown : Row w base e size v n xs)
    (k c : Nat) (news : List Value) (hx : a.eval x = .slice (some ⟨k, 0, none⟩) 1 c) (hl : news.length = size) (hnews : ∃ fr, w.heap[k]? = some (.cells news.toArray e fr)) (h1 : ∀ u ∈ news, u.oneCell' = true)
    (h63 : n + 1 ≤ maxLen) (hbytes : (n + 1) * bytes ≤ 140737488355328) (hbase : base ≤ w.heap.size)
    (h : ∀ v' w', Row w' base e size v' (n + 1) (xs ++ news) → w.grownBy w' v.ownBlock → (v'.ownBlock = v.ownBlock ∨ ∃ k, v'.ownBlock = some k ∧ w.heap.size ≤ k) → wpList P ops Q rest (a.put o.dst v') w') : wpList P ops Q (o :: rest) a w :=
  wpList_append_row hgd s x t ho base e i z size bytes ht hi hz hsize hby hzs hsz v n xs hs hown (some ⟨k, 0, none⟩) 1 c news hx (by omega)
    (fun _ => ⟨_, rfl, fun j u hj => by
      obtain ⟨fr, hf⟩ := hnews
      have := (List.getElem?_eq_some_iff.1 hj)
      simp [Addr.add_lit, World.cell?, hf, hj]⟩) h1 h63 hbytes hbase h

/-- A row without its first element. -/
theorem Row.tail {w : World} {base : Nat} {e : TypeId} {size g off n cap : Nat} {xs : List Value} (h : Row w base e size (.slice (some ⟨g, off, none⟩) (n + 1) cap) (n + 1) xs) :
    Row w base e size (.slice (some ⟨g, off + size, none⟩) n (cap - 1)) n (xs.drop size) ∧ Row w base e size (.slice (some ⟨g, off, none⟩) 0 (cap - 1)) 0 [] := by
  rcases h.2 with ⟨h', _⟩ | ⟨g', off', cap', cur, hv, hb, hg, hn, hm, hs, hx⟩
  · simp at h'
  · simp only [Value.slice.injEq, Option.some.injEq, Addr.mk.injEq, true_and, and_true] at hv
    obtain ⟨⟨rfl, rfl⟩, rfl⟩ := hv
    have hcap : (cap - 1) * size + size = cap * size := by rw [← Nat.succ_mul]; congr 1; omega
    refine ⟨⟨by rw [List.length_drop, h.1, Nat.add_mul]; omega, .inr ⟨g, off + size, cap - 1, cur, rfl, hb, hg, by omega, by omega, by omega, ?_⟩⟩,
      ⟨by simp, .inr ⟨g, off, cap - 1, cur, rfl, hb, hg, by omega, by omega, by omega, by simp⟩⟩⟩
    rw [← hx, List.drop_take, List.drop_drop, Nat.add_mul]
    congr 1
    omega

/-- A store into the row. -/
theorem Row.set {w : World} {base : Nat} {e : TypeId} {size g off n cap : Nat} {xs : List Value} (h : Row w base e size (.slice (some ⟨g, off, none⟩) n cap) n xs) (j : Nat) (u : Value) (hj : j < n * size) :
    Row (w.setCell ⟨g, off + j, none⟩ u) base e size (.slice (some ⟨g, off, none⟩) n cap) n (xs.set j u) := by
  rcases h.2 with ⟨h', _⟩ | ⟨g', off', cap', cur, hv, hb, hg, hn, hm, hs, hx⟩
  · simp at h'
  · simp only [Value.slice.injEq, Option.some.injEq, Addr.mk.injEq, true_and, and_true] at hv
    obtain ⟨⟨rfl, rfl⟩, rfl⟩ := hv
    refine ⟨by rw [List.length_set, h.1], .inr ⟨g, off, cap, cur.setIfInBounds (off + j) u, rfl, hb, heap_setCell_same hg, hn, hm, by simpa using hs, ?_⟩⟩
    rw [← hx, Array.toList_setIfInBounds, List.drop_set, if_neg (by omega), Nat.add_sub_cancel_left, List.take_set]

/-- No cell of the row is frozen. -/
theorem Row.free {w : World} {base : Nat} {e : TypeId} {size g off n cap : Nat} {xs : List Value} (h : Row w base e size (.slice (some ⟨g, off, none⟩) n cap) n xs) (o : Nat) : w.frozen? ⟨g, o, none⟩ = false := by
  rcases h.2 with ⟨h', _⟩ | ⟨g', off', cap', cur, hv, hb, hg, _⟩
  · simp at h'
  · simp only [Value.slice.injEq, Option.some.injEq, Addr.mk.injEq, true_and, and_true] at hv
    obtain ⟨⟨rfl, rfl⟩, rfl⟩ := hv
    simp [World.frozen?, hg]

/-- Two rows of unlike element types are no one block. -/
theorem Row.apart {w : World} {b1 b2 : Nat} {e1 e2 : TypeId} {s1 s2 : Nat} {v1 v2 : Value} {n1 n2 : Nat} {x1 x2 : List Value} (h1 : Row w b1 e1 s1 v1 n1 x1) (h2 : Row w b2 e2 s2 v2 n2 x2) (hne : e1 ≠ e2) :
    v1.ownBlock = .none ∨ v1.ownBlock ≠ v2.ownBlock := by
  rcases h1.2 with ⟨rfl, _⟩ | ⟨g, off, cap, cur, rfl, _, hg, _⟩
  · exact .inl rfl
  · refine .inr fun hh => ?_
    rcases h2.2 with ⟨rfl, _⟩ | ⟨g', off', cap', cur', rfl, _, hg', _⟩
    · simp [Value.ownBlock] at hh
    · simp [Value.ownBlock] at hh
      subst hh
      rw [hg] at hg'
      simp at hg'
      exact hne hg'.2

/-! ### The cells of a slice that is read -/
/-- The slice value v has n elements of 'size' cells, the cells xs. -/
def CellsAt (w : World) (v : Value) (size n : Nat) (xs : List Value) : Prop :=
  xs.length = n * size ∧ ∃ a c, v = .slice a n c ∧ n ≤ c ∧ (0 < n → ∃ b off, a = some ⟨b, off, none⟩ ∧ b < w.heap.size ∧ ∀ j, j < n * size → w.cell? ⟨b, off + j, none⟩ = xs[j]?)

theorem CellsAt.ext {w w' : World} {v : Value} {size n : Nat} {xs : List Value} (h : CellsAt w v size n xs) (e : Ext w w') : CellsAt w' v size n xs := by
  obtain ⟨h0, a, c, rfl, hlc, h⟩ := h
  refine ⟨h0, a, c, rfl, hlc, fun hn => ?_⟩
  obtain ⟨b, off, rfl, hb, hc⟩ := h hn
  exact ⟨b, off, rfl, Nat.lt_of_lt_of_le hb e.size, fun i hi => (e.cell hb).trans (hc i hi)⟩

theorem Ints.cells {w : World} {v : Value} {l : List Int} (h : Ints w v l) : CellsAt w v 1 l.length (l.map (Value.int .i64)) := by
  obtain ⟨a, c, rfl, hlc, h⟩ := h
  refine ⟨by simp, a, c, rfl, hlc, fun hn => ?_⟩
  obtain ⟨b, off, rfl, hb, hc⟩ := h (List.length_pos_iff.1 hn)
  refine ⟨b, off, rfl, hb, fun j hj => ?_⟩
  rw [hc j (by omega)]
  have : j < l.length := by omega
  simp [this]

theorem Row.cells {w : World} {base : Nat} {e : TypeId} {size : Nat} {v : Value} {n : Nat} {xs : List Value} (h : Row w base e size v n xs) : CellsAt w v size n xs := by
  obtain ⟨a, cap, rfl, hlc, ha⟩ := h.any
  refine ⟨h.1, a, cap, rfl, hlc, fun hn => ?_⟩
  obtain ⟨g, off, rfl, hb, hg, hc⟩ := ha hn
  exact ⟨g, off, rfl, hg, fun j hj => h.cell j hj⟩

theorem Sl.cells {α : Type} [Inhabited α] {R : World → List Value → α → Prop} {k : Nat} {w : World} {v : Value} {l : List α} (h : Sl R k w v l) :
    ∃ xs, CellsAt w v k l.length xs ∧ ∀ i, i < l.length → R w ((xs.drop (i * k)).take k) l[i]! := by
  obtain ⟨a, c, rfl, hlc, h⟩ := h
  by_cases hl : l = []
  · subst hl
    exact ⟨[], ⟨by simp, a, c, rfl, hlc, fun h => absurd h (by simp)⟩, fun i hi => absurd hi (by simp)⟩
  obtain ⟨b, off, rfl, hb, hc⟩ := h hl
  -- the rows one behind the other
  have key : ∀ n, n ≤ l.length → ∃ xs : List Value, xs.length = n * k ∧ (∀ j, j < n * k → w.cell? ⟨b, off + j, none⟩ = xs[j]?) ∧ ∀ i, i < n → R w ((xs.drop (i * k)).take k) l[i]! := by
    intro n
    induction n with
    | zero => intro _; exact ⟨[], by simp, fun j hj => absurd hj (by simp), fun i hi => absurd hi (by simp)⟩
    | succ n ih =>
      intro hn
      obtain ⟨xs, h1, h2, h3⟩ := ih (by omega)
      obtain ⟨vs, g1, g2, g3⟩ := hc n (by omega)
      refine ⟨xs ++ vs, by rw [List.length_append, h1, g1, Nat.add_mul, Nat.one_mul], fun j hj => ?_, fun i hi => ?_⟩
      · by_cases hjn : j < n * k
        · rw [List.getElem?_append_left (by omega)]; exact h2 j hjn
        · rw [List.getElem?_append_right (by omega), h1]
          rw [Nat.add_mul, Nat.one_mul] at hj
          have := g3 (j - n * k) (by omega)
          rw [show off + n * k + (j - n * k) = off + j by omega] at this
          rw [this, getElem!_pos vs (j - n * k) (by omega), List.getElem?_eq_getElem (by omega)]
      · by_cases hin : i < n
        · have hle : i * k + k ≤ n * k := by rw [← Nat.succ_mul]; exact Nat.mul_le_mul_right _ hin
          rw [List.drop_append_of_le_length (by omega), List.take_append_of_le_length (by rw [List.length_drop]; omega)]
          exact h3 i hin
        · obtain rfl : i = n := by omega
          rw [List.drop_left' h1, List.take_of_length_le (by omega)]
          exact g2
  obtain ⟨xs, h1, h2, h3⟩ := key l.length (Nat.le_refl _)
  exact ⟨xs, ⟨h1, _, c, rfl, hlc, fun _ => ⟨b, off, rfl, hb, h2⟩⟩, h3⟩

theorem CellsAt.sl {α : Type} [Inhabited α] {R : World → List Value → α → Prop} {k : Nat} {w : World} {v : Value} {l : List α} {xs : List Value} (h : CellsAt w v k l.length xs)
    (hR : ∀ i, i < l.length → R w ((xs.drop (i * k)).take k) l[i]!) : Sl R k w v l := by
  obtain ⟨h0, a, c, rfl, hlc, h⟩ := h
  refine ⟨a, c, rfl, hlc, fun hl => ?_⟩
  obtain ⟨b, off, rfl, hb, hc⟩ := h (List.length_pos_iff.2 hl)
  refine ⟨b, off, rfl, hb, fun i hi => ⟨_, ?_, hR i hi, fun j hj => ?_⟩⟩
  · have hle : i * k + k ≤ l.length * k := by rw [← Nat.succ_mul]; exact Nat.mul_le_mul_right _ hi
    rw [List.length_take, List.length_drop]; omega
  · have hle : i * k + k ≤ l.length * k := by rw [← Nat.succ_mul]; exact Nat.mul_le_mul_right _ hi
    rw [Nat.add_assoc, hc _ (by omega)]
    rw [getElem!_pos _ j (by rw [List.length_take, List.length_drop]; omega), List.getElem_take, List.getElem_drop, List.getElem?_eq_getElem]

theorem CellsAt.ints {w : World} {v : Value} {l : List Int} (h : CellsAt w v 1 l.length (l.map (Value.int .i64))) : Ints w v l := by
  obtain ⟨h0, a, c, rfl, hlc, h⟩ := h
  refine ⟨a, c, rfl, hlc, fun hl => ?_⟩
  obtain ⟨b, off, rfl, hb, hc⟩ := h (List.length_pos_iff.2 hl)
  refine ⟨b, off, rfl, hb, fun i hi => ?_⟩
  rw [hc i (by omega)]
  simp [hi]

/-! ### What the call has just laid -/
theorem heap_new_eq {w : World} {o : Obj} {b : Nat} (hb : b = w.heap.size) : (w.alloc o).heap[b]? = some o := by subst hb; exact heap_alloc_new w o

theorem cells_laid {W : World} {b : Nat} {t : TypeId} {fr : Nat × Nat} (size n : Nat) {xs : List Value} (hb : W.heap[b]? = some (.cells xs.toArray t fr)) (hl : xs.length = n * size) : CellsAt W (.slice (some ⟨b, 0, none⟩) n n) size n xs := by
  refine ⟨hl, _, _, rfl, Nat.le_refl _, fun _ => ⟨b, 0, rfl, (Array.getElem?_eq_some_iff.1 hb).1, fun j hj => ?_⟩⟩
  simp [World.cell?, hb]

theorem ints_laid {W : World} {b : Nat} {t : TypeId} {fr : Nat × Nat} (l : List Int) (hb : W.heap[b]? = some (.cells (l.map (Value.int .i64)).toArray t fr)) : Ints W (.slice (some ⟨b, 0, none⟩) l.length l.length) l :=
  (cells_laid 1 l.length hb (by simp)).ints

end Go.Proofs.Ytodkcfebcjgahaa
