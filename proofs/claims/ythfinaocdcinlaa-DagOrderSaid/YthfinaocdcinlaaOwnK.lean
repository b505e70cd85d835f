/- Slices of the call's own whose elements have several cells. -/
import Derived.Test.YthfinaocdcinlaaMap
namespace Go.Proofs.Ythfinaocdcinlaa
open Go.RowKit
set_option linter.unusedVariables false
set_option linter.unusedSimpArgs false

/-- Elements of kind d are written by enc, whatever the world. -/
structure Flat {α : Type} (d : Ty α) (enc : α → List Value) : Prop where
  inv : ∀ {x cs w}, d.K x cs w → cs = enc x
  kk : ∀ x w, d.K x (enc x) w
  pos : 0 < d.sz
theorem Flat.len {α : Type} {d : Ty α} {enc : α → List Value} (F : Flat d enc) (w : World) (x : α) : (enc x).length = d.sz := d.len (F.kk x w)
theorem Flat.one {α : Type} {d : Ty α} {enc : α → List Value} (F : Flat d enc) (w : World) (x : α) : ∀ u ∈ enc x, u.oneCell' = true := d.one (F.kk x w)

section
variable {α : Type} {enc : α → List Value} {n : Nat}
theorem flat_len (hl : ∀ x, (enc x).length = n) : ∀ l : List α, (l.flatMap enc).length = l.length * n
  | [] => by simp
  | x :: l => by rw [List.flatMap_cons, List.length_append, hl, flat_len hl l, List.length_cons, Nat.add_mul]; omega
theorem flat_get (hl : ∀ x, (enc x).length = n) : ∀ (l : List α) (j i : Nat) (x : α), l[j]? = some x → i < n → (l.flatMap enc)[j * n + i]? = (enc x)[i]?
  | [], j, i, x, h, _ => by simp at h
  | y :: l, 0, i, x, h, hi => by
    simp only [List.getElem?_cons_zero, Option.some.injEq] at h
    subst h
    rw [List.flatMap_cons, Nat.zero_mul, Nat.zero_add, List.getElem?_append_left (by rw [hl]; exact hi)]
  | y :: l, j + 1, i, x, h, hi => by
    simp only [List.getElem?_cons_succ] at h
    rw [List.flatMap_cons, List.getElem?_append_right (by rw [hl, Nat.add_mul]; omega), hl, show (j + 1) * n + i - n = j * n + i by rw [Nat.add_mul]; omega]
    exact flat_get hl l j i x h hi
end

/-- The slice v is the call's own from block base on and holds l. -/
def OwnK {α : Type} (d : Ty α) (enc : α → List Value) (e base : Nat) (v : Value) (l : List α) (w : World) : Prop := w.ownsRow base e d.sz v l.length (l.flatMap enc)
section
variable {α : Type} {d : Ty α} {enc : α → List Value} {e base : Nat} {v : Value} {l : List α} {w w1 : World}
theorem OwnK.nil (d : Ty α) (enc : α → List Value) (e base : Nat) (w : World) : OwnK d enc e base (.slice none 0 0) [] w := World.ownsRow_nil w base e d.sz
theorem OwnK.move (h : OwnK d enc e base v l w) (hm : ∀ k, v.ownBlock = some k → w1.heap[k]? = w.heap[k]?) : OwnK d enc e base v l w1 := by
  obtain ⟨h1, h2⟩ := h
  refine ⟨h1, ?_⟩
  rcases h2 with h2 | ⟨g, cap, cur, rfl, hg, hh, r⟩
  · exact .inl h2
  · exact .inr ⟨g, cap, cur, rfl, hg, (hm g (by simp [Value.ownBlock])).trans hh, r⟩
theorem OwnK.lt (h : OwnK d enc e base v l w) : ∀ k, v.ownBlock = some k → base ≤ k ∧ k < w.heap.size := World.ownsRow.lt h
theorem OwnK.chg {T : Nat → Prop} (h : OwnK d enc e base v l w) (hc : Chg T w w1) (hd : ∀ k, v.ownBlock = some k → ¬ T k) : OwnK d enc e base v l w1 :=
  h.move (fun k hk => hc.block k (h.lt k hk).2 (hd k hk))
theorem OwnK.ext (h : OwnK d enc e base v l w) (hc : Ext w w1) : OwnK d enc e base v l w1 := h.chg hc (fun _ _ h => h)
theorem OwnK.alloc (h : OwnK d enc e base v l w) (o : Obj) : OwnK d enc e base v l (w.alloc o) := h.ext (Ext.alloc' w o)
theorem OwnK.lower {base' : Nat} (h : OwnK d enc e base v l w) (hb : base' ≤ base) : OwnK d enc e base' v l w := by
  obtain ⟨h1, h2⟩ := h
  refine ⟨h1, ?_⟩
  rcases h2 with h2 | ⟨g, cap, cur, rfl, hg, r⟩
  · exact .inl h2
  · exact .inr ⟨g, cap, cur, rfl, Nat.le_trans hb hg, r⟩
theorem OwnK.lit (F : Flat d enc) (w : World) (base e : Nat) (l : List α) (hb : base ≤ w.heap.size) (hm : l.length ≤ 9223372036854775807) :
    OwnK d enc e base (.slice (some ⟨w.heap.size, 0, none⟩) l.length l.length) l (w.alloc (.cells (l.flatMap enc).toArray e)) := by
  have hs : (l.flatMap enc).length = l.length * d.sz := flat_len (F.len w) l
  have h := World.ownsRow_lit (base := base) (e := e) (size := d.sz) w (l.flatMap enc).toArray l.length hb (by simpa [maxLen] using hm) (by simpa using hs)
  simpa [OwnK] using h
theorem OwnK.named (h : OwnK d enc e base v l w) : ∃ A k c, v = .slice A k c ∧ Hd (l.length = k) ∧ k ≤ c ∧ c ≤ 9223372036854775807 := by
  rcases h.2 with ⟨rfl, hn⟩ | ⟨g, cap, cur, rfl, _, _, h1, h2, _⟩
  · exact ⟨none, 0, 0, rfl, ⟨hn⟩, by omega, by omega⟩
  · exact ⟨_, _, cap, rfl, ⟨rfl⟩, h1, by simpa [maxLen] using h2⟩
theorem OwnK.nilcap {n c : Nat} (h : OwnK d enc e base (.slice none n c) l w) : n = 0 ∧ c = 0 := by
  rcases h.2 with ⟨h1, _⟩ | ⟨g, cap, cur, h1, _⟩
  · injection h1 with _ a b; exact ⟨a, b⟩
  · cases h1
theorem OwnK.rowAt (F : Flat d enc) {A : Option Addr} {n c : Nat} (h : OwnK d enc e base (.slice A n c) l w) : RowAt d A l w := by
  intro j x hj
  have hlt := (List.getElem?_eq_some_iff.1 hj).1
  rcases h.2 with ⟨_, hn⟩ | ⟨g, cap, cur, hv, _, _, _⟩
  · omega
  · injection hv with hA _ _
    subst hA
    refine ⟨_, enc x, rfl, F.kk x w, fun i u hu => ?_⟩
    have hi : i < d.sz := by have := (List.getElem?_eq_some_iff.1 hu).1; rw [F.len w] at this; exact this
    exact World.ownsRow.cells (g := g) h rfl _ u (by rw [flat_get (F.len w) l j i x hj hi]; exact hu)
theorem OwnK.blkOf (h : OwnK d enc e base v l w) {k : Nat} (hk : v.ownBlock = some k) : ∃ cs fr, w.heap[k]? = some (.cells cs e fr) := by
  rcases h.2 with ⟨rfl, _⟩ | ⟨g', cap, cur, rfl, _, hh, _⟩
  · simp [Value.ownBlock] at hk
  · obtain rfl : g' = k := by simpa [Value.ownBlock] using hk
    exact ⟨_, _, hh⟩
theorem OwnK.ne (h : OwnK d enc e base v l w) {g : Nat} {cs : Array Value} {t : TypeId} {fr : Nat × Nat} (hg : w.heap[g]? = some (.cells cs t fr)) (ht : e ≠ t) : ∀ k, v.ownBlock = some k → k ≠ g := by
  rintro k hk rfl
  obtain ⟨cs', fr', hb⟩ := h.blkOf hk
  rw [hb] at hg
  injection hg with hg
  injection hg with _ he
  exact ht he
theorem OwnK.neMap (h : OwnK d enc e base v l w) {g : Nat} {es : Array MapEntry} {c : Nat} (hg : w.heap[g]? = some (.map es c)) : ∀ k, v.ownBlock = some k → k ≠ g := by
  rintro k hk rfl
  obtain ⟨cs', fr', hb⟩ := h.blkOf hk
  rw [hb] at hg
  cases hg

/-- The cells of a row, as append asks for them. -/
theorem RowAt.newsK (F : Flat d enc) {ad : Addr} (h : RowAt d (some ad) l w) : ∀ (j : Nat) (u : Value), (l.flatMap enc)[j]? = some u → w.cell? (ad.add j) = some u := by
  intro j u hu
  have hp := F.pos
  have hlen := flat_len (F.len w) l
  have hj : j < l.length * d.sz := by rw [← hlen]; exact (List.getElem?_eq_some_iff.1 hu).1
  have hq : j / d.sz < l.length := Nat.div_lt_of_lt_mul (by rw [Nat.mul_comm]; exact hj)
  have hr : j % d.sz < d.sz := Nat.mod_lt _ hp
  obtain ⟨ad', cs, e1, hk, hc⟩ := h (j / d.sz) l[j / d.sz] (List.getElem?_eq_getElem hq)
  injection e1 with e1
  subst e1
  have hk := F.inv hk
  subst hk
  have hsplit : j = j / d.sz * d.sz + j % d.sz := by rw [Nat.mul_comm]; exact (Nat.div_add_mod j d.sz).symm
  have hg := flat_get (F.len w) l (j / d.sz) (j % d.sz) _ (List.getElem?_eq_getElem hq) hr
  rw [← hsplit] at hg
  rw [hg] at hu
  have := hc (j % d.sz) u hu
  rw [← hsplit] at this
  exact this
end

section
variable {P : Program} {ops : Array Oper} {rest : List Oper} {o : Oper} {a : Act} {Q : Exit → Act → World → Prop} {α : Type} {d : Ty α} {enc : α → List Value}
/-- append(v, xs...), v the call's own. -/
theorem run_append_K (F : Flat d enc) (w : World) (base : Nat) (t ty e : TypeId) (z : Value) (bytes : Nat) (ht : P.underlying t = some (.slice e))
    (hinfo : (P.info? e).map (fun i => (i.zero, i.size, i.bytes)) = some (some z, d.sz, bytes)) (hz : z.cells.size = d.sz)
    (v : Value) (l : List α) (hown : OwnK d enc e base v l w) (A : Option Addr) (c : Nat) (m : List α) (hr : RowAt d A m w)
    (hbytes : (l.length + m.length) * bytes ≤ 140737488355328) (h63 : l.length + m.length ≤ 9223372036854775807) (hbase : base ≤ w.heap.size) :
    ∃ v' w', (Builtin.append_ #[t, t] ty #[v, .slice A m.length c]).run P w = .ok v' w' ∧ OwnK d enc e base v' (l ++ m) w' ∧ w.grownBy w' v.ownBlock ∧ (v'.ownBlock = v.ownBlock ∨ v'.ownBlock = some w.heap.size) := by
  obtain ⟨i0, hi, hzz⟩ := Option.map_eq_some_iff.1 hinfo
  simp only [Prod.mk.injEq] at hzz
  obtain ⟨hz0, hz1, hz2⟩ := hzz
  rcases A with _ | ad
  · have hm : m = [] := by
      rcases Nat.eq_zero_or_pos m.length with h0 | h0
      · exact List.eq_nil_of_length_eq_zero h0
      · obtain ⟨ad, h⟩ := hr.some_ h0
        cases h
    subst hm
    refine ⟨v, w, run_append_nil' w base t ty e i0 ht hi v l.length _ hown c, by simpa using hown, World.grownBy.refl w _, .inl rfl⟩
  · obtain ⟨v', w', hrun, hown', hg, _, hat⟩ := run_append_own_at (P := P) w base t ty e i0 z d.sz bytes ht hi hz0 hz1 hz2 hz F.pos v l.length _ hown ad m.length c (m.flatMap enc) (flat_len (F.len w) m)
      (hr.newsK F) (by intro u hu; obtain ⟨x, _, hx⟩ := List.mem_flatMap.1 hu; exact F.one w x u hx) (by simp only [maxLen]; omega) hbytes hbase
    exact ⟨v', w', hrun, by unfold OwnK; rw [List.length_append, List.flatMap_append]; exact hown', hg, hat⟩
where
  run_append_nil' {P : Program} {d : Ty α} (w : World) (base : Nat) (t ty e : TypeId) (i : TypeInfo) (ht : P.underlying t = some (.slice e)) (hi : P.info? e = some i)
    (v : Value) (n : Nat) (xs : List Value) (hown : w.ownsRow base e d.sz v n xs) (c : Nat) : (Builtin.append_ #[t, t] ty #[v, .slice none 0 c]).run P w = .ok v w := by
    rcases hown.2 with ⟨rfl, rfl⟩ | ⟨g, cap, cur, rfl, _, _, hnc, _⟩
    · simp [Builtin.append_, run_underlying ht, sizeOf, typeInfo, hi, Builtin.lenOf, Builtin.firstCells]
    · simp [Builtin.append_, run_underlying ht, sizeOf, typeInfo, hi, Builtin.lenOf, Builtin.firstCells, hnc, storeCells]
theorem wpList_append_K (F : Flat d enc) {w : World} (hgd : o.guard = none) (s x : Operand) (t e : TypeId)
    (ho : o.op = .call { callee := .builtin .append, args := #[s, x], argTypes := #[t, t] })
    (z : Value) (bytes : Nat) (ht : P.underlying t = some (.slice e))
    (hinfo : (P.info? e).map (fun i => (i.zero, i.size, i.bytes)) = some (some z, d.sz, bytes)) (hz : z.cells.size = d.sz)
    {base : Nat} {v : Value} {l : List α} (hown : OwnK d enc e base v l w) (hs : a.eval s = v) {A : Option Addr} {n c : Nat} {m : List α} (hn : m.length = n) (hx : a.eval x = .slice A n c) (hr : RowAt d A m w)
    (hbytes : (l.length + n) * bytes ≤ 140737488355328) (h63 : l.length + n ≤ 9223372036854775807) (hbase : base ≤ w.heap.size)
    (h : ∀ v' w', OwnK d enc e base v' (l ++ m) w' → w.grownBy w' v.ownBlock → (v'.ownBlock = v.ownBlock ∨ v'.ownBlock = some w.heap.size) → wpList P ops Q rest (a.put o.dst v') w') : wpList P ops Q (o :: rest) a w := by
  subst hn
  obtain ⟨v', w', hrun, hown', hg, hat⟩ := run_append_K (P := P) F w base t o.type e z bytes ht hinfo hz v l hown A c m hr hbytes h63 hbase
  refine wpList_plain hgd fun K hK => ?_
  unfold Oper.wp execOp
  simp only [ho, resolve, invoke, builtin, Sem.run_bind, Sem.run_pure, Result.andThen_ok, List.map_toArray, List.map_cons, List.map_nil, hs, hx, hrun]
  exact hK _ _ (h v' w' hown' hg hat)
/-- The same at a step of a region that draws. -/
theorem step_append_K {K : Act → World → Prop} {E : Prop} (F : Flat d enc) {w : World} (hgd : o.guard = none) (s x : Operand) (t e : TypeId)
    (ho : o.op = .call { callee := .builtin .append, args := #[s, x], argTypes := #[t, t] })
    (z : Value) (bytes : Nat) (ht : P.underlying t = some (.slice e))
    (hinfo : (P.info? e).map (fun i => (i.zero, i.size, i.bytes)) = some (some z, d.sz, bytes)) (hz : z.cells.size = d.sz)
    {base : Nat} {v : Value} {l : List α} (hown : OwnK d enc e base v l w) (hs : a.eval s = v) {A : Option Addr} {n c : Nat} {m : List α} (hn : m.length = n) (hx : a.eval x = .slice A n c) (hr : RowAt d A m w)
    (hbytes : (l.length + n) * bytes ≤ 140737488355328) (h63 : l.length + n ≤ 9223372036854775807) (hbase : base ≤ w.heap.size)
    (h : ∀ v' w', OwnK d enc e base v' (l ++ m) w' → w.grownBy w' v.ownBlock → (v'.ownBlock = v.ownBlock ∨ v'.ownBlock = some w.heap.size) → K (a.put o.dst v') w') :
    if Region.wanted o (yielded ops a.tmps) = true then Oper.wp P o a w K Q else E := by
  have hw : Region.wanted o (yielded ops a.tmps) = true := by simp [Region.wanted, hgd]
  rw [if_pos hw]
  subst hn
  obtain ⟨v', w', hrun, hown', hg, hat⟩ := run_append_K (P := P) F w base t o.type e z bytes ht hinfo hz v l hown A c m hr hbytes h63 hbase
  unfold Oper.wp execOp
  simp only [ho, resolve, invoke, builtin, Sem.run_bind, Sem.run_pure, Result.andThen_ok, List.map_toArray, List.map_cons, List.map_nil, hs, hx, hrun]
  exact h v' w' hown' hg hat
end
end Go.Proofs.Ythfinaocdcinlaa
