/- Words for the laws: what stays while maps turn; loads, new variables of IDs, without saying which. -/
import Derived.Test.YthfinaocdcinlaaCon2
namespace Go.Proofs.Ythfinaocdcinlaa
open Go.RowKit
set_option linter.unusedVariables false
set_option linter.unusedSimpArgs false

section
variable {P : Program} {ops : Array Oper} {rest : List Oper} {a : Act} {Q : Exit → Act → World → Prop} {w : World} {d : Option Tmp} {op : Op} {ty : TypeId} {pos : String} {aft : Array Edge} {g : Option (Nat × Bool)}
/-- Is it the operation that writes slot k? (offered with_reducible, ahead of a law: else a law is tried at every operation, for minutes) -/
theorem wpList_at (k : Tmp) (h : wpList P ops Q (⟨some k, op, ty, pos, aft, g⟩ :: rest) a w) : wpList P ops Q (⟨some k, op, ty, pos, aft, g⟩ :: rest) a w := h
theorem wpList_atLoad (t : TypeId) {p : Operand} (h : wpList P ops Q (⟨d, .load t p, ty, pos, aft, g⟩ :: rest) a w) : wpList P ops Q (⟨d, .load t p, ty, pos, aft, g⟩ :: rest) a w := h
end
/-- P holds in every world behind w in which only blocks of S have turned. -/
def Pin (S : Nat → Prop) (w : World) (P : World → Prop) : Prop := ∀ W, Chg S w W → P W
section
variable {S : Nat → Prop} {w w1 : World} {P Q : World → Prop} {g : Nat} {x : Id} {t : TypeId} {fr : Nat × Nat}
theorem Pin.now (h : Pin S w P) : P w := h w (Chg.refl _ _)
theorem Pin.at' (h : Pin S w P) (hc : Chg S w w1) : P w1 := h w1 hc
theorem Pin.later (h : Pin S w P) (hc : Chg S w w1) : Pin S w1 P := fun W hW => h W (hc.trans hW (fun _ _ h => h))
theorem Pin.ext (h : Pin S w P) (hc : Ext w w1) : Pin S w1 P := h.later (hc.mono (fun _ _ h => h.elim))
theorem pin_blk {o : Obj} (hb : w.heap[g]? = some o) (hg : ¬ S g) : Pin S w (fun W => W.heap[g]? = some o) := fun W hW => hW.blk hb hg
theorem pin_id (hb : w.heap[g]? = some (.cells (idA x) t fr)) (hg : ¬ S g) : Pin S w (fun W => W.rangeAt g 0 (idC x)) := fun W hW => range_blk (hW.blk hb hg)
theorem pin_row {A : Option Addr} {l : List Id} (h : RowAt Ty.id A l w) (hS : ∀ b, S b → ∃ es c, w.heap[b]? = some (.map es c)) : Pin S w (fun W => RowAt Ty.id A l W) := fun W hW => h.chgS idFlat hS hW
/-- An ID lies at a place, in every world behind w in which only blocks of S have turned. -/
structure IdAt (S : Nat → Prop) (w : World) (b off : Nat) (x : Id) : Prop where out : Pin S w (fun W => W.rangeAt b off (idC x))
theorem IdAt.now {b off : Nat} (h : IdAt S w b off x) (hc : Chg S w w1) : w1.rangeAt b off (idC x) := h.out w1 hc
theorem IdAt.of (hb : w.heap[g]? = some (.cells (idA x) t fr)) (hg : ¬ S g) : IdAt S w g 0 x := ⟨pin_id hb hg⟩
theorem not_map {b : Nat} {cs : Array Value} {t : TypeId} {fr : Nat × Nat} (hS : ∀ b, S b → ∃ es c, w.heap[b]? = some (.map es c)) (hb : w.heap[b]? = some (.cells cs t fr)) : ¬ S b := fun h => by
  obtain ⟨es, c, hm⟩ := hS b h
  rw [hm] at hb; cases hb
theorem Ext.chgs (h : Ext w w1) : Chg S w w1 := h.mono (fun _ _ h => h.elim)
end

section
variable {ops : Array Oper} {rest : List Oper} {o o1 o2 o3 o4 : Oper} {a : Act} {Q : Exit → Act → World → Prop} {S : Nat → Prop} {w w0 : World} {x : Id} {b off : Nat}
/-- A load of an ID, wherever one is pinned. -/
theorem wpList_loadI (p : Operand) (ho : o.op = .load 24 p) (hw : Region.wanted o (yielded ops a.tmps) = true) (hp : a.eval p = .pointer (some ⟨b, off, none⟩)) (hpin : IdAt S w0 b off x) (hc : Chg S w0 w)
    (h : wpList Try.prog ops Q rest (a.put o.dst (.agg (idA x))) w) : wpList Try.prog ops Q (o :: rest) a w :=
  wpList_do hw fun _ hK => wp_load_mid _ p ho b off hp (idC x) _ (hpin.out w hc) Try.underlying24 rfl (by rw [idC_len]; exact info_sz0) (hK _ _ h)
theorem info_sz0' : (Try.prog.info? 23).map (·.size) = some 32 := by kernel_rfl
theorem wpList_loadJ (p : Operand) (ho : o.op = .load 23 p) (hw : Region.wanted o (yielded ops a.tmps) = true) (hp : a.eval p = .pointer (some ⟨b, off, none⟩)) (hpin : IdAt S w0 b off x) (hc : Chg S w0 w)
    (h : wpList Try.prog ops Q rest (a.put o.dst (.agg (idA x))) w) : wpList Try.prog ops Q (o :: rest) a w :=
  wpList_do hw fun _ hK => wp_load_mid _ p ho b off hp (idC x) _ (hpin.out w hc) Try.underlying23 rfl (by rw [idC_len]; exact info_sz0') (hK _ _ h)
/-- .. in a region that draws. -/
theorem reg_loadI {l : List Oper} {md : Region.Mode} {T : World → Prop} {i : Nat} {oi : Oper} {fuel : Nat} {listed : Array Bool} (hi : l[i]? = some oi) {p : Operand} (ho : oi.op = .load 24 p) (hs : Region.noSelect l.toArray = true) (hf : Region.free md l.toArray listed i = true) (hr : (Region.ready md l.toArray listed).contains i = true)
    (hx : a.eval p = .pointer (some ⟨b, off, none⟩)) (hw : Region.wanted oi (yielded l.toArray a.tmps) = true) (hc : ∀ w, T w → w.rangeAt b off (idC x))
    (hQ : ∀ c a w, Q (.panic c) (a.put oi.dst (.agg (idA x))) w → Q (.panic c) a w) (hS : T w)
    (h : wpAnyH Try.prog md l.toArray Q T fuel (listed.setIfInBounds i true) (a.put oi.dst (.agg (idA x))) w) : wpAnyH Try.prog md l.toArray Q T (fuel + 1) listed a w :=
  reg_load (cs := idC x) hi ho hs hf hr hx Try.underlying24 rfl hc (by rw [idC_len]; exact info_sz0) hw hQ hS h
theorem wpList_build1I (hw : Region.wanted o (yielded ops a.tmps) = true) (y : Operand) (ho : o.op = .build 24 #[(0, y)]) (b : UInt8) {z : Int} (hy : a.eval y = .int .u8 z) (hz : z = b.toNat) (h : wpList Try.prog ops Q rest (a.put o.dst (.agg (idA (cid b)))) w) : wpList Try.prog ops Q (o :: rest) a w :=
  wpList_build1G hw y ho b (hz ▸ hy) h
theorem wpList_build2I (hw : Region.wanted o (yielded ops a.tmps) = true) (y y' : Operand) (ho : o.op = .build 24 #[(0, y), (1, y')]) (b c : UInt8) {z z' : Int} (hy : a.eval y = .int .u8 z) (hy' : a.eval y' = .int .u8 z') (hz : z = b.toNat) (hz' : z' = c.toNat) (h : wpList Try.prog ops Q rest (a.put o.dst (.agg (idA (cid2 b c)))) w) : wpList Try.prog ops Q (o :: rest) a w :=
  wpList_build2G hw y y' ho b c (hz ▸ hy) (hz' ▸ hy') h
theorem wpList_build0I (hw : Region.wanted o (yielded ops a.tmps) = true) (ho : o.op = .build 24 #[]) (h : wpList Try.prog ops Q rest (a.put o.dst (.agg (idA zId))) w) : wpList Try.prog ops Q (o :: rest) a w :=
  wpList_do hw fun _ hK => by
    unfold Oper.wp execOp
    have e : (#[] : Array (Nat × Operand)).map (fun x => (x.1, a.eval x.2)) = #[] := by simp
    simp only [ho, List.map_toArray, List.map_nil, Sem.run_bind, run_build0, Result.andThen_ok, e]
    exact hK _ _ h
/-- Two new variables that are given IDs at once. -/
theorem wpList_vars2 (hg1 : o1.guard = none) (hg2 : o2.guard = none) (hg3 : o3.guard = none) (hg4 : o4.guard = none) (h1 : o1.op = .alloc 24) (h2 : o2.op = .alloc 24) (q3 y3 : Operand) (h3 : o3.op = .store 24 q3 y3) (q4 y4 : Operand) (h4 : o4.op = .store 24 q4 y4) (x y : Id)
    (e1 : ∀ g g' : Nat, ((a.put o1.dst (.pointer (some ⟨g, 0, none⟩))).put o2.dst (.pointer (some ⟨g', 0, none⟩))).eval q3 = .pointer (some ⟨g, 0, none⟩))
    (e2 : ∀ g g' : Nat, ((a.put o1.dst (.pointer (some ⟨g, 0, none⟩))).put o2.dst (.pointer (some ⟨g', 0, none⟩))).eval y3 = .agg (idA x))
    (e3 : ∀ g g' : Nat, (((a.put o1.dst (.pointer (some ⟨g, 0, none⟩))).put o2.dst (.pointer (some ⟨g', 0, none⟩))).put o3.dst undef).eval q4 = .pointer (some ⟨g', 0, none⟩))
    (e4 : ∀ g g' : Nat, (((a.put o1.dst (.pointer (some ⟨g, 0, none⟩))).put o2.dst (.pointer (some ⟨g', 0, none⟩))).put o3.dst undef).eval y4 = .agg (idA y))
    (h : ∀ (g g' : Nat) (w' : World), w'.heap[g]? = some (.cells (idA x) 24 (0, 0)) → w'.heap[g']? = some (.cells (idA y) 24 (0, 0)) → Ext w w' → w.heap.size ≤ g → w.heap.size ≤ g' → g ≠ g' →
      wpList Try.prog ops Q rest ((((a.put o1.dst (.pointer (some ⟨g, 0, none⟩))).put o2.dst (.pointer (some ⟨g', 0, none⟩))).put o3.dst undef).put o4.dst undef) w') : wpList Try.prog ops Q (o1 :: o2 :: o3 :: o4 :: rest) a w := by
  refine wpList_plain hg1 fun K hK => ?_
  unfold Oper.wp execOp
  simp only [h1, run_alloc_id, Sem.run_bind, Sem.run_pure, Result.andThen_ok]
  refine hK _ _ (wpList_plain hg2 fun K' hK' => ?_)
  unfold Oper.wp execOp
  simp only [h2, run_alloc_id, Sem.run_bind, Sem.run_pure, Result.andThen_ok]
  refine hK' _ _ ?_
  have b1 := blk_alloc (heap_alloc_new w (.cells (idA ⟨List.replicate 32 0, rfl⟩) 24)) (.cells (idA ⟨List.replicate 32 0, rfl⟩) 24)
  have b2 := heap_alloc_new (w.alloc (.cells (idA ⟨List.replicate 32 0, rfl⟩) 24)) (.cells (idA ⟨List.replicate 32 0, rfl⟩) 24)
  have hs : (w.alloc (.cells (idA ⟨List.replicate 32 0, rfl⟩) 24)).heap.size = w.heap.size + 1 := by simp
  refine wpList_store_id hg3 q3 y3 h3 w.heap.size (e1 _ _) x (e2 _ _) _ _ b1 (idA_size _) fun w3 b3 c3 => ?_
  refine wpList_store_id hg4 q4 y4 h4 _ (e3 _ _) y (e4 _ _) _ _ (c3.blk b2 (by omega)) (idA_size _) fun w4 b4 c4 => ?_
  refine h w.heap.size _ w4 (c4.blk b3 (by omega)) b4 ?_ (Nat.le_refl _) (by omega) (by omega)
  exact ((((Ext.rfl' w).alloc1 _).alloc1 _).chg c3 (fun b hb => by omega)).chg c4 (fun b hb => by omega)
end
/-- A store of an ID into a variable, at an operation. -/
theorem op_store_id {o : Oper} {a : Act} {Q : Exit → Act → World → Prop} {K : Act → World → Prop} {w : World} (q y : Operand) (ho : o.op = .store 24 q y) (g : Nat) (hq : a.eval q = .pointer (some ⟨g, 0, none⟩)) (x : Id) (hy : a.eval y = .agg (idA x)) (cs : Array Value) (t : TypeId)
    (hb : w.heap[g]? = some (.cells cs t (0, 0))) (hcs : cs.size = 32) (h : ∀ w', w'.heap[g]? = some (.cells (idA x) t (0, 0)) → Chg (· = g) w w' → K (a.put o.dst undef) w') : Oper.wp Try.prog o a w K Q :=
  wp_store_row _ q y ho g (idA x) hq hy t cs hb (by rw [idA_size]; exact info_sz0) (by rw [hcs, idA_size]) (by simpa using idC_one x) (h _ (setRow_heap w g cs (idA x) t (0, 0) hb) (setRow_chg w g _))
theorem len2 {l : List Id} {a b : Id} (h1 : l.Nodup) (h : ∀ n, n ∈ l ↔ n ∈ [a, b]) (hab : a ≠ b) : l.length = 2 := len_of (S := [a, b]) h1 (by simp [hab]) h
theorem and_small (z : Int) (m : Nat) (hm : m ≤ 1000000) : ∃ k : Nat, k ≤ m ∧ bits .and .i64 z (m : Int) = (k : Int) := by
  refine ⟨(BitVec.ofInt 64 z &&& BitVec.ofInt 64 (m : Int)).toNat, ?_, ?_⟩
  · rw [BitVec.toNat_and]
    refine Nat.le_trans Nat.and_le_right ?_
    rw [BitVec.toNat_ofInt]
    omega
  · have h : (BitVec.ofInt 64 z &&& BitVec.ofInt 64 (m : Int)).toNat ≤ m := by
      rw [BitVec.toNat_and]
      refine Nat.le_trans Nat.and_le_right ?_
      rw [BitVec.toNat_ofInt]
      omega
    show IntKind.i64.wrap ((BitVec.ofInt 64 z &&& BitVec.ofInt 64 (m : Int)).toNat : Int) = _
    rw [IntKind.wrap_i64]
    generalize (BitVec.ofInt 64 z &&& BitVec.ofInt 64 (m : Int)).toNat = q at *
    omega
theorem DagAt.chgF {S F : Nat → Prop} {g m1 m2 : Nat} {D : Nodes} {w w' : World} (h : DagAt g m1 m2 D w) (hF : RowsIn F m1 w) (hc : Chg S w w') (hg : ¬ S g) (h1 : ¬ S m1) (h2 : ¬ S m2) (hd : ∀ b, F b → ¬ S b) : DagAt g m1 m2 D w' ∧ RowsIn F m1 w' := by
  obtain ⟨hg0, hne, ⟨l1, a1, a2, a3⟩, l2, b1, b2⟩ := h
  refine ⟨⟨hc.blk hg0 hg, hne, ⟨l1, a1.chg hc h1, a2, fun x n hx => ?_⟩, l2, b1.chg hc h2, b2⟩, hF.same a1 (a1.chg hc h1)⟩
  obtain ⟨v, hv, A, c, rfl, k1, k2, k3⟩ := a3 x n hx
  refine ⟨_, hv, A, c, rfl, k1, k2, fun j y hj => ?_⟩
  obtain ⟨ad, cs, e, hk, hcell⟩ := k3 j y hj
  refine ⟨ad, cs, e, hk, fun i u hu => hc.cell (hcell i u hu) (fun hS => ?_)⟩
  rw [add_block] at hS
  exact hd _ (hF l1 a1 x _ hv A _ c _ rfl (by have := (List.getElem?_eq_some_iff.1 hj).1; omega) ad e) hS
theorem DagAt.rowsLt {g m1 m2 : Nat} {D : Nodes} {w : World} (h : DagAt g m1 m2 D w) : RowsIn (· < w.heap.size) m1 w := by
  obtain ⟨hg0, hne, ⟨l1, a1, a2, a3⟩, l2, b1, b2⟩ := h
  intro l hl x v hx A k c d e hk ad ha
  obtain rfl := listOf_inj hl a1
  cases hx' : look D x with
  | none => rw [(look_keys a2 x).2 hx'] at hx; cases hx
  | some n =>
    obtain ⟨v', hv', A', c', rfl, k1, k2, k3⟩ := a3 x n hx'
    rw [hx] at hv'
    injection hv' with hv'
    rw [e] at hv'
    injection hv' with hv'
    simp only [Array.mk.injEq, List.cons.injEq, Value.slice.injEq] at hv'
    obtain ⟨⟨rfl, rfl, rfl⟩, _⟩ := hv'
    obtain ⟨ad', cs, e1, hk1, hc1⟩ := k3 0 n.1[0] (List.getElem?_eq_getElem hk)
    obtain rfl : ad = ad' := Option.some.inj (ha.symm.trans e1)
    have hl := Ty.id.len hk1
    have hlen : 0 < cs.length := by rw [hl]; decide
    have h0 := hc1 0 cs[0] (List.getElem?_eq_getElem hlen)
    have := World.block_lt_of_cell? w _ h0
    rw [add_block] at this
    exact this
theorem add_smallF {g m1 m2 : Nat} {D D' : Nodes} {r : Int} {x : Id} {ps : List Id} {A : Option Addr} {n c : Nat} {w : World} (h : DagAt g m1 m2 D w) (he : addF D x ps = (D', r)) (hn : ps.length = n) (hb : n ≤ 1000000000) (hr : RowAt Ty.id A ps w) (hs : wgtAll D ≤ 1000 ∧ ∀ p, dep D p ≤ 1000) :
    Calls Try.prog 10 #[.pointer (some ⟨g, 0, none⟩), .agg (idA x), .slice A n c] w fun e w' => e = .returned (.int .i64 r) ∧ DagAt g m1 m2 D' w' ∧ Chg (fun b => b = m1 ∨ b = m2) w w' ∧ RowsMove m1 w w' := by
  refine (add_callsF g m1 m2 D x ps A n c w h hn hb hr (by have := par_le D x; omega) (fun p => Nat.le_trans (hs.2 p) (by omega))).mono ?_
  rintro e w' ⟨⟨h1, h2, h3⟩, h4⟩
  rw [he] at h1 h2
  exact ⟨h1, h2, h3, h4⟩
/-- A Dag whose parents lie in blocks of F. -/
structure DG (g m1 m2 : Nat) (F : Nat → Prop) (D : Nodes) (w : World) : Prop where
  dag : DagAt g m1 m2 D w
  rows : RowsIn F m1 w
section
variable {g m1 m2 : Nat} {F G S : Nat → Prop} {D D' : Nodes} {w w' : World}
theorem DG.ext (h : DG g m1 m2 F D w) (he : Ext w w') : DG g m1 m2 F D w' := by
  obtain ⟨l1, hl⟩ := h.dag.map1
  exact ⟨h.dag.ext he, h.rows.same hl (hl.ext he)⟩
theorem DG.mono (h : DG g m1 m2 F D w) (hi : ∀ b, F b → G b) : DG g m1 m2 G D w := ⟨h.dag, h.rows.mono hi⟩
theorem DG.chg (h : DG g m1 m2 F D w) (hc : Chg S w w') (hg : ¬ S g) (h1 : ¬ S m1) (h2 : ¬ S m2) (hd : ∀ b, F b → ¬ S b) : DG g m1 m2 F D w' := by
  obtain ⟨a, b⟩ := h.dag.chgF h.rows hc hg h1 h2 hd
  exact ⟨a, b⟩
theorem DG.of (h : DagAt g m1 m2 D w) : DG g m1 m2 (· < w.heap.size) D w := ⟨h, h.rowsLt⟩
theorem add_smallG {r : Int} {x : Id} {ps : List Id} {A : Option Addr} {n c : Nat} (h : DG g m1 m2 F D w) (hF : ∀ b, w.heap.size ≤ b → F b) (he : addF D x ps = (D', r)) (hn : ps.length = n) (hb : n ≤ 1000000000) (hr : RowAt Ty.id A ps w) (hs : wgtAll D ≤ 1000 ∧ ∀ p, dep D p ≤ 1000) :
    Calls Try.prog 10 #[.pointer (some ⟨g, 0, none⟩), .agg (idA x), .slice A n c] w fun e w' => e = .returned (.int .i64 r) ∧ DG g m1 m2 F D' w' ∧ Chg (fun b => b = m1 ∨ b = m2) w w' := by
  refine (add_smallF h.dag he hn hb hr hs).mono ?_
  rintro e w' ⟨h1, h2, h3, h4⟩
  exact ⟨h1, ⟨h2, (h4 F h.rows).mono (fun b hb => hb.elim id (hF b))⟩, h3⟩
end
/-- Add to a small Dag, its answer known. -/
theorem add_small {g m1 m2 : Nat} {D D' : Nodes} {r : Int} {x : Id} {ps : List Id} {A : Option Addr} {n c : Nat} {w : World} (h : DagAt g m1 m2 D w) (he : addF D x ps = (D', r)) (hn : ps.length = n) (hb : n ≤ 1000000000) (hr : RowAt Ty.id A ps w) (hs : wgtAll D ≤ 1000 ∧ ∀ p, dep D p ≤ 1000) :
    Calls Try.prog 10 #[.pointer (some ⟨g, 0, none⟩), .agg (idA x), .slice A n c] w fun e w' => e = .returned (.int .i64 r) ∧ DagAt g m1 m2 D' w' ∧ Chg (fun b => b = m1 ∨ b = m2) w w' := by
  refine (add_calls g m1 m2 D x ps A n c w h hn hb hr (by have := par_le D x; omega) (fun p => Nat.le_trans (hs.2 p) (by omega))).mono ?_
  rintro e w' ⟨h1, h2, h3⟩
  rw [he] at h1 h2
  exact ⟨h1, h2, h3⟩
end Go.Proofs.Ythfinaocdcinlaa
