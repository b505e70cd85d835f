/- IDs: arrays of 32 bytes, as values, as elements, as keys; what holds in every later world. -/
import Derived.Test.YthfinaocdcinlaaMap
import Derived.DeepKeys5
import Derived.Deep.MidRow
import Derived.Test.YthfinaocdcinlaaRows
namespace Go.Proofs.Ythfinaocdcinlaa
open Go.RowKit
set_option linter.unusedVariables false
set_option linter.unusedSimpArgs false

/-- An ID. -/
abbrev Id := {l : List UInt8 // l.length = 32}
def idC (x : Id) : List Value := x.1.map bv
abbrev idA (x : Id) : Array Value := (idC x).toArray
def idV (x : Id) : Value := .agg (idA x)
theorem idC_len (x : Id) : (idC x).length = 32 := by simp [idC, x.2]
theorem idA_size (x : Id) : (idA x).size = 32 := by simp [idA, idC_len]
theorem idC_one (x : Id) : ∀ v ∈ idC x, v.oneCell' = true := fun v hv => by
  obtain ⟨y, _, rfl⟩ := List.mem_map.1 hv
  rfl
theorem bv_inj {a b : UInt8} (h : bv a = bv b) : a = b := by
  simp only [bv, Value.int.injEq, true_and] at h
  exact UInt8.toNat_inj.1 (by omega)
theorem idC_inj {x y : Id} (h : idC x = idC y) : x = y := by
  apply Subtype.ext
  exact (List.map_inj_right (fun a b h => bv_inj h)).1 h
theorem idV_inj (x y : Id) (h : idV x = idV y) : x = y := by
  unfold idV idA at h
  injection h with h
  exact idC_inj (by simpa using congrArg Array.toList h)
/-- IDs in line. -/
def Ty.id : Ty Id where
  sz := 32
  K := fun x cs _ => cs = idC x
  len := fun h => by rw [h]; exact idC_len _
  one := fun h u hu => by rw [h] at hu; exact idC_one _ u hu
  loc := fun h _ _ => h

theorem laid_out' : laidOutB Try.prog = true := by kernel_rfl
theorem mapM_ex {α β : Type} {f : α → Option β} : ∀ {l : List α}, (∀ a ∈ l, ∃ b, f a = some b) → ∃ bs, l.mapM f = some bs
  | [], _ => ⟨[], rfl⟩
  | a :: l, h => by
    obtain ⟨b, hb⟩ := h a List.mem_cons_self
    obtain ⟨bs, hbs⟩ := mapM_ex (f := f) (l := l) (fun x hx => h x (List.mem_cons_of_mem _ hx))
    exact ⟨b :: bs, by rw [List.mapM_cons, hb, hbs]; rfl⟩
theorem keyIn_of {t : TypeId} (hu : Try.prog.underlying t = some (.array 32 5)) (hk : Try.prog.keyType t = true) (hc : Try.prog.cellsOf t = 32) (hce : Try.prog.cellsOf 5 = 1) (hs0 : 0 < Try.prog.types.size) (x : Id) : ∃ l, keyOf Try.prog t (idV x) = some l := by
  obtain ⟨d, hs⟩ : ∃ d, Try.prog.types.size = d + 1 := ⟨Try.prog.types.size - 1, by omega⟩
  have hf : (idV x).formed Try.prog t = true := by simp [Value.formed, idV, hu, hc, idC_len]
  have hl : ∃ ls, Try.prog.keyLits (Try.prog.types.size + 1) t (idV x).cells.toList = some ls := by
    have hcl : (idV x).cells.toList = idC x := by simp [idV, Value.cells, idA]
    rw [hcl]
    unfold Program.keyLits
    rw [hu]
    simp only
    rw [if_pos (by rw [idC_len, hc])]
    obtain ⟨bs, hbs⟩ := mapM_ex (f := fun i => Try.prog.keyLits Try.prog.types.size 5 (((idC x).drop (i * Try.prog.cellsOf 5)).take (Try.prog.cellsOf 5))) (l := List.range 32) (fun i hi => by
      have hi : i < 32 := List.mem_range.1 hi
      have hlt : i < (idC x).length := by rw [idC_len]; exact hi
      rw [hce, Nat.mul_one, hs]
      have : ((idC x).drop i).take 1 = [(idC x)[i]] := by
        rw [List.drop_eq_getElem_cons hlt]; rfl
      rw [this]
      have hv : (idC x)[i] = .int .u8 ((x.1[i]'(by rw [x.2]; exact hi)).toNat : Int) := by simp [idC, bv]
      rw [hv]
      have hw := (x.1[i]'(by rw [x.2]; exact hi)).toNat_lt
      refine ⟨[.int .u8 ((x.1[i]'(by rw [x.2]; exact hi)).toNat : Int)], ?_⟩
      unfold Program.keyLits
      rw [Try.underlying5]
      simp only
      rw [if_pos]
      refine ⟨trivial, ?_⟩
      simp [Lit.wf, IntKind.min, IntKind.max, IntKind.signed, IntKind.bits]
      omega)
    rw [hbs]
    exact ⟨_, rfl⟩
  obtain ⟨ls, hls⟩ := hl
  unfold keyOf
  rw [hu]
  simp only
  rw [if_pos (by rw [hk, hf]; rfl), hls]
  exact ⟨_, rfl⟩
theorem keyIn (x : Id) : ∃ l, keyOf Try.prog 24 (idV x) = some l := keyIn_of Try.underlying24 (by kernel_rfl) (by kernel_rfl) (by kernel_rfl) (of_decide_eq_true (by kernel_rfl)) x
theorem keyIn' (x : Id) : ∃ l, keyOf Try.prog 23 (idV x) = some l := keyIn_of Try.underlying23 (by kernel_rfl) (by kernel_rfl) (by kernel_rfl) (of_decide_eq_true (by kernel_rfl)) x
theorem idLaw : Maps.Keyed Try.prog 24 := Maps.Keyed.of_law (deep_law_gate laid_out' (of_decide_eq_true (by kernel_rfl)) (of_decide_eq_true (by kernel_rfl)) (by kernel_rfl) (by kernel_rfl))
theorem idLaw' : Maps.Keyed Try.prog 23 := Maps.Keyed.of_law (deep_law_gate laid_out' (of_decide_eq_true (by kernel_rfl)) (of_decide_eq_true (by kernel_rfl)) (by kernel_rfl) (by kernel_rfl))
theorem idKeys : KeyT Try.prog 24 idV := KeyT.of_keyed idLaw keyIn idV_inj

set_option maxRecDepth 20000 in
/-- == of two IDs. -/
theorem run_eq_of {t : TypeId} (w : World) (x y : Id) {m : Nat} (hm : m ≤ 10000) (hk : Try.prog.keyTypeAt m t = true) (hw : (match Try.prog.underlying t with | some (.array _ _) | some (.struct _) => true | _ => false) = true) (hx : ∀ x, ∃ l, keyOf Try.prog t (idV x) = some l) (hi : ∀ {a b : Value} {l : Lit}, keyOf Try.prog t a = some l → keyOf Try.prog t b = some l → a = b) :
    (Op.equal t (.agg (idA x)) (.agg (idA y))).run Try.prog w = .ok (decide (x = y)) w := by
  obtain ⟨lx, h1⟩ := hx x
  obtain ⟨ly, h2⟩ := hx y
  obtain ⟨r, hr, hiff⟩ := run_equal_deep w hm hk hw h1 h2
  have : r = decide (x = y) := by
    rw [Bool.eq_iff_iff, decide_eq_true_eq]
    refine hiff.trans ⟨fun e => idV_inj _ _ (hi h1 (e ▸ h2)), fun e => ?_⟩
    subst e
    exact Option.some.inj (h1.symm.trans h2)
  rw [this] at hr
  exact hr
theorem run_eq_id (w : World) (x y : Id) : (Op.equal 24 (.agg (idA x)) (.agg (idA y))).run Try.prog w = .ok (decide (x = y)) w :=
  run_eq_of w x y (m := 3) (by omega) (by kernel_rfl) (by kernel_rfl) keyIn idLaw.inj
theorem run_eq_id' (w : World) (x y : Id) : (Op.equal 23 (.agg (idA x)) (.agg (idA y))).run Try.prog w = .ok (decide (x = y)) w :=
  run_eq_of w x y (m := 3) (by omega) (by kernel_rfl) (by kernel_rfl) keyIn' idLaw'.inj
theorem bin_eq_id (w : World) (x y : Id) : (binOp .eql 24 (.agg (idA x)) (.agg (idA y))).run Try.prog w = .ok (.bool (decide (x = y))) w := by
  simp [binOp, run_eq_id]
theorem bin_ne_id (w : World) (x y : Id) : (binOp .neq 24 (.agg (idA x)) (.agg (idA y))).run Try.prog w = .ok (.bool (!decide (x = y))) w := by
  simp [binOp, run_eq_id]
theorem bin_eq_id' (w : World) (x y : Id) : (binOp .eql 23 (.agg (idA x)) (.agg (idA y))).run Try.prog w = .ok (.bool (decide (x = y))) w := by
  simp [binOp, run_eq_id']
theorem bin_ne_id' (w : World) (x y : Id) : (binOp .neq 23 (.agg (idA x)) (.agg (idA y))).run Try.prog w = .ok (.bool (!decide (x = y))) w := by
  simp [binOp, run_eq_id']

/-! ### what holds in every later world -/
/-- P holds in w and in every world behind it that leaves what was there. -/
def Stb (w : World) (P : World → Prop) : Prop := ∀ W, Ext w W → P W
theorem Ext.rfl' (w : World) : Ext w w := Chg.refl _ w
theorem Ext.alloc1 {w W : World} (h : Ext w W) (o : Obj) : Ext w (W.alloc o) := h.alloc o
theorem Ext.drew1 {w W : World} (h : Ext w W) : Ext w W.drew := h.drew
theorem Ext.drewN1 {w W : World} (h : Ext w W) (n : Nat) : Ext w (W.drewN n) := h.drewN n
theorem Ext.set1' {w W : World} (h : Ext w W) {a : Addr} (ha : w.heap.size ≤ a.block) (u : Value) : Ext w (W.setCell a u) := h.setCell (fun hb => absurd hb (by omega)) u
theorem Ext.tr {w W W' : World} (h : Ext w W) (k : Ext W W') : Ext w W' := h.trans k (fun _ _ h => h)
theorem Stb.mono {w w1 : World} {P : World → Prop} (h : Stb w P) (he : Ext w w1) : Stb w1 P := fun W hW => h W (he.tr hW)
theorem stb_cell {w : World} {a : Addr} {v : Value} (h : w.cell? a = some v) : ∀ W, Ext w W → W.cell? a = some v := fun W he => he.cell h (fun h => h)
theorem stb_blk {w : World} {g : Nat} {o : Obj} (h : w.heap[g]? = some o) : ∀ W, Ext w W → W.heap[g]? = some o := fun W he => he.blk h (fun h => h)
theorem stb_row {α : Type} {d : Ty α} {A : Option Addr} {l : List α} {w : World} (h : RowAt d A l w) : ∀ W, Ext w W → RowAt d A l W := fun W he => h.ext he

/-- A block of its own: a variable that holds an ID. -/
theorem load_blk {t ty : TypeId} {w : World} {g : Nat} {x : Id} {fr : Nat × Nat} (hg : w.heap[g]? = some (.cells (idA x) t fr)) (hu : Try.prog.underlying ty = some (.array 32 5)) (hi : (Try.prog.info? ty).map (·.size) = some 32) :
    (loadVar ty ⟨g, 0, none⟩).run Try.prog w = .ok (.agg (idA x)) w :=
  run_loadVar_row w g t ty (idA x) fr _ hg hu rfl (by rw [idA_size]; exact hi)
theorem range_blk {t : TypeId} {w : World} {g : Nat} {x : Id} {fr : Nat × Nat} (hg : w.heap[g]? = some (.cells (idA x) t fr)) : w.rangeAt g 0 (idC x) := fun j v hv => by
  rw [Nat.zero_add, blk_cell hg]
  simpa [idA] using hv
/-- Elements of any size, at a place that is written out. -/
theorem RowAt.openG {α : Type} {d : Ty α} {A : Option Addr} {l : List α} {w : World} (h : RowAt d A l w) (hn : 0 < l.length) (hs : 0 < d.sz) :
    ∃ g o, A = some ⟨g, o, none⟩ ∧ ∀ (j : Nat) (x : α), l[j]? = some x → ∃ cs, d.K x cs w ∧ ∀ (i : Nat) (u : Value), cs[i]? = some u → w.cell? ⟨g, o + (j * d.sz + i), none⟩ = some u := by
  obtain ⟨ad, cs, rfl, hk, hc⟩ := h 0 l[0] (List.getElem?_eq_getElem hn)
  have hl := d.len hk
  have h0 := hc 0 cs[0] (List.getElem?_eq_getElem (by omega))
  rw [Nat.zero_mul, Nat.zero_add, add_zero'] at h0
  obtain ⟨g, o, s⟩ := ad
  obtain rfl : s = none := World.cell?_spot h0
  refine ⟨g, o, rfl, fun j x hj => ?_⟩
  obtain ⟨ad, cs, e, hk, hc⟩ := h j x hj
  obtain rfl : _ = ad := by injection e
  exact ⟨cs, hk, fun i u hu => by have := hc i u hu; rw [Addr.add_lit] at this; exact this⟩
/-- A row of IDs that is not empty: where it lies; each ID of it, in every later world. -/
theorem open_ids {A : Option Addr} {l : List Id} {w : World} (h : RowAt Ty.id A l w) (hn : 0 < l.length) : ∃ g o, A = some ⟨g, o, none⟩ ∧ ∀ W, Ext w W → ∀ (j : Nat) (x : Id), l[j]? = some x → W.rangeAt g (o + j * 32) (idC x) := by
  obtain ⟨g, o, rfl, hc⟩ := h.openG hn (by decide)
  refine ⟨g, o, rfl, fun W hW j x hj i v hv => ?_⟩
  obtain ⟨cs, hk, hcell⟩ := hc j x hj
  have hk : cs = idC x := hk
  subst hk
  have := hcell i v hv
  rw [Nat.add_assoc]
  exact hW.cell this (fun h => h)
end Go.Proofs.Ythfinaocdcinlaa
