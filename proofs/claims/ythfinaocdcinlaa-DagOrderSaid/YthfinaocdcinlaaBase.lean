/- Words for memory, over any program: what changes between two worlds, what is read at an address, what a call owns. -/
import Derived.WalkKit
import Derived.WalkSpells
import Derived.WalkLawsBesides
import Derived.Maps.AppendAt
import Derived.Deep.AppendLies
import Derived.Deep.QuietTactic
import Derived.BigQuiet
import Derived.Lib.SliceRun
import Derived.Deep.LoopGhost
import Derived.Laws.BytesArg
import Derived.Lib.SlBytesConst
namespace Go.Proofs.Ythfinaocdcinlaa
open Go.RowKit
set_option linter.unusedVariables false
set_option linter.unusedSimpArgs false

/-- A fact that the walk does not look into. -/
structure Hd (p : Prop) : Prop where mk :: (out : p)

/-- w' is w but for the blocks of S, and for new ones. -/
structure Chg (S : Nat → Prop) (w w' : World) : Prop where
  os : w'.os = w.os
  tape : w'.tape = w.tape
  output : w'.output = w.output
  size : w.heap.size ≤ w'.heap.size
  block : ∀ k, k < w.heap.size → ¬ S k → w'.heap[k]? = w.heap[k]?

/-- Nothing that was there has turned. -/
abbrev Ext (w w' : World) : Prop := Chg (fun _ => False) w w'

section
variable {S S' T : Nat → Prop} {w w1 w2 w' : World}
theorem Chg.refl (S : Nat → Prop) (w : World) : Chg S w w := ⟨rfl, rfl, rfl, Nat.le_refl _, fun _ _ _ => rfl⟩
theorem Chg.trans (h : Chg S w w1) (k : Chg T w1 w2) (hT : ∀ b, b < w.heap.size → T b → S b) : Chg S w w2 :=
  ⟨k.os.trans h.os, k.tape.trans h.tape, k.output.trans h.output, Nat.le_trans h.size k.size, fun b hb hS =>
    (k.block b (Nat.lt_of_lt_of_le hb h.size) (fun ht => hS (hT b hb ht))).trans (h.block b hb hS)⟩
theorem Chg.mono (h : Chg S w w1) (hS : ∀ b, b < w.heap.size → S b → T b) : Chg T w w1 :=
  ⟨h.os, h.tape, h.output, h.size, fun b hb hT => h.block b hb (fun hs => hT (hS b hb hs))⟩
theorem Chg.ext (h : Chg S w w1) (k : Ext w1 w2) : Chg S w w2 := h.trans k (fun _ _ h => h.elim)
theorem Ext.then (h : Ext w w1) (k : Chg S w1 w2) : Chg S w w2 := (h.mono (fun _ _ h => h.elim)).trans k (fun _ _ h => h)
theorem Ext.chg (h : Ext w w1) (k : Chg T w1 w2) (hT : ∀ b, T b → w.heap.size ≤ b) : Ext w w2 := h.trans k (fun b hb ht => absurd (hT b ht) (by omega))
theorem Chg.chg (h : Chg (fun _ => False) w w1) (k : Chg T w1 w2) (hT : ∀ b, T b → w.heap.size ≤ b) : Ext w w2 := Ext.chg h k hT
theorem Chg.drew (h : Chg S w w1) : Chg S w w1.drew := ⟨h.os, h.tape, h.output, h.size, h.block⟩
theorem Chg.drewN (h : Chg S w w1) (n : Nat) : Chg S w (w1.drewN n) := ⟨h.os, h.tape, h.output, h.size, h.block⟩
theorem Ext.alloc' (w : World) (o : Obj) : Ext w (w.alloc o) := ⟨rfl, rfl, rfl, by simp, fun k hk _ => Below.heap_alloc w o k hk⟩
theorem Chg.alloc (h : Chg S w w1) (o : Obj) : Chg S w (w1.alloc o) := h.ext (Ext.alloc' w1 o)
theorem Chg.setCell' (w : World) (a : Addr) (u : Value) : Chg (· = a.block) w (w.setCell a u) :=
  ⟨rfl, rfl, rfl, by simp, fun k _ hn => Below.heap_setCell w a u k hn⟩
theorem Chg.setCell (h : Chg S w w1) {a : Addr} (ha : a.block < w.heap.size → S a.block) (u : Value) : Chg S w (w1.setCell a u) :=
  h.trans (Chg.setCell' w1 a u) (fun b hb he => by subst he; exact ha hb)
theorem Chg.set1 (h : Chg S w w1) {g : Nat} (i : Nat) (u : Value) (hg : S g) : Chg S w (w1.setCell ⟨g, i, none⟩ u) := h.setCell (a := ⟨g, i, none⟩) (fun _ => hg) u
theorem Chg.of_grown {row : Option Nat} (hg : w.grownBy w1 row) : Chg (fun k => some k = row) w w1 := ⟨hg.os, hg.tape, hg.output, hg.size, fun k hk hn => hg.block k hk hn⟩
theorem Chg.grown (h : Chg S w w1) {row : Option Nat} (hg : w1.grownBy w2 row) (hr : ∀ k, k < w.heap.size → row = some k → S k) : Chg S w w2 :=
  h.trans (Chg.of_grown hg) (fun b hb he => hr b hb he.symm)
theorem Ext.below (h : Ext w w1) : Below w.heap.size w w1 := ⟨h.os, h.tape, h.output, h.size, fun k hk => h.block k hk (fun h => h)⟩
theorem Below.ext (h : Below w.heap.size w w1) : Ext w w1 := ⟨h.os, h.tape, h.output, h.size, fun k hk _ => h.block k hk⟩
theorem Chg.cell (h : Chg S w w1) {a : Addr} {v : Value} (hc : w.cell? a = some v) (hS : ¬ S a.block) : w1.cell? a = some v :=
  (World.cell?_of_block (w := w) (h.block a.block (World.block_lt_of_cell? w a hc) hS)).trans hc
theorem Chg.blk (h : Chg S w w1) {g : Nat} {o : Obj} (hg : w.heap[g]? = some o) (hS : ¬ S g) : w1.heap[g]? = some o := by
  have hlt : g < w.heap.size := (Array.getElem?_eq_some_iff.1 hg).1
  exact (h.block g hlt hS).trans hg
end

theorem blk_lt {w : World} {g : Nat} {o : Obj} (h : w.heap[g]? = some o) : g < w.heap.size := (Array.getElem?_eq_some_iff.1 h).1
theorem blk_cell {w : World} {g : Nat} {t : TypeId} {cs : Array Value} {fr : Nat × Nat} (h : w.heap[g]? = some (.cells cs t fr)) (i : Nat) : w.cell? ⟨g, i, none⟩ = cs[i]? := cell_of_row w g i cs t fr h
theorem blk_free {w : World} {g : Nat} {t : TypeId} {cs : Array Value} (h : w.heap[g]? = some (.cells cs t (0, 0))) (i : Nat) : w.frozen? ⟨g, i, none⟩ = false := frozen_of_row w g i cs t h
theorem blk_set {w : World} {g : Nat} {t : TypeId} {cs : Array Value} {fr : Nat × Nat} (h : w.heap[g]? = some (.cells cs t fr)) (i : Nat) (u : Value) : (w.setCell ⟨g, i, none⟩ u).heap[g]? = some (.cells (cs.setIfInBounds i u) t fr) := by
  simp [World.setCell, Array.getElem?_modify, h]
theorem blk_far {w : World} {g : Nat} {o : Obj} (h : w.heap[g]? = some o) {p : Addr} (hp : g ≠ p.block) (u : Value) : (w.setCell p u).heap[g]? = some o := (Below.heap_setCell w p u g hp).trans h
theorem blk_alloc {w : World} {g : Nat} {o : Obj} (h : w.heap[g]? = some o) (o' : Obj) : (w.alloc o').heap[g]? = some o := (Below.heap_alloc w o' g (blk_lt h)).trans h
theorem blk_drew {w : World} {g : Nat} {o : Obj} (h : w.heap[g]? = some o) : w.drew.heap[g]? = some o := h
theorem blk_drewN {w : World} {g : Nat} {o : Obj} (h : w.heap[g]? = some o) (n : Nat) : (w.drewN n).heap[g]? = some o := h
theorem blk_ne {w : World} {g g' : Nat} {o o' : Obj} (h : w.heap[g]? = some o) (h' : w.heap[g']? = some o') (hne : o ≠ o') : g ≠ g' := by
  rintro rfl
  rw [h] at h'
  injection h' with h'
  exact hne h'

section
variable {P : Program}
theorem eql_sl_nil (w : World) (t : TypeId) (a : Option Addr) (n c n' c' : Nat) (h : P.underlying t = some (.slice (P.elem t))) :
    (binOp .eql t (.slice a n c) (.slice none n' c')).run P w = .ok (.bool a.isNone) w := Lib.run_eql_slice_nil w t _ a n c n' c' h
theorem neq_sl_nil (w : World) (t : TypeId) (a : Option Addr) (n c n' c' : Nat) (h : P.underlying t = some (.slice (P.elem t))) :
    (binOp .neq t (.slice a n c) (.slice none n' c')).run P w = .ok (.bool (!a.isNone)) w := run_neq_slice_nil_any w t _ a n c n' c' h
end

/-! ### footprints: P holds in every world that has the blocks of S -/
def Agr (S : Nat → Prop) (w w' : World) : Prop := ∀ k, S k → k < w.heap.size → w'.heap[k]? = w.heap[k]?
def At (S : Nat → Prop) (P : World → Prop) (w : World) : Prop := ∀ w', Agr S w w' → P w'
section
variable {S S' T : Nat → Prop} {P Q : World → Prop} {w w1 w2 w' : World}
theorem Agr.refl (S : Nat → Prop) (w : World) : Agr S w w := fun _ _ _ => rfl
theorem Agr.lt (h : Agr S w w1) {k : Nat} (hs : S k) (hk : k < w.heap.size) : k < w1.heap.size := by
  have h1 := h k hs hk
  rw [Array.getElem?_eq_getElem hk] at h1
  exact blk_lt h1
theorem Agr.trans (h : Agr S w w1) (k : Agr S w1 w2) : Agr S w w2 := fun b hs hb => (k b hs (h.lt hs hb)).trans (h b hs hb)
theorem At.now (h : At S P w) : P w := h w (Agr.refl S w)
theorem At.mono (h : At S P w) (hS : ∀ k, k < w.heap.size → S k → T k) : At T P w := fun w' ha => h w' (fun k hs hk => ha k (hS k hk hs) hk)
theorem At.imp (h : At S P w) (hi : ∀ w', P w' → Q w') : At S Q w := fun w' ha => hi w' (h w' ha)
theorem At.move (h : At S P w) (ha : Agr S w w1) : At (fun k => S k ∧ k < w.heap.size) P w1 := fun w' hb => h w' (fun k hs hk => (hb k ⟨hs, hk⟩ (ha.lt hs hk)).trans (ha k hs hk))
theorem At.chg (h : At S P w) (hc : Chg T w w1) (hd : ∀ k, k < w.heap.size → S k → ¬ T k) : At (fun k => S k ∧ k < w.heap.size) P w1 :=
  h.move (fun k hs hk => hc.block k hk (hd k hk hs))
theorem At.and (h : At S P w) (k : At S Q w) : At S (fun w => P w ∧ Q w) w := fun w' ha => ⟨h w' ha, k w' ha⟩
theorem At.bound (h : At S P w) : At (fun k => S k ∧ k < w.heap.size) P w := h.mono (fun k hk hs => ⟨hs, hk⟩)
end

/-! ### what is read at an address: elements of kind d -/
structure Ty (α : Type) where
  sz : Nat
  K : α → List Value → World → Prop
  len : ∀ {x cs w}, K x cs w → cs.length = sz
  one : ∀ {x cs w}, K x cs w → ∀ u ∈ cs, u.oneCell' = true
  /-- what holds, holds by blocks that are there -/
  loc : ∀ {x cs w}, K x cs w → At (fun _ => True) (K x cs) w

/-- One cell, no memory. -/
def Ty.sc {α : Type} (enc : α → Value) (h1 : ∀ x, (enc x).oneCell' = true) : Ty α where
  sz := 1
  K := fun x cs _ => cs = [enc x]
  len := fun h => by rw [h]; rfl
  one := fun h u hu => by rw [h] at hu; rw [List.mem_singleton.1 hu]; exact h1 _
  loc := fun h _ _ => h

def bv (x : UInt8) : Value := .int .u8 x.toNat
theorem bv_one (x : UInt8) : (bv x).oneCell' = true := rfl
def Ty.u8 : Ty UInt8 := Ty.sc bv bv_one
def Ty.int : Ty Int := Ty.sc (Value.int .i64) (fun _ => rfl)
def Ty.bool : Ty Bool := Ty.sc Value.bool (fun _ => rfl)
def Ty.str : Ty ByteArray := Ty.sc Value.string (fun _ => rfl)

/-- Elements of kind d from address A on. -/
def RowAt {α : Type} (d : Ty α) (A : Option Addr) (l : List α) (w : World) : Prop :=
  ∀ (j : Nat) (x : α), l[j]? = some x → ∃ ad cs, A = some ad ∧ d.K x cs w ∧ ∀ (i : Nat) (u : Value), cs[i]? = some u → w.cell? (ad.add (j * d.sz + i)) = some u

theorem RowAt.nil {α : Type} (d : Ty α) (A : Option Addr) (w : World) : RowAt d A [] w := fun j x h => by simp at h

/-- A cell that is read lies in a block; worlds that agree there read it alike. -/
theorem cell_agr {S : Nat → Prop} {w w1 : World} {a : Addr} {v : Value} (ha : Agr S w w1) (hc : w.cell? a = some v) (hs : S a.block) : w1.cell? a = some v :=
  (World.cell?_of_block (w := w) (ha a.block hs (World.block_lt_of_cell? w a hc))).trans hc

theorem RowAt.loc {α : Type} {d : Ty α} {A : Option Addr} {l : List α} {w : World} (h : RowAt d A l w) : At (fun _ => True) (RowAt d A l) w := fun w' ha j x hj => by
  obtain ⟨ad, cs, e, hk, hc⟩ := h j x hj
  exact ⟨ad, cs, e, d.loc hk w' ha, fun i u hu => cell_agr ha (hc i u hu) trivial⟩

theorem At.ext {P : World → Prop} {w w1 : World} (h : At (fun _ => True) P w) (he : Ext w w1) : At (fun _ => True) P w1 :=
  (h.chg he (fun _ _ _ h => h)).mono (fun _ _ _ => trivial)
/-- What held ahead of a new block leans on other blocks than it. -/
theorem At.fresh {P : World → Prop} {w : World} (h : At (fun _ => True) P w) (o : Obj) : At (· ≠ w.heap.size) P (w.alloc o) :=
  (h.chg (Ext.alloc' w o) (fun _ _ _ h => h)).mono (fun k _ hk => Nat.ne_of_lt hk.2)
theorem Ty.ext {α : Type} (d : Ty α) {x : α} {cs : List Value} {w w1 : World} (h : d.K x cs w) (he : Ext w w1) : d.K x cs w1 := ((d.loc h).ext he).now
theorem RowAt.ext {α : Type} {d : Ty α} {A : Option Addr} {l : List α} {w w1 : World} (h : RowAt d A l w) (he : Ext w w1) : RowAt d A l w1 := (h.loc.ext he).now

theorem add_add (a : Addr) (i j : Nat) : (a.add i).add j = a.add (i + j) := by
  unfold Addr.add
  by_cases hi : i = 0 <;> by_cases hj : j = 0 <;> simp [hi, hj, Nat.add_assoc]
theorem add_block (a : Addr) (n : Nat) : (a.add n).block = a.block := by unfold Addr.add; split <;> rfl
theorem add_zero' (a : Addr) : a.add 0 = a := by unfold Addr.add; simp

theorem RowAt.drop {α : Type} {d : Ty α} {A : Option Addr} {l : List α} {w : World} (h : RowAt d A l w) (n cap : Nat) (hc : l.length ≤ cap) : RowAt d (if cap = n then A else A.map (·.add (n * d.sz))) (l.drop n) w := fun j x hj => by
  rw [List.getElem?_drop] at hj
  obtain ⟨ad, cs, e, hk, hcell⟩ := h (n + j) x hj
  have hlt : n + j < l.length := (List.getElem?_eq_some_iff.1 hj).1
  rw [if_neg (by omega)]
  refine ⟨ad.add (n * d.sz), cs, by rw [e]; rfl, hk, fun i u hu => ?_⟩
  rw [add_add, show n * d.sz + (j * d.sz + i) = (n + j) * d.sz + i by rw [Nat.add_mul]; omega]
  exact hcell i u hu
theorem RowAt.take {α : Type} {d : Ty α} {A : Option Addr} {l : List α} {w : World} (h : RowAt d A l w) (n : Nat) : RowAt d A (l.take n) w := fun j x hj => by
  rw [List.getElem?_take] at hj
  split at hj
  · exact h j x hj
  · cases hj

/-- The slice value v reads as the list l of elements of kind d. -/
def Sl {α : Type} (d : Ty α) (v : Value) (l : List α) (w : World) : Prop :=
  ∃ A c, v = .slice A l.length c ∧ l.length ≤ c ∧ c ≤ 9223372036854775807 ∧ RowAt d A l w

theorem Sl.loc {α : Type} {d : Ty α} {v : Value} {l : List α} {w : World} (h : Sl d v l w) : At (fun _ => True) (Sl d v l) w := fun w' ha => by
  obtain ⟨A, c, e, h1, h2, h3⟩ := h
  exact ⟨A, c, e, h1, h2, h3.loc w' ha⟩
theorem Sl.ext {α : Type} {d : Ty α} {v : Value} {l : List α} {w w1 : World} (h : Sl d v l w) (he : Ext w w1) : Sl d v l w1 := (h.loc.ext he).now
theorem Sl.nil {α : Type} (d : Ty α) (w : World) : Sl d (.slice none 0 0) [] w := ⟨none, 0, rfl, by simp, by omega, RowAt.nil d _ w⟩

/-- A slice as one cell. -/
def Ty.sl {α : Type} (d : Ty α) : Ty (List α) where
  sz := 1
  K := fun x cs w => ∃ v, cs = [v] ∧ Sl d v x w
  len := by rintro x cs w ⟨v, rfl, _⟩; rfl
  one := by
    rintro x cs w ⟨v, rfl, A, c, rfl, _⟩ u hu
    rw [List.mem_singleton.1 hu]; rfl
  loc := by
    rintro x cs w ⟨v, rfl, h⟩ w' ha
    exact ⟨v, rfl, h.loc w' ha⟩

/-! ### what the call itself owns: one-cell elements -/
/-- The slice v is the call's own from block base on and holds l (elements of one cell: enc). -/
def OwnS {α : Type} (enc : α → Value) (e base : Nat) (v : Value) (l : List α) (w : World) : Prop := w.ownsRow base e 1 v l.length (l.map enc)

section
variable {α : Type} {enc : α → Value} {e base : Nat} {v : Value} {l : List α} {w w1 : World}
theorem OwnS.nil (enc : α → Value) (e base : Nat) (w : World) : OwnS enc e base (.slice none 0 0) [] w := World.ownsRow_nil w base e 1
theorem OwnS.move (h : OwnS enc e base v l w) (hm : ∀ k, v.ownBlock = some k → w1.heap[k]? = w.heap[k]?) : OwnS enc e base v l w1 := by
  obtain ⟨h1, h2⟩ := h
  refine ⟨h1, ?_⟩
  rcases h2 with h2 | ⟨g, cap, cur, rfl, hg, hh, r⟩
  · exact .inl h2
  · exact .inr ⟨g, cap, cur, rfl, hg, (hm g (by simp [Value.ownBlock])).trans hh, r⟩
theorem OwnS.lt (h : OwnS enc e base v l w) : ∀ k, v.ownBlock = some k → base ≤ k ∧ k < w.heap.size := World.ownsRow.lt h
theorem OwnS.chg {T : Nat → Prop} (h : OwnS enc e base v l w) (hc : Chg T w w1) (hd : ∀ k, v.ownBlock = some k → ¬ T k) : OwnS enc e base v l w1 :=
  h.move (fun k hk => hc.block k (h.lt k hk).2 (hd k hk))
theorem OwnS.ext (h : OwnS enc e base v l w) (hc : Ext w w1) : OwnS enc e base v l w1 := h.chg hc (fun _ _ h => h)
theorem OwnS.alloc (h : OwnS enc e base v l w) (o : Obj) : OwnS enc e base v l (w.alloc o) := h.ext (Ext.alloc' w o)
theorem OwnS.drew (h : OwnS enc e base v l w) : OwnS enc e base v l w.drew := h
theorem OwnS.drewN (h : OwnS enc e base v l w) (n : Nat) : OwnS enc e base v l (w.drewN n) := h
theorem OwnS.lower {base' : Nat} (h : OwnS enc e base v l w) (hb : base' ≤ base) : OwnS enc e base' v l w := by
  obtain ⟨h1, h2⟩ := h
  refine ⟨h1, ?_⟩
  rcases h2 with h2 | ⟨g, cap, cur, rfl, hg, r⟩
  · exact .inl h2
  · exact .inr ⟨g, cap, cur, rfl, Nat.le_trans hb hg, r⟩
theorem OwnS.lit (w : World) (base e : Nat) (l : List α) (hb : base ≤ w.heap.size) (hm : l.length ≤ 9223372036854775807) :
    OwnS enc e base (.slice (some ⟨w.heap.size, 0, none⟩) l.length l.length) l (w.alloc (.cells (l.map enc).toArray e)) := by
  have h := World.ownsRow_lit (base := base) (e := e) (size := 1) w (l.map enc).toArray l.length hb (by simpa [maxLen] using hm) (by simp)
  simpa [OwnS] using h
theorem OwnS.form (h : OwnS enc e base v l w) : ∃ A c, v = .slice A l.length c ∧ l.length ≤ c ∧ c ≤ 9223372036854775807 := by
  rcases h.2 with ⟨rfl, hn⟩ | ⟨g, cap, cur, rfl, _, _, h1, h2, _⟩
  · exact ⟨none, 0, by rw [hn], by omega, by omega⟩
  · exact ⟨_, cap, rfl, h1, by simpa [maxLen] using h2⟩
theorem OwnS.form' (h : OwnS enc e base v l w) {n : Nat} (hn : l.length = n) : ∃ A c, v = .slice A n c ∧ n ≤ c ∧ c ≤ 9223372036854775807 := by
  subst hn; exact h.form
theorem OwnS.cells (h : OwnS enc e base v l w) {A : Option Addr} {n c : Nat} (hv : v = .slice A n c) : ∀ (j : Nat) (x : α), l[j]? = some x → ∃ ad, A = some ad ∧ w.cell? (ad.add j) = some (enc x) := by
  intro j x hj
  have hlt := (List.getElem?_eq_some_iff.1 hj).1
  rcases h.2 with ⟨_, hn⟩ | ⟨g, cap, cur, rfl, _, _, _⟩
  · omega
  · injection hv with hA _ _
    subst hA
    refine ⟨_, rfl, World.ownsRow.cells (g := g) h rfl j _ ?_⟩
    rw [List.getElem?_map, hj]; rfl
theorem OwnS.rowAt (h1 : ∀ x, (enc x).oneCell' = true) {A : Option Addr} {n c : Nat} (h : OwnS enc e base (.slice A n c) l w) : RowAt (Ty.sc enc h1) A l w := by
  refine fun j x hj => ?_
  obtain ⟨ad, hA, hc⟩ := h.cells rfl j x hj
  refine ⟨ad, [enc x], hA, rfl, fun i u hu => ?_⟩
  have hi : i = 0 := by have := (List.getElem?_eq_some_iff.1 hu).1; simpa using this
  subst hi
  obtain rfl : enc x = u := by simpa using hu
  simpa [Ty.sc] using hc
/-- Its block is none of another element type. -/
theorem OwnS.ne (h : OwnS enc e base v l w) {g : Nat} {cs : Array Value} {t : TypeId} {fr : Nat × Nat} (hg : w.heap[g]? = some (.cells cs t fr)) (ht : e ≠ t) : ∀ k, v.ownBlock = some k → k ≠ g := by
  rcases h.2 with ⟨rfl, _⟩ | ⟨g', cap, cur, rfl, _, hh, _⟩
  · intro k hk; simp [Value.ownBlock] at hk
  · rintro k hk rfl
    obtain rfl : g' = k := by simpa [Value.ownBlock] using hk
    rw [hh] at hg
    injection hg with hg
    injection hg with _ he
    exact ht he
theorem OwnS.row (h1 : ∀ x, (enc x).oneCell' = true) (h : OwnS enc e base v l w) : Sl (Ty.sc enc h1) v l w := by
  obtain ⟨A, c, rfl, h2, h3⟩ := h.form
  refine ⟨A, c, rfl, h2, h3, fun j x hj => ?_⟩
  obtain ⟨ad, hA, hc⟩ := h.cells rfl j x hj
  refine ⟨ad, [enc x], hA, rfl, fun i u hu => ?_⟩
  have hi : i = 0 := by have := (List.getElem?_eq_some_iff.1 hu).1; simpa using this
  subst hi
  obtain rfl : enc x = u := by simpa using hu
  simpa [Ty.sc] using hc
end

/-- One-cell elements read at an address. -/
theorem RowAt.sc {α : Type} {enc : α → Value} {h1 : ∀ x, (enc x).oneCell' = true} {A : Option Addr} {l : List α} {w : World} (h : RowAt (Ty.sc enc h1) A l w) (j : Nat) (x : α) (hj : l[j]? = some x) :
    ∃ ad, A = some ad ∧ w.cell? (ad.add j) = some (enc x) := by
  obtain ⟨ad, cs, e, rfl, hc⟩ := h j x hj
  exact ⟨ad, e, by simpa [Ty.sc] using hc 0 _ rfl⟩
theorem RowAt.of_sc {α : Type} {enc : α → Value} {h1 : ∀ x, (enc x).oneCell' = true} {A : Option Addr} {l : List α} {w : World} (h : ∀ (j : Nat) (x : α), l[j]? = some x → ∃ ad, A = some ad ∧ w.cell? (ad.add j) = some (enc x)) : RowAt (Ty.sc enc h1) A l w := by
  intro j x hj
  obtain ⟨ad, hA, hc⟩ := h j x hj
  refine ⟨ad, [enc x], hA, rfl, fun i u hu => ?_⟩
  have hi : i = 0 := by have := (List.getElem?_eq_some_iff.1 hu).1; simpa using this
  subst hi
  obtain rfl : enc x = u := by simpa using hu
  simpa [Ty.sc] using hc
/-- .. a non-empty row lies somewhere. -/
theorem RowAt.some_ {α : Type} {d : Ty α} {A : Option Addr} {l : List α} {w : World} (h : RowAt d A l w) (hn : 0 < l.length) : ∃ ad, A = some ad := by
  obtain ⟨ad, _, e, _⟩ := h 0 l[0] (List.getElem?_eq_getElem hn)
  exact ⟨ad, e⟩
/-- .. at a place that is written out. -/
theorem RowAt.open_ {α : Type} {enc : α → Value} {h1 : ∀ x, (enc x).oneCell' = true} {A : Option Addr} {l : List α} {w : World} (h : RowAt (Ty.sc enc h1) A l w) (hn : 0 < l.length) :
    ∃ g o, A = some ⟨g, o, none⟩ ∧ ∀ (j : Nat) (x : α), l[j]? = some x → w.cell? ⟨g, o + j, none⟩ = some (enc x) := by
  obtain ⟨ad, rfl, hc⟩ := h.sc 0 l[0] (List.getElem?_eq_getElem hn)
  rw [add_zero'] at hc
  obtain ⟨g, o, s⟩ := ad
  obtain rfl : s = none := World.cell?_spot hc
  refine ⟨g, o, rfl, fun j x hj => ?_⟩
  obtain ⟨ad, e, hc⟩ := h.sc j x hj
  obtain rfl : _ = ad := by injection e
  rw [Addr.add_lit] at hc
  exact hc
/-- The elements from the i-th on. -/
theorem RowAt.from_ {α : Type} {enc : α → Value} {h1 : ∀ x, (enc x).oneCell' = true} {ad : Addr} {l : List α} {w : World} (h : RowAt (Ty.sc enc h1) (some ad) l w) (i : Nat) : RowAt (Ty.sc enc h1) (some (ad.add i)) (l.drop i) w := by
  refine RowAt.of_sc (fun j x hj => ?_)
  rw [List.getElem?_drop] at hj
  obtain ⟨ad', e, hc⟩ := h.sc (i + j) x hj
  obtain rfl : ad = ad' := by injection e
  exact ⟨_, rfl, by rw [add_add]; exact hc⟩
/-- The cells of a row of one-cell elements, as append asks for them. -/
theorem RowAt.news {α : Type} {enc : α → Value} {h1 : ∀ x, (enc x).oneCell' = true} {ad : Addr} {l : List α} {w : World} (h : RowAt (Ty.sc enc h1) (some ad) l w) : ∀ (j : Nat) (u : Value), (l.map enc)[j]? = some u → w.cell? (ad.add j) = some u := by
  intro j u hu
  rw [List.getElem?_map] at hu
  obtain ⟨x, hx, rfl⟩ := Option.map_eq_some_iff.1 hu
  obtain ⟨ad', e, hc⟩ := h.sc j x hx
  injection e with e
  subst e
  exact hc

section
variable {P : Program} {ops : Array Oper} {rest : List Oper} {o : Oper} {a : Act} {Q : Exit → Act → World → Prop}
theorem run_append_nil (w : World) (base : Nat) (t ty e : TypeId) (i : TypeInfo) (size : Nat) (ht : P.underlying t = some (.slice e)) (hi : P.info? e = some i)
    (v : Value) (n : Nat) (xs : List Value) (hown : w.ownsRow base e size v n xs) (c : Nat) : (Builtin.append_ #[t, t] ty #[v, .slice none 0 c]).run P w = .ok v w := by
  rcases hown.2 with ⟨rfl, rfl⟩ | ⟨g, cap, cur, rfl, _, _, hnc, _⟩
  · simp [Builtin.append_, run_underlying ht, sizeOf, typeInfo, hi, Builtin.lenOf, Builtin.firstCells]
  · simp [Builtin.append_, run_underlying ht, sizeOf, typeInfo, hi, Builtin.lenOf, Builtin.firstCells, hnc, storeCells]
/-- append(v, xs...), xs of one-cell elements, wherever they lie (nil too). -/
theorem run_append_S {α : Type} {enc : α → Value} (h1 : ∀ x, (enc x).oneCell' = true) (w : World) (base : Nat) (t ty e : TypeId) (z : Value) (bytes : Nat) (ht : P.underlying t = some (.slice e))
    (hinfo : (P.info? e).map (fun i => (i.zero, i.size, i.bytes)) = some (some z, 1, bytes)) (hz : z.cells.size = 1)
    (v : Value) (l : List α) (hown : OwnS enc e base v l w) (A : Option Addr) (c : Nat) (m : List α) (hr : RowAt (Ty.sc enc h1) A m w)
    (hbytes : (l.length + m.length) * bytes ≤ 140737488355328) (h63 : l.length + m.length ≤ 9223372036854775807) (hbase : base ≤ w.heap.size) :
    ∃ v' w', (Builtin.append_ #[t, t] ty #[v, .slice A m.length c]).run P w = .ok v' w' ∧ OwnS enc e base v' (l ++ m) w' ∧ w.grownBy w' v.ownBlock ∧ (v'.ownBlock = v.ownBlock ∨ v'.ownBlock = some w.heap.size) := by
  obtain ⟨i0, hi, hzz⟩ := Option.map_eq_some_iff.1 hinfo
  simp only [Prod.mk.injEq] at hzz
  obtain ⟨hz0, hz1, hz2⟩ := hzz
  rcases A with _ | ad
  · have hm : m = [] := by
      rcases Nat.eq_zero_or_pos m.length with h0 | h0
      · exact List.eq_nil_of_length_eq_zero h0
      · obtain ⟨ad, h⟩ := hr.some_ h0
        cases h
    subst hm
    exact ⟨v, w, run_append_nil w base t ty e i0 1 ht hi v l.length _ hown c, by simpa using hown, World.grownBy.refl w _, .inl rfl⟩
  · obtain ⟨v', w', hrun, hown', hg, _, hat⟩ := run_append_own_at (P := P) w base t ty e i0 z 1 bytes ht hi hz0 hz1 hz2 hz (by decide) v l.length _ hown ad m.length c (m.map enc) (by simp)
      hr.news (by intro u hu; obtain ⟨x, _, rfl⟩ := List.mem_map.1 hu; exact h1 x) (by simp only [maxLen]; omega) hbytes hbase
    exact ⟨v', w', hrun, by unfold OwnS; rw [List.length_append, List.map_append]; exact hown', hg, hat⟩
theorem wpList_append_S {α : Type} {enc : α → Value} (h1 : ∀ x, (enc x).oneCell' = true) {w : World} (hgd : o.guard = none) (s x : Operand) (t e : TypeId)
    (ho : o.op = .call { callee := .builtin .append, args := #[s, x], argTypes := #[t, t] })
    (z : Value) (bytes : Nat) (ht : P.underlying t = some (.slice e))
    (hinfo : (P.info? e).map (fun i => (i.zero, i.size, i.bytes)) = some (some z, 1, bytes)) (hz : z.cells.size = 1)
    (base : Nat) (v : Value) (l : List α) (hs : a.eval s = v) (hown : OwnS enc e base v l w) (A : Option Addr) (n c : Nat) (m : List α) (hx : a.eval x = .slice A n c) (hn : m.length = n) (hr : RowAt (Ty.sc enc h1) A m w)
    (hbytes : (l.length + m.length) * bytes ≤ 140737488355328) (h63 : l.length + m.length ≤ 9223372036854775807) (hbase : base ≤ w.heap.size)
    (h : ∀ v' w', OwnS enc e base v' (l ++ m) w' → w.grownBy w' v.ownBlock → (v'.ownBlock = v.ownBlock ∨ v'.ownBlock = some w.heap.size) → wpList P ops Q rest (a.put o.dst v') w') : wpList P ops Q (o :: rest) a w := by
  subst hn
  obtain ⟨v', w', hrun, hown', hg, hat⟩ := run_append_S (P := P) h1 w base t o.type e z bytes ht hinfo hz v l hown A c m hr hbytes h63 hbase
  refine wpList_plain hgd fun K hK => ?_
  unfold Oper.wp execOp
  simp only [ho, resolve, invoke, builtin, Sem.run_bind, Sem.run_pure, Result.andThen_ok, List.map_toArray, List.map_cons, List.map_nil, hs, hx, hrun]
  exact hK _ _ (h v' w' hown' hg hat)
end

/-- A new block of one element. -/
theorem one_new {α : Type} {enc : α → Value} (h1 : ∀ x, (enc x).oneCell' = true) (w : World) (x : α) (e : TypeId) : RowAt (Ty.sc enc h1) (some ⟨w.heap.size, 0, none⟩) [x] (w.alloc (.cells #[enc x] e)) := by
  refine RowAt.of_sc (fun j y hj => ?_)
  have hj0 : j = 0 := by have := (List.getElem?_eq_some_iff.1 hj).1; simpa using this
  subst hj0
  obtain rfl : x = y := by simpa using hj
  exact ⟨_, rfl, by rw [add_zero', blk_cell (heap_alloc_new w _)]; rfl⟩

/-- A block that holds just these elements. -/
theorem row_of_blk {α : Type} {enc : α → Value} (h1 : ∀ x, (enc x).oneCell' = true) {w : World} {g : Nat} {t : TypeId} {cs : Array Value} {fr : Nat × Nat} (hg : w.heap[g]? = some (.cells cs t fr)) (l : List α) (hl : cs = (l.map enc).toArray) : RowAt (Ty.sc enc h1) (some ⟨g, 0, none⟩) l w := by
  refine RowAt.of_sc (fun j x hj => ⟨_, rfl, ?_⟩)
  rw [Addr.add_lit, Nat.zero_add, blk_cell hg, hl]
  simp [hj]

section
variable {P : Program}
/-- string(b) -/
theorem run_string (w : World) (src e dst : TypeId) (hs : P.underlying src = some (.slice e)) (he : P.underlying e = some (.int .u8)) (hd : P.underlying dst = some .string) {A : Option Addr} {l : List UInt8} (h : RowAt Ty.u8 A l w) (n c : Nat) (hn : l.length = n) :
    (convert src dst (.slice A n c)).run P w = .ok (.string ⟨l.toArray⟩) w := by
  subst hn
  rcases Nat.eq_zero_or_pos l.length with h0 | h0
  · obtain rfl := List.eq_nil_of_length_eq_zero h0
    cases A with
    | none => exact run_convert_bytes_nil w src e hs he _ c dst hd
    | some ad =>
      have hl : (loadCells ad 0).run P w = .ok #[] w := by
        have := run_loadCells_list (P := P) w ad [] (fun j v hj => by simp at hj)
        simpa using this
      rw [List.length_nil, run_convert_bytes_string w src dst e _ 0 c hs he hd]
      exact run_bytesToString w _ 0 c [] hl
  · obtain ⟨g, o, rfl, hc⟩ := h.open_ h0
    have := run_convert_bytes_arg w src e hs he g o l.length c (l.map fun x => (x.toNat : Int)) (by simp) (fun i hi => by
      rw [hc i _ (List.getElem?_eq_getElem hi)]
      simp [bv, List.getD_eq_getElem?_getD, List.getElem?_eq_getElem hi]) dst hd
    rw [this]
    congr 3
    simp only [strOfNums, List.map_map]
    refine congrArg (fun y : List UInt8 => (⟨y.toArray⟩ : ByteArray)) ((List.map_congr_left (fun x _ => ?_)).trans (List.map_id l))
    simp
end

/-! ### a world of which only orders have been drawn -/
def Drawn (w w' : World) : Prop := ∃ n, w' = w.drewN n
theorem Drawn.refl (w : World) : Drawn w w := ⟨0, rfl⟩
theorem Drawn.ext {w w' : World} (h : Drawn w w') : Ext w w' := by
  obtain ⟨n, rfl⟩ := h
  exact (Chg.refl _ w).drewN n
theorem Drawn.then {w w1 : World} (h : Drawn w w1) (n : Nat) : Drawn w (w1.drewN n) := by
  obtain ⟨m, rfl⟩ := h
  exact ⟨m + n, World.drewN_drewN ..⟩
theorem Drawn.trans {w w1 w2 : World} (h : Drawn w w1) (k : Drawn w1 w2) : Drawn w w2 := by
  obtain ⟨n, rfl⟩ := k
  exact h.then n
theorem Drawn.drew {w w1 : World} (h : Drawn w w1) : Drawn w w1.drew := h.then 1
theorem Drawn.row {α : Type} {d : Ty α} {A : Option Addr} {l : List α} {w w' : World} (h : Drawn w w') (hr : RowAt d A l w) : RowAt d A l w' := hr.ext h.ext

/-! ### results that lie in memory -/
def isAgg : TypeDesc → Bool
  | .struct _ | .array _ _ => true
  | _ => false
theorem load_row {P : Program} (w : World) (g : Nat) (t ty : TypeId) (cs : Array Value) (d : TypeDesc) (hg : w.heap[g]? = some (.cells cs t (0, 0))) (hu : P.underlying ty = some d) (hd : isAgg d = true) (hi : (P.info? ty).map (·.size) = some cs.size) :
    (loadVar ty ⟨g, 0, none⟩).run P w = .ok (.agg cs) w := by
  cases d <;> simp only [isAgg, Bool.false_eq_true] at hd
  · exact run_loadVar_row w g t ty cs (0, 0) _ hg hu rfl hi
  · exact run_loadVar_row w g t ty cs (0, 0) _ hg hu rfl hi
/-- What a function hands back at one place: a slot's value; a whole block, as an aggregate. -/
def ResAt (P : Program) (tmps : Array Value) (w : World) : ResultVar → Value → Prop
  | .tmp t, v => v = tmps.getD t undef
  | .cell p ty, v => ∃ g t cs d, tmps.getD p undef = .pointer (some ⟨g, 0, none⟩) ∧ w.heap[g]? = some (.cells cs t (0, 0)) ∧ P.underlying ty = some d ∧ isAgg d = true ∧ (P.info? ty).map (·.size) = some cs.size ∧ v = .agg cs
def ResAll (P : Program) (tmps : Array Value) (w : World) : List ResultVar → List Value → Prop
  | [], [] => True
  | r :: rs, v :: vs => ResAt P tmps w r v ∧ ResAll P tmps w rs vs
  | _, _ => False
section
variable {P : Program} {tmps : Array Value} {w : World} {fn : Func}
theorem ResAt.run {r : ResultVar} {v : Value} (h : ResAt P tmps w r v) (f : ResultVar → Sem Value) (hf : ∀ u, f (.tmp u) = pure (tmps.getD u undef)) (hc : ∀ a t, f (.cell a t) = (do loadVar t (← asAddr (tmps.getD a undef)))) : (f r).run P w = .ok v w := by
  cases r with
  | tmp t => rw [hf, show v = _ from h]; rfl
  | cell p ty =>
    obtain ⟨g, t, cs, d, hp, hg, hu, hd, hi, rfl⟩ := h
    rw [hc, hp]
    simp [asAddr, load_row w g t ty cs d hg hu hd hi]
theorem ResAll.run (f : ResultVar → Sem Value) (hf : ∀ u, f (.tmp u) = pure (tmps.getD u undef)) (hc : ∀ a t, f (.cell a t) = (do loadVar t (← asAddr (tmps.getD a undef)))) :
    ∀ {rs : List ResultVar} {vs : List Value}, ResAll P tmps w rs vs → (rs.mapM f).run P w = .ok vs w
  | [], [], _ => by simp
  | [], _ :: _, h => h.elim
  | _ :: _, [], h => h.elim
  | r :: rs, v :: vs, h => by
    rw [List.mapM_cons]
    simp [h.1.run f hf hc, ResAll.run f hf hc h.2]
theorem run_results {rs : List ResultVar} {vs : List Value} (h : fn.results = rs.toArray) (hv : ResAll P tmps w rs vs) : (results fn tmps).run P w = .ok (if hl : vs.toArray.size = 1 then vs.toArray[0] else .tuple vs.toArray) w := by
  unfold results
  rw [h, List.mapM_toArray]
  simp only [Sem.run_bind, Sem.run_map]
  rw [ResAll.run _ (fun _ => rfl) (fun _ _ => rfl) hv]
  rfl
theorem run_results1 {r : ResultVar} {v : Value} (h : fn.results = #[r]) (h1 : ResAt P tmps w r v) : (results fn tmps).run P w = .ok v w := run_results (rs := [r]) (vs := [v]) h ⟨h1, trivial⟩
theorem run_results2 {r s : ResultVar} {v u : Value} (h : fn.results = #[r, s]) (h1 : ResAt P tmps w r v) (h2 : ResAt P tmps w s u) : (results fn tmps).run P w = .ok (.tuple #[v, u]) w := run_results (rs := [r, s]) (vs := [v, u]) h ⟨h1, h2, trivial⟩
theorem run_results3 {r s q : ResultVar} {v u x : Value} (h : fn.results = #[r, s, q]) (h1 : ResAt P tmps w r v) (h2 : ResAt P tmps w s u) (h3 : ResAt P tmps w q x) : (results fn tmps).run P w = .ok (.tuple #[v, u, x]) w := run_results (rs := [r, s, q]) (vs := [v, u, x]) h ⟨h1, h2, h3, trivial⟩
end
end Go.Proofs.Ythfinaocdcinlaa
