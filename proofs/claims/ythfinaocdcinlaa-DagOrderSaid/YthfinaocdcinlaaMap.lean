/- Maps: what lies in a map's block, as a list of keys and values; look-up, store, length, delete. -/
import Derived.Test.YthfinaocdcinlaaBase
import Derived.Maps.RangeWalk
import Derived.Maps.Keyed
namespace Go.Proofs.Ythfinaocdcinlaa
open Go.RowKit
set_option linter.unusedVariables false
set_option linter.unusedSimpArgs false
set_option linter.unusedSectionVars false

section
variable {K V : Type} [DecidableEq K]

/-- The first entry with the key: its place and value. -/
def hit (k : K) : List (K × V) → Nat → Option (Nat × V)
  | [], _ => none
  | (a, v) :: r, i => if k = a then some (i, v) else hit k r (i + 1)
/-- What stands at the key. -/
def look : List (K × V) → K → Option V
  | [], _ => none
  | (a, v) :: r, k => if k = a then some v else look r k
/-- A store. -/
def putL : List (K × V) → K → V → List (K × V)
  | [], k, u => [(k, u)]
  | (a, v) :: r, k, u => if k = a then (a, u) :: r else (a, v) :: putL r k u
def delL : List (K × V) → K → List (K × V)
  | [], _ => []
  | (a, v) :: r, k => if k = a then r else (a, v) :: delL r k

theorem hit_look (k : K) : ∀ (l : List (K × V)) (i : Nat), (hit k l i).map (·.2) = look l k
  | [], _ => rfl
  | (a, v) :: r, i => by
    simp only [hit, look]
    split
    · rfl
    · exact hit_look k r (i + 1)
theorem hit_none {k : K} : ∀ {l : List (K × V)} {i : Nat}, hit k l i = none → ∀ u, putL l k u = l ++ [(k, u)]
  | [], _, _, _ => rfl
  | (a, v) :: r, i, h, u => by
    simp only [hit] at h
    split at h
    · cases h
    · rename_i hn
      simp only [putL, if_neg hn, List.cons_append]
      rw [hit_none h u]
theorem hit_some {k : K} : ∀ {l : List (K × V)} {i j : Nat} {v : V}, hit k l i = some (j, v) → ∃ d, j = i + d ∧ d < l.length ∧ l[d]? = some (k, v) ∧ (∀ u, putL l k u = l.modify d (fun x => (x.1, u))) ∧ delL l k = l.eraseIdx d
  | [], _, _, _, h => by simp [hit] at h
  | (a, x) :: r, i, j, v, h => by
    simp only [hit] at h
    split at h
    · rename_i he
      subst he
      obtain ⟨rfl, rfl⟩ : i = j ∧ x = v := by simpa using h
      exact ⟨0, rfl, by simp, rfl, fun u => by simp [putL], by simp [delL]⟩
    · rename_i hn
      obtain ⟨d, rfl, h1, h2, h3, h4⟩ := hit_some h
      exact ⟨d + 1, by omega, by simp; omega, by simpa using h2, fun u => by simp only [putL, if_neg hn, List.modify_succ_cons, h3], by simp only [delL, if_neg hn, List.eraseIdx_cons_succ, h4]⟩
theorem hit_none_del {k : K} : ∀ {l : List (K × V)} {i : Nat}, hit k l i = none → delL l k = l
  | [], _, _ => rfl
  | (a, v) :: r, i, h => by
    simp only [hit] at h
    split at h
    · cases h
    · rename_i hn
      simp only [delL, if_neg hn]
      rw [hit_none_del h]
theorem look_put (l : List (K × V)) (k k' : K) (u : V) : look (putL l k u) k' = if k' = k then some u else look l k' := by
  induction l with
  | nil => simp only [putL, look]
  | cons x r ih =>
    obtain ⟨a, v⟩ := x
    simp only [putL]
    split
    · rename_i he
      subst he
      simp only [look]
      split <;> rfl
    · rename_i hn
      simp only [look, ih]
      split
      · rename_i he
        subst he
        rw [if_neg (fun e => hn e.symm)]
      · rfl
theorem keys_put (l : List (K × V)) (k : K) (u : V) : (putL l k u).map Prod.fst = if (look l k).isSome then l.map Prod.fst else l.map Prod.fst ++ [k] := by
  induction l with
  | nil => simp [putL, look]
  | cons x r ih =>
    obtain ⟨a, v⟩ := x
    simp only [putL, look]
    split
    · simp
    · simp only [List.map_cons, ih]
      split <;> simp
theorem look_some_mem {l : List (K × V)} {k : K} {v : V} (h : look l k = some v) : (k, v) ∈ l := by
  induction l with
  | nil => simp [look] at h
  | cons x r ih =>
    obtain ⟨a, u⟩ := x
    simp only [look] at h
    split at h
    · rename_i he
      subst he
      injection h with h
      subst h
      exact List.mem_cons_self
    · exact List.mem_cons_of_mem _ (ih h)
theorem look_none_keys {l : List (K × V)} {k : K} : look l k = none ↔ k ∉ l.map Prod.fst := by
  induction l with
  | nil => simp [look]
  | cons x r ih =>
    obtain ⟨a, u⟩ := x
    simp only [look, List.map_cons, List.mem_cons, not_or]
    split
    · rename_i he; simp [he]
    · rename_i hn; simp [ih, hn]
theorem look_mem {l : List (K × V)} (hn : (l.map Prod.fst).Nodup) {k : K} {v : V} (h : (k, v) ∈ l) : look l k = some v := by
  induction l with
  | nil => simp at h
  | cons x r ih =>
    obtain ⟨a, u⟩ := x
    simp only [List.map_cons, List.nodup_cons] at hn
    simp only [look]
    rcases List.mem_cons.1 h with e | h
    · injection e with e1 e2
      subst e1; subst e2
      rw [if_pos rfl]
    · have hmem : k ∈ r.map Prod.fst := List.mem_map.2 ⟨(k, v), h, rfl⟩
      rw [if_neg (fun e => hn.1 (by rw [← e]; exact hmem))]
      exact ih hn.2 h
theorem nodup_put {l : List (K × V)} (hn : (l.map Prod.fst).Nodup) (k : K) (u : V) : ((putL l k u).map Prod.fst).Nodup := by
  rw [keys_put]
  split
  · exact hn
  · rename_i h
    rw [List.nodup_append]
    refine ⟨hn, by simp, fun a ha b hb e => ?_⟩
    have : k ∉ l.map Prod.fst := look_none_keys.1 (by simpa using h)
    rw [List.mem_singleton.1 hb] at e
    exact this (e ▸ ha)
theorem keys_del (l : List (K × V)) (k : K) : (delL l k).map Prod.fst = (l.map Prod.fst).erase k := by
  induction l with
  | nil => rfl
  | cons x r ih =>
    obtain ⟨a, u⟩ := x
    simp only [delL, List.map_cons]
    split
    · rename_i he; subst he; simp
    · rename_i hn
      rw [List.erase_cons_tail (by simpa using fun e => hn e.symm), List.map_cons, ih]
theorem look_del {l : List (K × V)} (hn : (l.map Prod.fst).Nodup) (k k' : K) : look (delL l k) k' = if k' = k then none else look l k' := by
  induction l with
  | nil => simp [delL, look]
  | cons x r ih =>
    obtain ⟨a, u⟩ := x
    simp only [List.map_cons, List.nodup_cons] at hn
    simp only [delL]
    split
    · rename_i he
      subst he
      split
      · rename_i he; subst he; exact look_none_keys.2 hn.1
      · rename_i h; simp only [look, if_neg h]
    · rename_i hne
      simp only [look, ih hn.2]
      split
      · rename_i he; subst he; rw [if_neg (fun e => hne e.symm)]
      · rfl

theorem hit_at {k : K} {v : V} : ∀ {l : List (K × V)} {j : Nat}, (l.map Prod.fst).Nodup → l[j]? = some (k, v) → ∀ i, hit k l i = some (i + j, v)
  | [], j, _, h, _ => by simp at h
  | (a, u) :: r, 0, _, h, i => by
    simp only [List.getElem?_cons_zero, Option.some.injEq, Prod.mk.injEq] at h
    simp only [hit, h.1, h.2, if_true, Nat.add_zero]
  | (a, u) :: r, j + 1, hn, h, i => by
    simp only [List.map_cons, List.nodup_cons] at hn
    simp only [List.getElem?_cons_succ] at h
    have hne : ¬ k = a := fun e => hn.1 (by rw [← e]; exact List.mem_map.2 ⟨(k, v), List.mem_of_getElem? h, rfl⟩)
    simp only [hit, if_neg hne]
    rw [hit_at hn.2 h (i + 1)]
    congr 2; omega
/-- A key's type: how a key is written, and that the model finds it. -/
structure KeyT (P : Program) (kt : TypeId) (ek : K → Value) : Prop where
  inj : ∀ a b, ek a = ek b → a = b
  stays : ∀ (w : World) (a : K), (Instr.keyThatStays (ek a) (ek a)).run P w = .ok (ek a) w
  check : ∀ (w : World) (em : Bool) (a : K), (Instr.checkKey em 10000 kt (ek a)).run P w = .ok () w
  find : ∀ (w : World) (k : K) (es : List MapEntry) (l : List (K × Value)), es.map (fun e => (e.key, e.val)) = l.map (fun x => (ek x.1, x.2)) → (l.map Prod.fst).Nodup → (Instr.findKey kt (ek k) es).run P w = .ok (hit k l 0) w

/-- Block b is a map that holds l. -/
def MapAt (ek : K → Value) (b : Nat) (l : List (K × Value)) (w : World) : Prop :=
  (l.map Prod.fst).Nodup ∧ ∃ es clock, w.heap[b]? = some (.map es clock) ∧ es.toList.map (fun e => (e.key, e.val)) = l.map (fun x => (ek x.1, x.2)) ∧ (es.toList.map (·.born)).Nodup ∧ ∀ e ∈ es.toList, e.born < clock

variable {P : Program} {kt : TypeId} {ek : K → Value} {b : Nat} {l : List (K × Value)} {w w' : World}

theorem MapAt.of_blk (h : MapAt ek b l w) (hb : w'.heap[b]? = w.heap[b]?) : MapAt ek b l w' := by
  obtain ⟨h1, es, clock, h2, h3⟩ := h
  exact ⟨h1, es, clock, hb.trans h2, h3⟩
theorem MapAt.lt (h : MapAt ek b l w) : b < w.heap.size := by
  obtain ⟨h1, es, clock, h2, h3⟩ := h
  exact blk_lt h2
theorem MapAt.chg {S : Nat → Prop} (h : MapAt ek b l w) (hc : Chg S w w') (hS : ¬ S b) : MapAt ek b l w' := h.of_blk (hc.block b h.lt hS)
theorem MapAt.ext (h : MapAt ek b l w) (hc : Ext w w') : MapAt ek b l w' := h.chg hc (fun h => h)
theorem MapAt.ne (h : MapAt ek b l w) {g : Nat} {cs : Array Value} {t : TypeId} {fr : Nat × Nat} (hg : w.heap[g]? = some (.cells cs t fr)) : b ≠ g := by
  obtain ⟨h1, es, clock, h2, h3⟩ := h
  rintro rfl
  rw [hg] at h2
  cases h2
theorem MapAt.made (w : World) : MapAt ek w.heap.size [] (w.alloc (.map #[] 0)) := ⟨by simp, #[], 0, heap_alloc_new w _, by simp, by simp, by simp⟩

theorem run_map {es : Array MapEntry} {c : Nat} (h : w.heap[b]? = some (.map es c)) : (getObj b).run P w = .ok (.map es c) w := by
  simp [getObj, Sem.run, h]
theorem es_empty {es : Array MapEntry} (h : es.toList.map (fun e => (e.key, e.val)) = l.map (fun x => (ek x.1, x.2))) : es.size = l.length := by
  have := congrArg List.length h
  simpa using this
theorem run_lookup (hk : KeyT P kt ek) {t e : TypeId} (ht : P.underlying t = some (.map kt e)) {z : Value} (hz : (zeroValue e).run P w = .ok z w) (h : MapAt ek b l w) (k : K) :
    (Instr.lookup t (.map (some b)) (ek k) false).run P w = .ok ((look l k).getD z) w := by
  obtain ⟨h1, es, clock, h2, h3, h4⟩ := h
  have hh := hit_look k l 0
  simp only [Instr.lookup, Sem.run_bind, run_underlying ht, run_map h2, Result.andThen_ok, Sem.run_pure, hk.check, hk.find w k _ l h3 h1]
  cases hc : hit k l 0 with
  | none =>
    rw [hc, Option.map_none] at hh
    rw [← hh]
    simp [hz]
  | some p =>
    rw [hc, Option.map_some] at hh
    rw [← hh]
    simp
theorem run_lookup_ok (hk : KeyT P kt ek) {t e : TypeId} (ht : P.underlying t = some (.map kt e)) {z : Value} (hz : (zeroValue e).run P w = .ok z w) (h : MapAt ek b l w) (k : K) :
    (Instr.lookup t (.map (some b)) (ek k) true).run P w = .ok (.tuple #[(look l k).getD z, .bool (look l k).isSome]) w := by
  obtain ⟨h1, es, clock, h2, h3, h4⟩ := h
  have hh := hit_look k l 0
  simp only [Instr.lookup, Sem.run_bind, run_underlying ht, run_map h2, Result.andThen_ok, Sem.run_pure, hk.check, hk.find w k _ l h3 h1]
  cases hc : hit k l 0 with
  | none =>
    rw [hc, Option.map_none] at hh
    rw [← hh]
    simp [hz]
  | some p =>
    rw [hc, Option.map_some] at hh
    rw [← hh]
    simp
theorem run_lookup_nil (hk : KeyT P kt ek) {t e : TypeId} (ht : P.underlying t = some (.map kt e)) {z : Value} (hz : (zeroValue e).run P w = .ok z w) (k : K) :
    (Instr.lookup t (.map none) (ek k) false).run P w = .ok z w := by
  have := hk.find w k [] [] rfl (by simp)
  simp [Instr.lookup, Sem.run_bind, run_underlying ht, Result.andThen_ok, Sem.run_pure, hk.check, this, hit, hz]
theorem run_len_map {t kt' e : TypeId} (ht : P.underlying t = some (.map kt' e)) (h : MapAt ek b l w) (ty : TypeId) : (Builtin.len_ #[t] ty #[.map (some b)]).run P w = .ok (.int .i64 l.length) w := by
  obtain ⟨h1, es, clock, h2, h3, h4⟩ := h
  have := es_empty h3
  simp [Builtin.len_, Sem.run_bind, run_underlying ht, run_map h2, Result.andThen_ok, Sem.run_pure, goInt, this]
theorem run_setObj {es : Array MapEntry} {c : Nat} (h : w.heap[b]? = some (.map es c)) (o : Obj) : (setObj b o).run P w = .ok () (ChangeMaps.setBlock w b o) := by
  simp [setObj, Sem.run, h, ChangeMaps.setBlock]
theorem Chg.setBlock (w : World) (b : Nat) (o : Obj) : Chg (· = b) w (ChangeMaps.setBlock w b o) := by
  refine ⟨rfl, rfl, rfl, by simp [ChangeMaps.setBlock], fun k hk hn => ?_⟩
  simp [ChangeMaps.setBlock, Array.getElem?_setIfInBounds]
  intro e
  exact absurd e.symm hn
theorem setBlock_size (w : World) (b : Nat) (o : Obj) : (ChangeMaps.setBlock w b o).heap.size = w.heap.size := by simp [ChangeMaps.setBlock]

/-- A store into a map. -/
theorem run_mapUpdate (hk : KeyT P kt ek) {t e : TypeId} (ht : P.underlying t = some (.map kt e)) (h : MapAt ek b l w) (k : K) (u : Value) :
    ∃ w', (Instr.mapUpdate t (.map (some b)) (ek k) u).run P w = .ok () w' ∧ MapAt ek b (putL l k u) w' ∧ Chg (· = b) w w' ∧ w'.heap.size = w.heap.size := by
  obtain ⟨h1, es, clock, h2, h3, h4, h5⟩ := h
  have hkeys : es.toList.map (·.key) = l.map (fun x => ek x.1) := by
    have := congrArg (List.map Prod.fst) h3
    rw [List.map_map, List.map_map] at this
    exact this
  simp only [Instr.mapUpdate, Sem.run_bind, run_underlying ht, run_map h2, Result.andThen_ok, Sem.run_pure, hk.check, hk.find w k _ l h3 h1]
  cases hh : hit k l 0 with
  | none =>
    refine ⟨_, run_setObj h2 _, ⟨nodup_put h1 k u, _, _, ChangeMaps.heap_setBlock_same h2 _, ?_, ?_, ?_⟩, Chg.setBlock _ _ _, setBlock_size _ _ _⟩
    · rw [hit_none hh u]; simp [h3]
    · simp only [Array.toList_push, List.map_append, List.map_cons, List.map_nil]
      rw [List.nodup_append]
      refine ⟨h4, by simp, fun a ha c hc e => ?_⟩
      obtain ⟨x, hx, rfl⟩ := List.mem_map.1 ha
      have := h5 x hx
      rw [List.mem_singleton.1 hc] at e
      omega
    · intro x hx
      simp only [Array.toList_push, List.mem_append, List.mem_singleton] at hx
      rcases hx with hx | rfl
      · have := h5 x hx; omega
      · exact Nat.lt_succ_self _
  | some p =>
    obtain ⟨j, v⟩ := p
    obtain ⟨d, hj, hd, hl, hput, _⟩ := hit_some hh
    obtain rfl : j = d := by omega
    have hsz := es_empty h3
    have hjs : j < es.size := by omega
    have hkey : es[j].key = ek k := by
      have := congrArg (fun z => z[j]?) hkeys
      simp only [List.getElem?_map, hl, Option.map_some] at this
      rw [show es.toList[j]? = some es[j] from by simp [hjs]] at this
      simpa using this
    have hstay : ((es[j]?).map (·.key)).getD (ek k) = ek k := by rw [Array.getElem?_eq_getElem hjs]; simpa using hkey
    simp only [hstay, Sem.run_bind, hk.stays, Result.andThen_ok]
    refine ⟨_, run_setObj h2 _, ⟨nodup_put h1 k u, _, _, ChangeMaps.heap_setBlock_same h2 _, ?_, ?_, ?_⟩, Chg.setBlock _ _ _, setBlock_size _ _ _⟩
    · rw [hput u, Array.toList_modify]
      apply List.ext_getElem?
      intro i
      have hi := congrArg (fun z => z[i]?) h3
      simp only [List.getElem?_map] at hi
      simp only [List.getElem?_map, List.getElem?_modify]
      by_cases e : j = i
      · subst e
        rw [hl] at hi ⊢
        cases hc : es.toList[j]? with
        | none => rw [hc] at hi; simp at hi
        | some x => simp
      · simp only [if_neg e, id_map', Option.map_id']
        simpa using hi
    · rw [Array.toList_modify]
      have : (es.toList.modify j (fun e => { e with key := ek k, val := u })).map (·.born) = es.toList.map (·.born) := by
        apply List.ext_getElem?
        intro i
        simp only [List.getElem?_map, List.getElem?_modify]
        cases es.toList[i]? with
        | none => simp
        | some x => by_cases e : j = i <;> simp [e]
      rw [this]; exact h4
    · intro x hx
      rw [Array.toList_modify] at hx
      obtain ⟨i, hi⟩ := List.mem_iff_getElem?.1 hx
      rw [List.getElem?_modify] at hi
      cases hc : es.toList[i]? with
      | none => rw [hc] at hi; simp at hi
      | some y =>
        rw [hc] at hi
        have hy := h5 y (List.mem_of_getElem? hc)
        by_cases e : j = i
        · simp [e] at hi; subst hi; exact hy
        · simp [e] at hi; subst hi; exact hy
end

/-- Keys of a type for which the kit has a law. -/
theorem KeyT.of_keyed {K : Type} [DecidableEq K] {P : Program} {kt : TypeId} {ek : K → Value} (L : Maps.Keyed P kt) (hk : ∀ a, ∃ l, keyOf P kt (ek a) = some l) (hi : ∀ a b, ek a = ek b → a = b) : KeyT P kt ek where
  inj := hi
  stays := fun w a => by obtain ⟨l, h⟩ := hk a; exact L.stays w h
  check := fun w em a => by obtain ⟨l, h⟩ := hk a; exact L.check w em h
  find := fun w k es l h hn => by
    obtain ⟨lx, hx⟩ := hk k
    have hkeys : es.map (·.key) = l.map (fun x => ek x.1) := by
      have := congrArg (List.map Prod.fst) h
      rw [List.map_map, List.map_map] at this
      exact this
    have hall : ∀ e ∈ es, ∃ l, keyOf P kt e.key = some l := fun e he => by
      have : e.key ∈ es.map (·.key) := List.mem_map_of_mem he
      rw [hkeys] at this
      obtain ⟨y, _, hy⟩ := List.mem_map.1 this
      rw [← hy]; exact hk _
    rcases L.find w hx es hall with ⟨hrun, hno⟩ | ⟨j, e, hrun, hj, he⟩
    · cases hh : hit k l 0 with
      | none => exact hrun
      | some p =>
        obtain ⟨i, v⟩ := p
        obtain ⟨d, _, hd, hl, _⟩ := hit_some hh
        have h1 := congrArg (fun z => z[d]?) hkeys
        simp only [List.getElem?_map, hl, Option.map_some] at h1
        cases he : es[d]? with
        | none => rw [he] at h1; simp at h1
        | some e =>
          rw [he] at h1
          exact absurd (by simpa using h1) (hno e (List.mem_of_getElem? he))
    · have h1 := congrArg (fun z => z[j]?) h
      simp only [List.getElem?_map, hj, Option.map_some] at h1
      cases hl : l[j]? with
      | none => rw [hl] at h1; simp at h1
      | some y =>
        rw [hl] at h1
        simp only [Option.map_some, Option.some.injEq, Prod.mk.injEq] at h1
        have hy : y.1 = k := hi _ _ (h1.1.symm.trans he)
        have : hit k l 0 = some (j, e.val) := by
          obtain ⟨a, v⟩ := y
          subst hy
          have := hit_at hn hl 0
          rw [Nat.zero_add] at this
          rw [this, h1.2]
        rw [this]; exact hrun

/-! ### keys that are strings -/
def strK (s : List UInt8) : Value := .string ⟨s.toArray⟩
theorem strK_inj (a b : List UInt8) (h : strK a = strK b) : a = b := by
  simp only [strK, Value.string.injEq, ByteArray.mk.injEq] at h
  simpa using congrArg Array.toList h
theorem strKeys {P : Program} {kt : TypeId} (hu : P.underlying kt = some .string) : KeyT P kt strK where
  inj := strK_inj
  stays := fun w a => by
    have : Instr.sameBits 10000 (strK a) (strK a) = true := by simp only [strK, Instr.sameBits]; exact (MapKept.bytes_beq _ _).2 rfl
    simp only [Instr.keyThatStays, this, if_true, Sem.run_pure]
  check := fun w em a => by rw [Instr.checkKey.eq_def]; simp only [Sem.run_bind, run_underlying hu, Result.andThen_ok, strK]; rfl
  find := fun w k es l h _ => by
    have key : ∀ (es : List MapEntry) (l : List (List UInt8 × Value)) (i : Nat), es.map (fun e => (e.key, e.val)) = l.map (fun x => (strK x.1, x.2)) → Instr.findNow .string (strK k) es i = some (hit k l i) := by
      intro es
      induction es with
      | nil =>
        intro l i h
        cases l with
        | nil => rfl
        | cons x r => simp at h
      | cons e es ih =>
        intro l i h
        cases l with
        | nil => simp at h
        | cons x r =>
          obtain ⟨a, v⟩ := x
          simp only [List.map_cons, List.cons.injEq, Prod.mk.injEq] at h
          obtain ⟨⟨h1, h2⟩, h3⟩ := h
          simp only [Instr.findNow, h1, h2, hit]
          by_cases hka : k = a
          · subst hka
            have : ((⟨k.toArray⟩ : ByteArray) == ⟨k.toArray⟩) = true := (MapKept.bytes_beq _ _).2 rfl
            simp [Instr.sameNow, strK, this]
          · have : ((⟨k.toArray⟩ : ByteArray) == ⟨a.toArray⟩) = false := by
              apply Bool.eq_false_iff.2
              intro hc
              have := (MapKept.bytes_beq _ _).1 hc
              exact hka (strK_inj k a (by unfold strK; rw [this]))
            simp only [Instr.sameNow, strK, this, if_neg hka]
            exact ih r (i + 1) h3
    simp only [Instr.findKey, Sem.run_bind, run_underlying hu, Result.andThen_ok, key es l 0 h, Sem.run_pure]

/-- A slice of the call's own, its length under a name. -/
theorem OwnS.named {α : Type} {enc : α → Value} {e base : Nat} {v : Value} {l : List α} {w : World} (h : OwnS enc e base v l w) : ∃ A k c, v = .slice A k c ∧ Hd (l.length = k) ∧ k ≤ c ∧ c ≤ 9223372036854775807 := by
  obtain ⟨A, c, h1, h2, h3⟩ := h.form
  exact ⟨A, _, c, h1, ⟨rfl⟩, h2, h3⟩
end Go.Proofs.Ythfinaocdcinlaa
