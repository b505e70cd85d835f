/- Package dag: what is reached. -/
import Derived.Test.YthfinaocdcinlaaDag4
namespace Go.Proofs.Ythfinaocdcinlaa
open Go.RowKit
attribute [local go_sem] eql_sl_nil neq_sl_nil max_two
set_option linter.unusedVariables false
set_option linter.unusedSimpArgs false

/-- x is reached from fr: by the way of the parents, within what D has. -/
inductive Rch (D : Nodes) (fr : List Id) : Id → Prop
  | base {x : Id} : x ∈ fr → has D x = true → Rch D fr x
  | step {x y : Id} : Rch D fr y → x ∈ par D y → has D x = true → Rch D fr x
abbrev vT : Value := .bool true
structure RInv (D : Nodes) (fr : List Id) (l : List (Id × Value)) (T : List Id) : Prop where
  val : ∀ x, look l x = none ∨ look l x = some vT
  sound : ∀ x, look l x = some vT → Rch D fr x
  todo : ∀ x ∈ T, x ∈ fr ∨ ∃ y, Rch D fr y ∧ x ∈ par D y
  front : ∀ x ∈ fr, has D x = true → look l x = some vT ∨ x ∈ T
  closed : ∀ y, look l y = some vT → ∀ x ∈ par D y, has D x = true → look l x = some vT ∨ x ∈ T
theorem RInv.init (D : Nodes) (fr : List Id) : RInv D fr [] fr where
  val _ := .inl rfl
  sound _ h := by cases h
  todo _ h := .inl h
  front _ h _ := .inr h
  closed _ h := by cases h
theorem RInv.done {D : Nodes} {fr : List Id} {l : List (Id × Value)} (h : RInv D fr l []) (x : Id) : (look l x = some vT ∧ Rch D fr x) ∨ (look l x = none ∧ ¬ Rch D fr x) := by
  have key : ∀ x, Rch D fr x → look l x = some vT := by
    intro x hx
    induction hx with
    | base h1 h2 => exact (h.front _ h1 h2).resolve_right (by simp)
    | step h1 h2 h3 ih => exact (h.closed _ ih _ h2 h3).resolve_right (by simp)
  rcases h.val x with hv | hv
  · exact .inr ⟨hv, fun hx => by rw [key x hx] at hv; cases hv⟩
  · exact .inl ⟨hv, h.sound x hv⟩
theorem RInv.skip {D : Nodes} {fr : List Id} {l : List (Id × Value)} {T : List Id} {x : Id} (h : RInv D fr l (T ++ [x])) (hs : look l x = some vT ∨ has D x = false) : RInv D fr l T := by
  have key : ∀ y, has D y = true → (look l y = some vT ∨ y ∈ T ++ [x]) → look l y = some vT ∨ y ∈ T := by
    intro y hy hm
    rcases hm with hm | hm
    · exact .inl hm
    · rcases List.mem_append.1 hm with hm | hm
      · exact .inr hm
      · rw [List.mem_singleton] at hm
        subst hm
        rcases hs with hs | hs
        · exact .inl hs
        · rw [hy] at hs; cases hs
  exact ⟨h.val, h.sound, fun y hy => h.todo y (List.mem_append_left _ hy), fun y hy hh => key y hh (h.front y hy hh), fun y hy z hz hh => key z hh (h.closed y hy z hz hh)⟩
theorem RInv.mark {D : Nodes} {fr : List Id} {l : List (Id × Value)} {T : List Id} {x : Id} (h : RInv D fr l (T ++ [x])) (hx : has D x = true) : RInv D fr (putL l x vT) (T ++ par D x) := by
  have hrx : Rch D fr x := by
    rcases h.todo x (by simp) with h1 | ⟨y, h1, h2⟩
    · exact .base h1 hx
    · exact .step h1 h2 hx
  have key : ∀ y, (look l y = some vT ∨ y ∈ T ++ [x]) → look (putL l x vT) y = some vT ∨ y ∈ T ++ par D x := by
    intro y hm
    rw [look_put]
    by_cases e : y = x
    · exact .inl (by rw [if_pos e])
    · rw [if_neg e]
      rcases hm with hm | hm
      · exact .inl hm
      · rcases List.mem_append.1 hm with hm | hm
        · exact .inr (List.mem_append_left _ hm)
        · exact absurd (List.mem_singleton.1 hm) e
  refine ⟨fun y => ?_, fun y hy => ?_, fun y hy => ?_, fun y hy hh => key y (h.front y hy hh), fun y hy z hz hh => ?_⟩
  · rw [look_put]; split
    · exact .inr rfl
    · exact h.val y
  · rw [look_put] at hy
    split at hy
    · rename_i e; subst e; exact hrx
    · exact h.sound y hy
  · rcases List.mem_append.1 hy with hy | hy
    · exact h.todo y (List.mem_append_left _ hy)
    · exact .inr ⟨x, hrx, hy⟩
  · rw [look_put] at hy
    split at hy
    · rename_i e; subst e; exact .inr (List.mem_append_right _ hz)
    · exact key z (h.closed y hy z hz hh)

/-- What is yet to be marked. -/
def wgt (p : Id → Bool) : Nodes → Nat
  | [] => 0
  | (a, v) :: r => (if p a = true then 1 + v.1.length else 0) + wgt p r
theorem wgt_le {p q : Id → Bool} (h : ∀ x, p x = true → q x = true) : ∀ D, wgt p D ≤ wgt q D
  | [] => Nat.le_refl _
  | (a, v) :: r => by
    have ih := wgt_le h r
    have := h a
    simp only [wgt]
    cases hp : p a
    · simp; omega
    · rw [this hp]; simp; omega
theorem wgt_mark {p q : Id → Bool} {x : Id} (hx : p x = true) (hq : ∀ y, q y = true → p y = true ∧ y ≠ x) : ∀ D : Nodes, has D x = true → wgt q D + (1 + (par D x).length) ≤ wgt p D
  | [], h => by simp [has, look] at h
  | (a, v) :: r, h => by
    simp only [wgt]
    by_cases e : x = a
    · subst e
      have h0 : q x = false := by
        cases hqx : q x
        · rfl
        · exact absurd rfl (hq x hqx).2
      have := wgt_le (p := q) (q := p) (fun y hy => (hq y hy).1) r
      have hpar : par ((x, v) :: r) x = v.1 := by simp [par, look]
      rw [h0, hx, hpar]
      simp; omega
    · have h1 : has r x = true := by simpa [has, look, e] using h
      have hpar : par ((a, v) :: r) x = par r x := by simp [par, look, e]
      have ih := wgt_mark hx hq r h1
      rw [hpar]
      have : (if q a = true then 1 + v.1.length else 0) ≤ (if p a = true then 1 + v.1.length else 0) := by
        cases hqa : q a
        · simp
        · rw [(hq a hqa).1]; simp
      omega
def muL (D : Nodes) (l : List (Id × Value)) : Nat := wgt (fun x => (look l x).isNone) D
def wgtAll (D : Nodes) : Nat := wgt (fun _ => true) D
theorem muL_nil (D : Nodes) : muL D [] = wgtAll D := rfl
theorem muL_put {D : Nodes} {l : List (Id × Value)} {x : Id} (hl : look l x = none) (hx : has D x = true) (v : Value) : muL D (putL l x v) + (1 + (par D x).length) ≤ muL D l :=
  wgt_mark (by simp [hl]) (fun y hy => by
    rw [look_put] at hy
    split at hy
    · simp at hy
    · rename_i e; exact ⟨hy, e⟩) D hx
theorem par_le (D : Nodes) (x : Id) : (par D x).length ≤ wgtAll D := by
  cases h : has D x
  · have : par D x = [] := by
      unfold has at h
      cases hl : look D x with
      | none => simp [par, hl]
      | some n => rw [hl] at h; cases h
    rw [this]; simp
  · have := wgt_mark (p := fun _ => true) (q := fun y => decide (y ≠ x)) (x := x) rfl (fun y hy => ⟨rfl, by simpa using hy⟩) D h
    unfold wgtAll
    omega

open Classical in
/-- The entries of the map at mb. -/
noncomputable def listOf (mb : Nat) (w : World) : List (Id × Value) := if h : ∃ l, MapAt idV mb l w then Classical.choose h else []
theorem listOf_eq {mb : Nat} {l : List (Id × Value)} {w : World} (h : MapAt idV mb l w) : listOf mb w = l := by
  unfold listOf
  rw [dif_pos ⟨l, h⟩]
  exact listOf_inj (Classical.choose_spec (⟨l, h⟩ : ∃ l, MapAt idV mb l w)) h
def slen : Value → Nat
  | .slice _ n _ => n
  | _ => 0

theorem OwnK.pop {α : Type} {d : Ty α} {enc : α → List Value} (F : Flat d enc) {e base : Nat} {A : Option Addr} {k n c : Nat} {T : List α} {x : α} {w : World} (h : OwnK d enc e base (.slice A n c) (T ++ [x]) w) (hk : T.length = k) (hn : n = k + 1) : OwnK d enc e base (.slice A k c) T w := by
  subst hk
  obtain ⟨h1, h2⟩ := h
  refine ⟨flat_len (F.len w) T, ?_⟩
  rcases h2 with ⟨h2, _⟩ | ⟨g, cap, cur, hv, hg, hh, hcap, hmax, hsz, htk⟩
  · injection h2 with _ h2; omega
  · injection hv with hA hN hC
    subst hA; subst hC
    rw [List.length_append] at hcap htk
    refine .inr ⟨g, c, cur, rfl, hg, hh, by simp at hcap; omega, hmax, hsz, ?_⟩
    have h3 := congrArg (List.take (T.length * d.sz)) htk
    rw [List.take_take, List.flatMap_append, List.take_left' (by rw [flat_len (F.len w) T])] at h3
    rw [← h3, Nat.min_eq_left]
    exact Nat.mul_le_mul_right _ (by simp)

section
variable {P : Program} {o : Oper} {a : Act} {Q : Exit → Act → World → Prop} {α : Type} {d : Ty α} {enc : α → List Value}
theorem op_append_K {K : Act → World → Prop} (F : Flat d enc) {w : World} (hgd : o.guard = none) (s x : Operand) (t e : TypeId)
    (ho : o.op = .call { callee := .builtin .append, args := #[s, x], argTypes := #[t, t] })
    (z : Value) (bytes : Nat) (ht : P.underlying t = some (.slice e))
    (hinfo : (P.info? e).map (fun i => (i.zero, i.size, i.bytes)) = some (some z, d.sz, bytes)) (hz : z.cells.size = d.sz)
    {base : Nat} {v : Value} {l : List α} (hown : OwnK d enc e base v l w) (hs : a.eval s = v) {A : Option Addr} {n c : Nat} {m : List α} (hn : m.length = n) (hx : a.eval x = .slice A n c) (hr : RowAt d A m w)
    (hbytes : (l.length + n) * bytes ≤ 140737488355328) (h63 : l.length + n ≤ 9223372036854775807) (hbase : base ≤ w.heap.size)
    (h : ∀ v' w', OwnK d enc e base v' (l ++ m) w' → w.grownBy w' v.ownBlock → (v'.ownBlock = v.ownBlock ∨ v'.ownBlock = some w.heap.size) → K (a.put o.dst v') w') : Oper.wp P o a w K Q := by
  have h := step_append_K (ops := #[]) (E := True) (Q := Q) F hgd s x t e ho z bytes ht hinfo hz hown hs hn hx hr hbytes h63 hbase h
  rw [if_pos (by simp [Region.wanted, hgd])] at h
  exact h
end

/-- The same as wpList_load_row at a guarded operation that is wanted. -/
theorem wpList_load_rowG {P : Program} {ops : Array Oper} {rest : List Oper} {o : Oper} {a : Act} {w : World} {Q : Exit → Act → World → Prop} (hw : Region.wanted o (yielded ops a.tmps) = true) (ty : TypeId) (x : Operand) (ho : o.op = .load ty x)
    (g : Nat) (hx : a.eval x = .pointer (some ⟨g, 0, none⟩)) (t : TypeId) (cs : Array Value) (fr : Nat × Nat) (d : TypeDesc) (hg : w.heap[g]? = some (.cells cs t fr))
    (hu : P.underlying ty = some d) (hd : (match d with | .struct _ | .array _ _ => true | _ => false) = true) (hi : (P.info? ty).map (·.size) = some cs.size)
    (h : wpList P ops Q rest (a.put o.dst (.agg cs)) w) : wpList P ops Q (o :: rest) a w :=
  wpList_step fun _ hK => by rw [if_pos hw]; exact wp_load_row ty x ho g hx t cs fr d hg hu hd hi (hK _ _ h)

section
variable (g m1 m2 : Nat) (D : Nodes) (fr : List Id) (A : Option Addr) (n c : Nat) (w : World)
set_option maxHeartbeats 8000000 in
set_option maxRecDepth 100000 in
theorem reach_calls (h : DagAt g m1 m2 D w) (hn : fr.length = n) (hr : RowAt Ty.id A fr w) (hb : wgtAll D + n ≤ 1000000000) :
    Calls Try.prog 34 #[.pointer (some ⟨g, 0, none⟩), .slice A n c] w fun e w' => ∃ mb l, e = .returned (.map (some mb)) ∧ MapAt idV mb l w' ∧ w.heap.size ≤ mb ∧ Ext w w' ∧ ∀ x, (look l x = some vT ∧ Rch D fr x) ∨ (look l x = none ∧ ¬ Rch D fr x) := by
  have HD := Hd.mk h
  have HN := Hd.mk hn
  have HR := Hd.mk hr
  have HB := Hd.mk hb
  have hn9 : n ≤ 1000000000 := by omega
  clear h hn hr hb
  have hu := Try.underlying24
  have hmm := @run_makeMap Try.prog
  have HM0 : Hd (MapAt idV w.heap.size [] (w.alloc (.map #[] 0))) := ⟨MapAt.made w⟩
  go_enter Try.func34, Try.ntmps34
  go_wp2_with (go_at_call 32; refine (clone_ids A n c fr _ HN.out hn9 (HR.out.ext (by repeat (first | assumption | exact Ext.rfl' _ | apply Ext.drew1 | apply Ext.drewN1 | apply Ext.alloc1 | (refine Ext.set1' ?_ (by simp) _) | refine Ext.tr ?_ (by assumption))))).mono ?_; rintro e w2 ⟨v2, rfl, ho, he⟩; obtain ⟨VA, vk, vc, rfl, HVL, hv1, hv2⟩ := ho.named; have hvk : vk ≤ 1000000000 := (by have h1 := HVL.out; have h2 := HN.out; omega); have HO := Hd.mk ho; clear ho)
  have HW2 : Hd (Ext w w2) := ⟨(by repeat (first | assumption | exact Ext.rfl' _ | apply Ext.drew1 | apply Ext.drewN1 | apply Ext.alloc1 | (refine Ext.set1' ?_ (by simp) _) | refine Ext.tr ?_ (by assumption)))⟩
  have HM2 : Hd (MapAt idV w.heap.size [] w2) := ⟨HM0.out.ext he⟩
  clear he HM0
  go_loopw [6] (fun iv wr => ∃ (T : List Id) (l : List (Id × Value)) (B : Option Addr) (k kc : Nat), iv = .slice B k kc ∧ k ≤ 1000000000 ∧ Hd (T.length = k) ∧ Hd (OwnI w.heap.size iv T wr) ∧ Hd (MapAt idV w.heap.size l wr) ∧ Hd (RInv D fr l T) ∧ Hd (muL D l + k ≤ wgtAll D + n) ∧ Hd (Ext w wr)) (fun iv wr => slen iv + muL D (listOf w.heap.size wr))
  case atStart => exact ⟨fr, [], VA, vk, vc, rfl, hvk, HVL, ⟨HO.out.lower (by simp)⟩, HM2, ⟨RInv.init D fr⟩, ⟨by rw [muL_nil, ← HVL.out, HN.out]; omega⟩, HW2⟩
  case round =>
    obtain ⟨T, l, B, k, kc, rfl, hk9, HT, HO, HML, HI, HMU, HE⟩ := hrel
    rcases Nat.eq_zero_or_pos k with hk0 | hk0
    · subst hk0
      obtain rfl := List.eq_nil_of_length_eq_zero HT.out
      go_wp2
      go_ret
      exact ⟨_, l, rfl, HML.out, Nat.le_refl _, HE.out, HI.out.done⟩
    · obtain ⟨j, rfl⟩ : ∃ j, k = j + 1 := ⟨k - 1, by omega⟩
      obtain ⟨T', x, rfl⟩ : ∃ T' x, T = T' ++ [x] := ⟨T.dropLast, T.getLast (fun e => by have := HT.out; rw [e] at this; cases this), (List.dropLast_concat_getLast _).symm⟩
      have HT' : Hd (T'.length = j) := ⟨by have := HT.out; simp at this; omega⟩
      obtain ⟨go, oo, rfl, hrng⟩ := open_ids (HO.out.rowAt idFlat) (by simp)
      have HRQ := Hd.mk (hrng wr (Ext.rfl' _) j x (by rw [List.getElem?_append_right (by rw [HT'.out]; exact Nat.le_refl _), HT'.out]; simp))
      have HP : Hd (OwnI w.heap.size (.slice (some ⟨go, oo, none⟩) j kc) T' wr) := ⟨HO.out.pop idFlat HT'.out rfl⟩
      have HGO := Hd.mk (HO.out.lt go rfl)
      have hkc : j + 1 ≤ kc ∧ kc ≤ 9223372036854775807 := by
        obtain ⟨_, _, _, hv, _, h1, h2⟩ := HO.out.named
        injection hv with e1 e2 e3
        omega
      obtain ⟨hkc1, hkc2⟩ := hkc
      have r1 : (Instr.lookup 60 (.map (some w.heap.size)) (.agg (idA x)) false).run Try.prog (wr.alloc (.cells (idA x) 24)) = .ok ((look l x).getD (.bool false)) (wr.alloc (.cells (idA x) 24)) := run_lookup idKeys Try.underlying60 (zeroBool _) (HML.out.ext (Ext.alloc' wr (.cells (idA x) 24))) x
      clear hrng
      have HXB : Hd ((wr.alloc (.cells (idA x) 24)).heap[wr.heap.size]? = some (.cells (idA x) 24 (0, 0))) := ⟨heap_alloc_new _ _⟩
      rcases HI.out.val x with hv | hv
      · rw [hv] at r1
        simp only [Option.getD_none] at r1
        have HV := Hd.mk hv
        clear hv
        obtain ⟨bx, hbx⟩ : ∃ bx, has D x = bx := ⟨_, rfl⟩
        have HBX := Hd.mk hbx
        cases bx
        · clear hbx
          go_wp2_with (first
            | (go_at_call 14; refine (has_calls g m1 m2 D x _ (HD.out.ext (HE.out.tr (by repeat (first | assumption | exact Ext.rfl' _ | apply Ext.drew1 | apply Ext.drewN1 | apply Ext.alloc1 | (refine Ext.set1' ?_ (by simp) _) | refine Ext.tr ?_ (by assumption)))))).mono ?_; rintro e w3 ⟨rfl, he⟩; rw [HBX.out])
            | (refine wpList_load_mid (P := Try.prog) rfl 24 (.tmp 18) rfl go (oo + j * 32) rfl (idC x) _ HRQ.out hu rfl (by rw [idC_len]; exact info_sz) ?_)
            | (refine wpList_var_id rfl rfl rfl (.tmp 7) (.tmp 19) rfl x rfl rfl ?_)
            | (refine wpList_load_row (P := Try.prog) rfl 24 (.tmp 7) rfl wr.heap.size rfl 24 (idA x) (0, 0) _ HXB.out hu rfl (by rw [idA_size]; exact info_sz) ?_)
            | (refine wpList_load_rowG (P := Try.prog) rfl 24 (.tmp 7) rfl wr.heap.size rfl 24 (idA x) (0, 0) _ HXB.out hu rfl (by rw [idA_size]; exact info_sz) ?_))
          go_roundw
          case rel => exact ⟨T', l, _, j, kc, rfl, by omega, HT', ⟨HP.out.ext (by repeat (first | assumption | exact Ext.rfl' _ | apply Ext.drew1 | apply Ext.drewN1 | apply Ext.alloc1 | (refine Ext.set1' ?_ (by simp) _) | refine Ext.tr ?_ (by assumption)))⟩, ⟨HML.out.ext (by repeat (first | assumption | exact Ext.rfl' _ | apply Ext.drew1 | apply Ext.drewN1 | apply Ext.alloc1 | (refine Ext.set1' ?_ (by simp) _) | refine Ext.tr ?_ (by assumption)))⟩, ⟨HI.out.skip (.inr HBX.out)⟩, ⟨by have := HMU.out; omega⟩, ⟨HE.out.tr (by repeat (first | assumption | exact Ext.rfl' _ | apply Ext.drew1 | apply Ext.drewN1 | apply Ext.alloc1 | (refine Ext.set1' ?_ (by simp) _) | refine Ext.tr ?_ (by assumption)))⟩⟩
          case measure => rw [listOf_eq (HML.out.ext (show Ext wr w3 from (by repeat (first | assumption | exact Ext.rfl' _ | apply Ext.drew1 | apply Ext.drewN1 | apply Ext.alloc1 | (refine Ext.set1' ?_ (by simp) _) | refine Ext.tr ?_ (by assumption))))), listOf_eq HML.out]; simp [slen]
        · have HMU2 := Hd.mk (muL_put HV.out hbx vT)
          clear hbx
          go_wp2_with (first
            | (go_at_call 14; refine (has_calls g m1 m2 D x _ (HD.out.ext (HE.out.tr (by repeat (first | assumption | exact Ext.rfl' _ | apply Ext.drew1 | apply Ext.drewN1 | apply Ext.alloc1 | (refine Ext.set1' ?_ (by simp) _) | refine Ext.tr ?_ (by assumption)))))).mono ?_; rintro e w3 ⟨rfl, he⟩; rw [HBX.out]; have he3 : Ext wr w3 := (by repeat (first | assumption | exact Ext.rfl' _ | apply Ext.drew1 | apply Ext.drewN1 | apply Ext.alloc1 | (refine Ext.set1' ?_ (by simp) _) | refine Ext.tr ?_ (by assumption))); obtain ⟨w4, hup, hm4, hc4, hs4⟩ := run_mapUpdate idKeys Try.underlying60 (HML.out.ext he3) x vT; have hup2 : (Instr.mapUpdate 60 (.map (some w.heap.size)) (.agg (idA x)) vT).run Try.prog w3 = .ok () w4 := hup; have HE3 := Hd.mk he3; have HM4 := Hd.mk hm4; have HC4 := Hd.mk hc4; have HXB3 := Hd.mk (he.blk HXB.out (fun h => h)); clear hup hm4 hc4 he3 he hs4)
            | (refine wpList_load_mid (P := Try.prog) rfl 24 (.tmp 18) rfl go (oo + j * 32) rfl (idC x) _ HRQ.out hu rfl (by rw [idC_len]; exact info_sz) ?_)
            | (refine wpList_var_id rfl rfl rfl (.tmp 7) (.tmp 19) rfl x rfl rfl ?_)
            | (refine wpList_load_row (P := Try.prog) rfl 24 (.tmp 7) rfl wr.heap.size rfl 24 (idA x) (0, 0) _ HXB.out hu rfl (by rw [idA_size]; exact info_sz) ?_)
            | (refine wpList_load_rowG (P := Try.prog) rfl 24 (.tmp 7) rfl wr.heap.size rfl 24 (idA x) (0, 0) _ HXB.out hu rfl (by rw [idA_size]; exact info_sz) ?_)
            | (refine wpList_load_row (P := Try.prog) rfl 24 (.tmp 7) rfl wr.heap.size rfl 24 (idA x) (0, 0) _ HXB3.out hu rfl (by rw [idA_size]; exact info_sz) ?_))
          have hmne : go ≠ w.heap.size := by
            obtain ⟨_, es, ck, hmb, _⟩ := HML.out
            exact HP.out.neMap hmb go rfl
          have hml := HML.out.lt
          have hgo := HGO.out
          have hE4 : Ext w w4 := (HE.out.tr HE3.out).chg HC4.out (fun b hb => by rw [hb]; exact Nat.le_refl _)
          have hxb4 := HC4.out.blk HXB3.out (fun e => by omega)
          have HP4 : Hd (OwnI w.heap.size (.slice (some ⟨go, oo, none⟩) j kc) T' w4) := ⟨(HP.out.ext HE3.out).chg HC4.out (fun k hk e => by
            obtain rfl : go = k := by simpa [Value.ownBlock] using hk
            exact hmne e)⟩
          obtain ⟨PA, pk, pc, hp1, hp2, HPL, hpk1, hpk2, HPR⟩ := HD.out.node x
          obtain ⟨dx, hdx⟩ : ∃ dx, dep D x = dx := ⟨_, rfl⟩
          rw [hdx] at hp1
          have hpk9 : pk ≤ 1000000000 := by have h1 := HPL.out; have h2 := HB.out; have h3 := par_le D x; omega
          have HS : Hd (∀ W, Chg (fun b => w.heap.size < b ∧ b ≠ wr.heap.size) w4 W → W.rangeAt wr.heap.size 0 (idC x) ∧ W.cell? ⟨g, 0, none⟩ = some (.map (some m1)) ∧ (Instr.lookup 63 (.map (some m1)) (.agg (idA x)) false).run Try.prog W = .ok (.agg #[.slice PA pk pc, .int .i64 dx]) W) := ⟨fun W he => by
            have he' : Ext w W := hE4.chg he (fun b hb => by omega)
            exact ⟨range_blk (he.blk hxb4 (fun e => e.2 rfl)), he'.cell (blk_cell HD.out.1 0) (fun h => h), hp1 W he'⟩⟩
          have HE4 := Hd.mk hE4
          have hsz4 := hE4.size
          have hf0 := fun W => field_par PA pk pc dx W
          clear hp1 hp2 hdx hxb4 hE4
          (refine wp_region_held_drew (S := fun W => W.rangeAt wr.heap.size 0 (idC x) ∧ W.cell? ⟨g, 0, none⟩ = some (.map (some m1)) ∧ (Instr.lookup 63 (.map (some m1)) (.agg (idA x)) false).run Try.prog W = .ok (.agg #[.slice PA pk pc, .int .i64 dx]) W) (by kernel_rfl) (by first | exact HS.out _ (Chg.refl _ _).drew | exact HS.out _ HCW.out) (fun hHeld => ?_); (refine reg_run (i := 0) (v := ?_) rfl (by kernel_rfl) ?_ ?_ (fun _ _ _ h => h) rfl ?_ (by assumption) ?_; rotate_left; (focus (decide +kernel)); (focus (decide +kernel)); (focus (intro W hW; (try dsimp only at hW); go_simp; (try with_reducible rfl); done)); (try simp only [Act.put, List.setIfInBounds_toArray, List.set_cons_zero, List.set_cons_succ])); (refine reg_run (i := 1) (v := ?_) rfl (by kernel_rfl) ?_ ?_ (fun _ _ _ h => h) rfl ?_ (by assumption) ?_; rotate_left; (focus (decide +kernel)); (focus (decide +kernel)); (focus (intro W hW; (try dsimp only at hW); go_simp; (try with_reducible rfl); done)); (try simp only [Act.put, List.setIfInBounds_toArray, List.set_cons_zero, List.set_cons_succ])); (refine reg_run (i := 2) (v := ?_) rfl (by kernel_rfl) ?_ ?_ (fun _ _ _ h => h) rfl ?_ (by assumption) ?_; rotate_left; (focus (decide +kernel)); (focus (decide +kernel)); (focus (intro W hW; (try dsimp only at hW); go_simp; (try with_reducible rfl); done)); (try simp only [Act.put, List.setIfInBounds_toArray, List.set_cons_zero, List.set_cons_succ])); (refine reg_run (i := 3) (v := ?_) rfl (by kernel_rfl) ?_ ?_ (fun _ _ _ h => h) rfl ?_ (by assumption) ?_; rotate_left; (focus (decide +kernel)); (focus (decide +kernel)); (focus (intro W hW; (try dsimp only at hW); go_simp; (try with_reducible rfl); done)); (try simp only [Act.put, List.setIfInBounds_toArray, List.set_cons_zero, List.set_cons_succ])); (refine reg_run (i := 4) (v := ?_) rfl (by kernel_rfl) ?_ ?_ (fun _ _ _ h => h) rfl ?_ (by assumption) ?_; rotate_left; (focus (decide +kernel)); (focus (decide +kernel)); (focus (intro W hW; (try dsimp only at hW); go_simp; (try with_reducible rfl); done)); (try simp only [Act.put, List.setIfInBounds_toArray, List.set_cons_zero, List.set_cons_succ])); (refine reg_load (i := 5) (cs := idC x) rfl rfl (by kernel_rfl) ?_ ?_ rfl hu rfl ?_ (by rw [idC_len]; exact info_sz) rfl (fun _ _ _ h => h) (by assumption) ?_; (focus (decide +kernel)); (focus (decide +kernel)); (focus (intro W hW; (try dsimp only at hW); go_split_ands; assumption)); (try simp only [Act.put, List.setIfInBounds_toArray, List.set_cons_zero, List.set_cons_succ])); (refine reg_run (i := 6) (v := ?_) rfl (by kernel_rfl) ?_ ?_ (fun _ _ _ h => h) rfl ?_ (by assumption) ?_; rotate_left; (focus (decide +kernel)); (focus (decide +kernel)); (focus (intro W hW; (try dsimp only at hW); go_simp; (try with_reducible rfl); done)); (try simp only [Act.put, List.setIfInBounds_toArray, List.set_cons_zero, List.set_cons_succ])); (refine reg_run (i := 7) (v := ?_) rfl (by kernel_rfl) ?_ ?_ (fun _ _ _ h => h) rfl ?_ (by assumption) ?_; rotate_left; (focus (decide +kernel)); (focus (decide +kernel)); (focus (intro W hW; (try dsimp only at hW); go_simp; (try with_reducible rfl); done)); (try simp only [Act.put, List.setIfInBounds_toArray, List.set_cons_zero, List.set_cons_succ])); refine reg_eff (i := 8) rfl ?_ rfl (fun K hK => ?_); (focus (decide +kernel)); (refine op_append_K idFlat rfl (.tmp 36) (.tmp 43) 29 24 rfl _ 32 Try.underlying29 info_id zId_size HP4.out rfl HPL.out rfl (HPR.out.ext (HE4.out.tr (Ext.rfl' w4).drew1)) (by have := HT'.out; omega) (by have := HT'.out; omega) hsz4 ?_; intro v5 w5 ho hg hat; have HCW : Hd (Chg (fun b => w.heap.size < b ∧ b ≠ wr.heap.size) w4 w5) := ⟨((Chg.refl _ w4).drew).grown hg (fun k hk e => (by obtain rfl : go = k := (by simpa [Value.ownBlock] using e); omega))⟩; obtain ⟨B5, k5, c5, rfl, H5L, h51, h52⟩ := ho.named; have HO5 := Hd.mk ho; clear ho hg hat); refine hK.out _ _ (by first | exact HS.out _ (Chg.refl _ _).drew | exact HS.out _ HCW.out) (fun hHeldN => ?_); clear hK K hHeld; have hHeld := hHeldN; clear hHeldN; (try simp only [Act.put, List.setIfInBounds_toArray, List.set_cons_zero, List.set_cons_succ]); (refine reg_run (i := 9) (v := ?_) rfl (by kernel_rfl) ?_ ?_ (fun _ _ _ h => h) rfl ?_ (by assumption) ?_; rotate_left; (focus (decide +kernel)); (focus (decide +kernel)); (focus (intro W hW; (try dsimp only at hW); go_simp; (try with_reducible rfl); done)); (try simp only [Act.put, List.setIfInBounds_toArray, List.set_cons_zero, List.set_cons_succ])); refine wpAnyH_done ?_ ?_ _; (focus (decide +kernel)); clear hHeld)
          go_wp2
          have h5 : k5 = j + pk := by have h1 := H5L.out; have h2 := HT'.out; have h3 := HPL.out; rw [List.length_append] at h1; omega
          have hm5 : MapAt idV w.heap.size (putL l x vT) w5 := HM4.out.chg HCW.out (fun h => absurd h.1 (Nat.lt_irrefl _))
          have h6 := HMU.out
          have h7 := HMU2.out
          have h8 := HPL.out
          go_roundw
          case rel => exact ⟨T' ++ par D x, putL l x vT, _, k5, c5, rfl, by have := HB.out; omega, H5L, HO5, ⟨hm5⟩, ⟨HI.out.mark HBX.out⟩, ⟨by omega⟩, ⟨HE4.out.chg HCW.out (fun b hb => by omega)⟩⟩
          case measure => rw [listOf_eq hm5, listOf_eq HML.out]; simp only [slen]; omega
      · rw [hv] at r1
        simp only [Option.getD_some] at r1
        have HV := Hd.mk hv
        clear hv
        go_wp2_with (first
          | (refine wpList_load_mid (P := Try.prog) rfl 24 (.tmp 18) rfl go (oo + j * 32) rfl (idC x) _ HRQ.out hu rfl (by rw [idC_len]; exact info_sz) ?_)
          | (refine wpList_var_id rfl rfl rfl (.tmp 7) (.tmp 19) rfl x rfl rfl ?_)
          | (refine wpList_load_row (P := Try.prog) rfl 24 (.tmp 7) rfl wr.heap.size rfl 24 (idA x) (0, 0) _ HXB.out hu rfl (by rw [idA_size]; exact info_sz) ?_))
        go_roundw
        case rel => exact ⟨T', l, _, j, kc, rfl, by omega, HT', ⟨HP.out.ext (by repeat (first | assumption | exact Ext.rfl' _ | apply Ext.drew1 | apply Ext.drewN1 | apply Ext.alloc1 | (refine Ext.set1' ?_ (by simp) _) | refine Ext.tr ?_ (by assumption)))⟩, ⟨HML.out.ext (by repeat (first | assumption | exact Ext.rfl' _ | apply Ext.drew1 | apply Ext.drewN1 | apply Ext.alloc1 | (refine Ext.set1' ?_ (by simp) _) | refine Ext.tr ?_ (by assumption)))⟩, ⟨HI.out.skip (.inl HV.out)⟩, ⟨by have := HMU.out; omega⟩, ⟨HE.out.tr (by repeat (first | assumption | exact Ext.rfl' _ | apply Ext.drew1 | apply Ext.drewN1 | apply Ext.alloc1 | (refine Ext.set1' ?_ (by simp) _) | refine Ext.tr ?_ (by assumption)))⟩⟩
        case measure => rw [listOf_eq (HML.out.ext (Ext.alloc' wr (.cells (idA x) 24))), listOf_eq HML.out]; simp [slen]
end
end Go.Proofs.Ythfinaocdcinlaa
