/- Package dag: how a Dag lies in memory; what it answers. -/
import Derived.Test.YthfinaocdcinlaaCmp
import Derived.Test.YthfinaocdcinlaaOwnK
import Derived.Test.YthfinaocdcinlaaReg
import Derived.BigQuiet
import Derived.Deep.RegionHeld3
import Derived.Deep.DrawnRows
namespace Go.Proofs.Ythfinaocdcinlaa
open Go.RowKit
attribute [local go_sem] eql_sl_nil neq_sl_nil
set_option linter.unusedVariables false
set_option linter.unusedSimpArgs false

abbrev Nodes := List (Id × (List Id × Nat))
def has (D : Nodes) (x : Id) : Bool := (look D x).isSome
def par (D : Nodes) (x : Id) : List Id := ((look D x).map (·.1)).getD []
def dep (D : Nodes) (x : Id) : Nat := ((look D x).map (·.2)).getD 0
/-- x is someone's parent. -/
def isKid (D : Nodes) (x : Id) : Bool := D.any (fun n => n.2.1.contains x)

/-- The value v is the node n. -/
def NodeV (n : List Id × Nat) (v : Value) (w : World) : Prop := ∃ A c, v = .agg #[.slice A n.1.length c, .int .i64 n.2] ∧ n.1.length ≤ c ∧ c ≤ 9223372036854775807 ∧ RowAt Ty.id A n.1 w
/-- The Dag at block g, its maps at m1 and m2: it holds D. -/
def DagAt (g m1 m2 : Nat) (D : Nodes) (w : World) : Prop :=
  w.heap[g]? = some (.cells #[.map (some m1), .map (some m2)] 65 (0, 0)) ∧ m1 ≠ m2 ∧
  (∃ l1 : List (Id × Value), MapAt idV m1 l1 w ∧ l1.map Prod.fst = D.map Prod.fst ∧ ∀ x n, look D x = some n → ∃ v, look l1 x = some v ∧ NodeV n v w) ∧
  ∃ l2 : List (Id × Value), MapAt idV m2 l2 w ∧ ∀ x, look l2 x = if isKid D x = true then some (.bool true) else none

theorem NodeV.ext {n : List Id × Nat} {v : Value} {w w1 : World} (h : NodeV n v w) (he : Ext w w1) : NodeV n v w1 := by
  obtain ⟨A, c, h1, h2, h3, h4⟩ := h
  exact ⟨A, c, h1, h2, h3, h4.ext he⟩
theorem DagAt.ext {g m1 m2 : Nat} {D : Nodes} {w w1 : World} (h : DagAt g m1 m2 D w) (he : Ext w w1) : DagAt g m1 m2 D w1 := by
  obtain ⟨h1, h2, ⟨l1, a1, a2, a3⟩, l2, b1, b2⟩ := h
  exact ⟨he.blk h1 (fun h => h), h2, ⟨l1, a1.ext he, a2, fun x n hx => by obtain ⟨v, hv, hn⟩ := a3 x n hx; exact ⟨v, hv, hn.ext he⟩⟩, l2, b1.ext he, b2⟩
theorem field_par (A : Option Addr) (k c : Nat) (d : Int) (W : World) : (Instr.field 68 (.agg #[.slice A k c, .int .i64 d]) 0).run Try.prog W = .ok (.slice A k c) W := by kernel_rfl
theorem field_dep (A : Option Addr) (k c : Nat) (d : Int) (W : World) : (Instr.field 68 (.agg #[.slice A k c, .int .i64 d]) 1).run Try.prog W = .ok (.int .i64 d) W := by kernel_rfl
theorem zeroNode (w : World) : (zeroValue 68).run Try.prog w = .ok (.agg #[.slice none 0 0, .int .i64 0]) w := by kernel_rfl
theorem zeroBool (w : World) : (zeroValue 4).run Try.prog w = .ok (.bool false) w := by kernel_rfl
theorem look_keys {K V V' : Type} [DecidableEq K] {l : List (K × V)} {l' : List (K × V')} (h : l.map Prod.fst = l'.map Prod.fst) (x : K) : look l x = none ↔ look l' x = none := by
  rw [look_none_keys, look_none_keys, h]
/-- What g.all[x] is, in this world and in those behind it. -/
theorem DagAt.node {g m1 m2 : Nat} {D : Nodes} {w : World} (h : DagAt g m1 m2 D w) (x : Id) :
    ∃ A k c, (∀ W, Ext w W → (Instr.lookup 63 (.map (some m1)) (.agg (idA x)) false).run Try.prog W = .ok (.agg #[.slice A k c, .int .i64 (dep D x)]) W) ∧
      (∀ W, Ext w W → (Instr.lookup 63 (.map (some m1)) (.agg (idA x)) true).run Try.prog W = .ok (.tuple #[.agg #[.slice A k c, .int .i64 (dep D x)], .bool (has D x)]) W) ∧
      Hd ((par D x).length = k) ∧ k ≤ c ∧ c ≤ 9223372036854775807 ∧ Hd (RowAt Ty.id A (par D x) w) := by
  obtain ⟨_, _, ⟨l1, a1, a2, a3⟩, _⟩ := h
  have r1 : ∀ W, Ext w W → _ := fun W he => run_lookup idKeys Try.underlying63 (zeroNode W) (a1.ext he) x
  have r2 : ∀ W, Ext w W → _ := fun W he => run_lookup_ok idKeys Try.underlying63 (zeroNode W) (a1.ext he) x
  cases hx : look D x with
  | none =>
    have h1 : look l1 x = none := (look_keys a2 x).2 hx
    rw [h1] at r1 r2
    have e1 : has D x = false := by simp [has, hx]
    have e2 : dep D x = 0 := by simp [dep, hx]
    have e3 : par D x = [] := by simp [par, hx]
    rw [e1, e2, e3]
    exact ⟨none, 0, 0, r1, r2, ⟨rfl⟩, by omega, by omega, ⟨RowAt.nil _ _ _⟩⟩
  | some n =>
    obtain ⟨v, hv, A, c, rfl, h2, h3, h4⟩ := a3 x n hx
    rw [hv] at r1 r2
    have e1 : has D x = true := by simp [has, hx]
    have e2 : dep D x = n.2 := by simp [dep, hx]
    have e3 : par D x = n.1 := by simp [par, hx]
    rw [e1, e2, e3]
    exact ⟨A, n.1.length, c, r1, r2, ⟨rfl⟩, h2, h3, ⟨h4⟩⟩

theorem idFlat : Flat Ty.id idC := ⟨fun h => h, fun _ _ => rfl, by decide⟩
def zId : Id := ⟨List.replicate 32 0, rfl⟩
theorem info_id : (Try.prog.info? 24).map (fun i => (i.zero, i.size, i.bytes)) = some (some (.agg (idA zId)), Ty.id.sz, 32) := by kernel_rfl
theorem zId_size : (Value.agg (idA zId)).cells.size = Ty.id.sz := by kernel_rfl
theorem info_sz : (Try.prog.info? 24).map (·.size) = some 32 := by kernel_rfl
abbrev OwnI (base : Nat) (v : Value) (l : List Id) (w : World) : Prop := OwnK Ty.id idC 24 base v l w

/-- slices.Clone of IDs: nil stays nil; else new memory. -/
theorem clone_ids (A : Option Addr) (n c : Nat) (l : List Id) (w : World) (hn : l.length = n) (hb : n ≤ 1000000000) (h : RowAt Ty.id A l w) :
    Calls Try.prog 32 #[.slice A n c] w fun e w' => ∃ v, e = .returned v ∧ OwnI w.heap.size v l w' ∧ Ext w w' := by
  have HR := Hd.mk h
  have HN := Hd.mk hn
  clear h hn
  cases A with
  | none =>
    have hl : l = [] := by
      rcases Nat.eq_zero_or_pos l.length with h0 | h0
      · exact List.eq_nil_of_length_eq_zero h0
      · obtain ⟨ad, h⟩ := HR.out.some_ h0
        cases h
    subst hl
    go_enter Try.func32, Try.ntmps32
    go_wp2
    go_ret
    exact ⟨_, rfl, OwnK.nil _ _ _ _ _, Chg.refl _ _⟩
  | some ad =>
    go_enter Try.func32, Try.ntmps32
    go_wp2_with (at_builtin; refine wpList_append_K idFlat rfl (.tmp 5) (.tmp 6) 29 24 rfl _ 32 Try.underlying29 info_id zId_size (OwnK.lit idFlat w w.heap.size 24 [] (Nat.le_refl _) (by simp)) rfl HN.out rfl (HR.out.ext (Ext.alloc' _ _)) (by simp; omega) (by simp; omega) (by simp) ?_; intro v1 w1 ho hg hat; have HO := Hd.mk ho; have HG := Hd.mk hg; clear ho hg hat)
    go_wp2
    go_ret
    refine ⟨_, rfl, HO.out, ((Chg.refl _ w).alloc _).grown HG.out (fun k hk e => ?_)⟩
    have : w.heap.size = k := by simpa [Value.ownBlock] using e
    omega

theorem take_snoc' {α : Type} {l : List α} {k : Nat} {x : α} (h : l[k]? = some x) : l.take (k + 1) = l.take k ++ [x] := by
  rw [List.take_add_one, h]; rfl
theorem take_step' {α : Type} {l r : List α} {k : Nat} {x : α} (h : l.take k = r.take k) (hx : l[k]? = some x) (hy : r[k]? = some x) : l.take (k + 1) = r.take (k + 1) := by
  rw [take_snoc' hx, take_snoc' hy, h]
set_option maxHeartbeats 4000000 in
set_option maxRecDepth 100000 in
/-- slices.Equal of IDs -/
theorem equal_ids (A B : Option Addr) (n m c d : Nat) (l r : List Id) (w : World) (hn : l.length = n) (hm : r.length = m) (hc : n ≤ 1000000000) (hd : m ≤ 1000000000) (hA : RowAt Ty.id A l w) (hB : RowAt Ty.id B r w) :
    Calls Try.prog 31 #[.slice A n c, .slice B m d] w fun e w' => e = .returned (.bool (decide (l = r))) ∧ Drawn w w' := by
  have HN := Hd.mk hn
  have HM := Hd.mk hm
  by_cases hnm : n = m
  · subst hnm
    rcases Nat.eq_zero_or_pos n with h0 | h0
    · subst h0
      obtain rfl := List.eq_nil_of_length_eq_zero hn
      obtain rfl := List.eq_nil_of_length_eq_zero hm
      clear hn hm HN HM hA hB
      go_enter Try.func31, Try.ntmps31
      go_wp2
      go_loop [13] (fun i => i = .int .i64 0) (fun _ => 0)
      case atStart => rfl
      case round =>
        subst hrel
        go_wp2
        go_ret
        exact ⟨rfl, Drawn.refl _⟩
    obtain ⟨g1, o1, rfl, h1⟩ := open_ids hA (by omega)
    obtain ⟨g2, o2, rfl, h2⟩ := open_ids hB (by omega)
    have H1 := Hd.mk h1
    have H2 := Hd.mk h2
    obtain ⟨bq, hbq⟩ : ∃ b, decide (l = r) = b := ⟨_, rfl⟩
    rw [hbq]
    have HBQ := Hd.mk hbq
    clear hn hm hA hB h1 h2 hbq
    have hu := Try.underlying24
    go_enter Try.func31, Try.ntmps31
    go_wp2
    go_loopw [13] (fun i wr => ∃ k : Nat, k ≤ n ∧ i = .int .i64 k ∧ Hd (l.take k = r.take k) ∧ Hd (Drawn w wr)) (fun i _ => n - (intOf i).toNat)
    case atStart => exact ⟨0, by omega, rfl, ⟨rfl⟩, ⟨Drawn.refl _⟩⟩
    case round =>
      obtain ⟨k, hk, rfl, HT, HW⟩ := hrel
      by_cases hlt : k < n
      · obtain ⟨x, hx⟩ : ∃ x, l[k]? = some x := ⟨_, List.getElem?_eq_getElem (by have := HN.out; omega)⟩
        obtain ⟨y, hy⟩ : ∃ y, r[k]? = some y := ⟨_, List.getElem?_eq_getElem (by have := HM.out; omega)⟩
        have HX := Hd.mk hx
        have HY := Hd.mk hy
        have hi2 : (Try.prog.info? 24).map (·.size) = some (idC y).length := by rw [idC_len]; kernel_rfl
        have HS : Hd (∀ W, Ext w W → W.rangeAt g1 (o1 + k * 32) (idC x) ∧ W.rangeAt g2 (o2 + k * 32) (idC y)) := ⟨fun W he => ⟨H1.out W he k x HX.out, H2.out W he k y HY.out⟩⟩
        have hE : Ext w wr := HW.out.ext
        have b1 : (0 : Int) ≤ (k : Int) := by omega
        have b2 : (k : Int) < (n : Int) := by omega
        clear hx hy
        by_cases hxy : x = y
        · have hdec : (!decide (x = y)) = false := by simp [hxy]
          have HXY := Hd.mk hxy
          have q3 := fun W => bin_ne_id W x y
          rw [hdec] at q3
          clear hdec hxy
          go_wp2_with fail
          (refine wp_region_held_drew (S := fun W => W.rangeAt g1 (o1 + k * 32) (idC x) ∧ W.rangeAt g2 (o2 + k * 32) (idC y)) (by kernel_rfl) (HS.out _ (by repeat (first | assumption | exact Ext.rfl' _ | apply Ext.drew1 | apply Ext.drewN1 | apply Ext.alloc1 | (refine Ext.set1' ?_ (by simp) _) | refine Ext.tr ?_ (by assumption)))) (fun hHeld => ?_); (refine reg_run (i := 0) (v := ?_) rfl (by kernel_rfl) ?_ ?_ (fun _ _ _ h => h) rfl ?_ (by assumption) ?_; rotate_left; (focus (decide +kernel)); (focus (decide +kernel)); (focus (intro W hW; (try dsimp only at hW); go_simp; (try with_reducible rfl); done)); (try simp only [Act.put, List.setIfInBounds_toArray, List.set_cons_zero, List.set_cons_succ])); (refine reg_run (i := 1) (v := ?_) rfl (by kernel_rfl) ?_ ?_ (fun _ _ _ h => h) rfl ?_ (by assumption) ?_; rotate_left; (focus (decide +kernel)); (focus (decide +kernel)); (focus (intro W hW; (try dsimp only at hW); go_simp; (try with_reducible rfl); done)); (try simp only [Act.put, List.setIfInBounds_toArray, List.set_cons_zero, List.set_cons_succ])); (refine reg_run (i := 2) (v := ?_) rfl (by kernel_rfl) ?_ ?_ (fun _ _ _ h => h) rfl ?_ (by assumption) ?_; rotate_left; (focus (decide +kernel)); (focus (decide +kernel)); (focus (intro W hW; (try dsimp only at hW); go_simp; (try with_reducible rfl); done)); (try simp only [Act.put, List.setIfInBounds_toArray, List.set_cons_zero, List.set_cons_succ])); (refine reg_load (i := 3) (cs := idC x) rfl rfl (by kernel_rfl) ?_ ?_ rfl hu rfl ?_ (by rw [idC_len]; exact info_sz) rfl (fun _ _ _ h => h) (by assumption) ?_; (focus (decide +kernel)); (focus (decide +kernel)); (focus (intro W hW; (try dsimp only at hW); go_split_ands; assumption)); (try simp only [Act.put, List.setIfInBounds_toArray, List.set_cons_zero, List.set_cons_succ])); (refine reg_run (i := 4) (v := ?_) rfl (by kernel_rfl) ?_ ?_ (fun _ _ _ h => h) rfl ?_ (by assumption) ?_; rotate_left; (focus (decide +kernel)); (focus (decide +kernel)); (focus (intro W hW; (try dsimp only at hW); go_simp; (try with_reducible rfl); done)); (try simp only [Act.put, List.setIfInBounds_toArray, List.set_cons_zero, List.set_cons_succ])); (refine reg_run (i := 5) (v := ?_) rfl (by kernel_rfl) ?_ ?_ (fun _ _ _ h => h) rfl ?_ (by assumption) ?_; rotate_left; (focus (decide +kernel)); (focus (decide +kernel)); (focus (intro W hW; (try dsimp only at hW); go_simp; (try with_reducible rfl); done)); (try simp only [Act.put, List.setIfInBounds_toArray, List.set_cons_zero, List.set_cons_succ])); (refine reg_run (i := 6) (v := ?_) rfl (by kernel_rfl) ?_ ?_ (fun _ _ _ h => h) rfl ?_ (by assumption) ?_; rotate_left; (focus (decide +kernel)); (focus (decide +kernel)); (focus (intro W hW; (try dsimp only at hW); go_simp; (try with_reducible rfl); done)); (try simp only [Act.put, List.setIfInBounds_toArray, List.set_cons_zero, List.set_cons_succ])); (refine reg_load (i := 7) (cs := idC y) rfl rfl (by kernel_rfl) ?_ ?_ rfl hu rfl ?_ (by rw [idC_len]; exact info_sz) rfl (fun _ _ _ h => h) (by assumption) ?_; (focus (decide +kernel)); (focus (decide +kernel)); (focus (intro W hW; (try dsimp only at hW); go_split_ands; assumption)); (try simp only [Act.put, List.setIfInBounds_toArray, List.set_cons_zero, List.set_cons_succ])); (refine reg_run (i := 8) (v := ?_) rfl (by kernel_rfl) ?_ ?_ (fun _ _ _ h => h) rfl ?_ (by assumption) ?_; rotate_left; (focus (decide +kernel)); (focus (decide +kernel)); (focus (intro W hW; (try dsimp only at hW); go_simp; (try with_reducible rfl); done)); (try simp only [Act.put, List.setIfInBounds_toArray, List.set_cons_zero, List.set_cons_succ])); refine wpAnyH_done ?_ ?_ _; (focus (decide +kernel)); clear hHeld)
          go_wp2
          go_roundw
          case rel => exact ⟨k + 1, by omega, by go_num, ⟨take_step' HT.out HX.out (by rw [HXY.out]; exact HY.out)⟩, ⟨HW.out.drew⟩⟩
          case measure => simp [intOf]; omega
        · have hdec : (!decide (x = y)) = true := by simp [hxy]
          have HXY := Hd.mk hxy
          have q3 := fun W => bin_ne_id W x y
          rw [hdec] at q3
          clear hdec hxy
          have hne : bq = false := by
            rw [← HBQ.out]
            simp only [decide_eq_false_iff_not]
            intro e
            have h1 := HX.out
            rw [e, HY.out] at h1
            exact HXY.out (by injection h1 with h1; exact h1.symm)
          subst hne
          go_wp2_with fail
          (refine wp_region_held_drew (S := fun W => W.rangeAt g1 (o1 + k * 32) (idC x) ∧ W.rangeAt g2 (o2 + k * 32) (idC y)) (by kernel_rfl) (HS.out _ (by repeat (first | assumption | exact Ext.rfl' _ | apply Ext.drew1 | apply Ext.drewN1 | apply Ext.alloc1 | (refine Ext.set1' ?_ (by simp) _) | refine Ext.tr ?_ (by assumption)))) (fun hHeld => ?_); (refine reg_run (i := 0) (v := ?_) rfl (by kernel_rfl) ?_ ?_ (fun _ _ _ h => h) rfl ?_ (by assumption) ?_; rotate_left; (focus (decide +kernel)); (focus (decide +kernel)); (focus (intro W hW; (try dsimp only at hW); go_simp; (try with_reducible rfl); done)); (try simp only [Act.put, List.setIfInBounds_toArray, List.set_cons_zero, List.set_cons_succ])); (refine reg_run (i := 1) (v := ?_) rfl (by kernel_rfl) ?_ ?_ (fun _ _ _ h => h) rfl ?_ (by assumption) ?_; rotate_left; (focus (decide +kernel)); (focus (decide +kernel)); (focus (intro W hW; (try dsimp only at hW); go_simp; (try with_reducible rfl); done)); (try simp only [Act.put, List.setIfInBounds_toArray, List.set_cons_zero, List.set_cons_succ])); (refine reg_run (i := 2) (v := ?_) rfl (by kernel_rfl) ?_ ?_ (fun _ _ _ h => h) rfl ?_ (by assumption) ?_; rotate_left; (focus (decide +kernel)); (focus (decide +kernel)); (focus (intro W hW; (try dsimp only at hW); go_simp; (try with_reducible rfl); done)); (try simp only [Act.put, List.setIfInBounds_toArray, List.set_cons_zero, List.set_cons_succ])); (refine reg_load (i := 3) (cs := idC x) rfl rfl (by kernel_rfl) ?_ ?_ rfl hu rfl ?_ (by rw [idC_len]; exact info_sz) rfl (fun _ _ _ h => h) (by assumption) ?_; (focus (decide +kernel)); (focus (decide +kernel)); (focus (intro W hW; (try dsimp only at hW); go_split_ands; assumption)); (try simp only [Act.put, List.setIfInBounds_toArray, List.set_cons_zero, List.set_cons_succ])); (refine reg_run (i := 4) (v := ?_) rfl (by kernel_rfl) ?_ ?_ (fun _ _ _ h => h) rfl ?_ (by assumption) ?_; rotate_left; (focus (decide +kernel)); (focus (decide +kernel)); (focus (intro W hW; (try dsimp only at hW); go_simp; (try with_reducible rfl); done)); (try simp only [Act.put, List.setIfInBounds_toArray, List.set_cons_zero, List.set_cons_succ])); (refine reg_run (i := 5) (v := ?_) rfl (by kernel_rfl) ?_ ?_ (fun _ _ _ h => h) rfl ?_ (by assumption) ?_; rotate_left; (focus (decide +kernel)); (focus (decide +kernel)); (focus (intro W hW; (try dsimp only at hW); go_simp; (try with_reducible rfl); done)); (try simp only [Act.put, List.setIfInBounds_toArray, List.set_cons_zero, List.set_cons_succ])); (refine reg_run (i := 6) (v := ?_) rfl (by kernel_rfl) ?_ ?_ (fun _ _ _ h => h) rfl ?_ (by assumption) ?_; rotate_left; (focus (decide +kernel)); (focus (decide +kernel)); (focus (intro W hW; (try dsimp only at hW); go_simp; (try with_reducible rfl); done)); (try simp only [Act.put, List.setIfInBounds_toArray, List.set_cons_zero, List.set_cons_succ])); (refine reg_load (i := 7) (cs := idC y) rfl rfl (by kernel_rfl) ?_ ?_ rfl hu rfl ?_ (by rw [idC_len]; exact info_sz) rfl (fun _ _ _ h => h) (by assumption) ?_; (focus (decide +kernel)); (focus (decide +kernel)); (focus (intro W hW; (try dsimp only at hW); go_split_ands; assumption)); (try simp only [Act.put, List.setIfInBounds_toArray, List.set_cons_zero, List.set_cons_succ])); (refine reg_run (i := 8) (v := ?_) rfl (by kernel_rfl) ?_ ?_ (fun _ _ _ h => h) rfl ?_ (by assumption) ?_; rotate_left; (focus (decide +kernel)); (focus (decide +kernel)); (focus (intro W hW; (try dsimp only at hW); go_simp; (try with_reducible rfl); done)); (try simp only [Act.put, List.setIfInBounds_toArray, List.set_cons_zero, List.set_cons_succ])); refine wpAnyH_done ?_ ?_ _; (focus (decide +kernel)); clear hHeld)
          go_wp2
          go_ret
          exact ⟨rfl, HW.out.drew⟩
      · obtain rfl : k = n := by omega
        have he : bq = true := by
          rw [← HBQ.out]
          simp only [decide_eq_true_eq]
          have h := HT.out
          rwa [List.take_of_length_le (by have := HN.out; omega), List.take_of_length_le (by have := HM.out; omega)] at h
        subst he
        go_wp2
        go_ret
        exact ⟨rfl, HW.out⟩
  · have hne : decide (l = r) = false := by
      simp only [decide_eq_false_iff_not]
      intro e
      rw [e] at hn
      omega
    rw [hne]
    have d1 : ((n : Int) != (m : Int)) = true := by simp; omega
    clear hne hn hm hA hB
    go_enter Try.func31, Try.ntmps31
    go_wp2
    go_ret
    exact ⟨rfl, Drawn.refl _⟩

set_option maxHeartbeats 4000000 in
set_option maxRecDepth 100000 in
/-- (*Dag).Has -/
theorem has_calls (g m1 m2 : Nat) (D : Nodes) (x : Id) (w : World) (h : DagAt g m1 m2 D w) :
    Calls Try.prog 14 #[.pointer (some ⟨g, 0, none⟩), .agg (idA x)] w fun e w' => e = .returned (.bool (has D x)) ∧ Ext w w' := by
  obtain ⟨A, k, c, hl1, hl2, HL, hk1, hk2, HR⟩ := h.node x
  obtain ⟨b, hb⟩ : ∃ b, has D x = b := ⟨_, rfl⟩
  obtain ⟨d, hd⟩ : ∃ d, dep D x = d := ⟨_, rfl⟩
  rw [hb, hd] at hl2
  rw [hb]
  have HS : Hd (∀ W, Ext (w.alloc (.cells (idA x) 24)) W → W.rangeAt w.heap.size 0 (idC x) ∧ W.cell? ⟨g, 0, none⟩ = some (.map (some m1)) ∧ (Instr.lookup 63 (.map (some m1)) (.agg (idA x)) true).run Try.prog W = .ok (.tuple #[.agg #[.slice A k c, .int .i64 d], .bool b]) W) := ⟨fun W he =>
    ⟨range_blk (he.blk (heap_alloc_new w _) (fun h => h)), ((Ext.alloc' w _).tr he).cell (blk_cell h.1 0) (fun h => h), hl2 W ((Ext.alloc' w _).tr he)⟩⟩
  have hu := Try.underlying24
  clear hl1 hl2 hb hd h
  go_enter Try.func14, Try.ntmps14
  go_wp2_with fail
  (refine wp_region_held_drew (S := fun W => W.rangeAt w.heap.size 0 (idC x) ∧ W.cell? ⟨g, 0, none⟩ = some (.map (some m1)) ∧ (Instr.lookup 63 (.map (some m1)) (.agg (idA x)) true).run Try.prog W = .ok (.tuple #[.agg #[.slice A k c, .int .i64 d], .bool b]) W) (by kernel_rfl) (HS.out _ (by repeat (first | assumption | exact Ext.rfl' _ | apply Ext.drew1 | apply Ext.drewN1 | apply Ext.alloc1 | (refine Ext.set1' ?_ (by simp) _) | refine Ext.tr ?_ (by assumption)))) (fun hHeld => ?_); (refine reg_run (i := 0) (v := ?_) rfl (by kernel_rfl) ?_ ?_ (fun _ _ _ h => h) rfl ?_ (by assumption) ?_; rotate_left; (focus (decide +kernel)); (focus (decide +kernel)); (focus (intro W hW; (try dsimp only at hW); go_simp; (try with_reducible rfl); done)); (try simp only [Act.put, List.setIfInBounds_toArray, List.set_cons_zero, List.set_cons_succ])); (refine reg_run (i := 1) (v := ?_) rfl (by kernel_rfl) ?_ ?_ (fun _ _ _ h => h) rfl ?_ (by assumption) ?_; rotate_left; (focus (decide +kernel)); (focus (decide +kernel)); (focus (intro W hW; (try dsimp only at hW); go_simp; (try with_reducible rfl); done)); (try simp only [Act.put, List.setIfInBounds_toArray, List.set_cons_zero, List.set_cons_succ])); (refine reg_run (i := 2) (v := ?_) rfl (by kernel_rfl) ?_ ?_ (fun _ _ _ h => h) rfl ?_ (by assumption) ?_; rotate_left; (focus (decide +kernel)); (focus (decide +kernel)); (focus (intro W hW; (try dsimp only at hW); go_simp; (try with_reducible rfl); done)); (try simp only [Act.put, List.setIfInBounds_toArray, List.set_cons_zero, List.set_cons_succ])); (refine reg_run (i := 3) (v := ?_) rfl (by kernel_rfl) ?_ ?_ (fun _ _ _ h => h) rfl ?_ (by assumption) ?_; rotate_left; (focus (decide +kernel)); (focus (decide +kernel)); (focus (intro W hW; (try dsimp only at hW); go_simp; (try with_reducible rfl); done)); (try simp only [Act.put, List.setIfInBounds_toArray, List.set_cons_zero, List.set_cons_succ])); (refine reg_load (i := 4) (cs := idC x) rfl rfl (by kernel_rfl) ?_ ?_ rfl hu rfl ?_ (by rw [idC_len]; exact info_sz) rfl (fun _ _ _ h => h) (by assumption) ?_; (focus (decide +kernel)); (focus (decide +kernel)); (focus (intro W hW; (try dsimp only at hW); go_split_ands; assumption)); (try simp only [Act.put, List.setIfInBounds_toArray, List.set_cons_zero, List.set_cons_succ])); (refine reg_run (i := 5) (v := ?_) rfl (by kernel_rfl) ?_ ?_ (fun _ _ _ h => h) rfl ?_ (by assumption) ?_; rotate_left; (focus (decide +kernel)); (focus (decide +kernel)); (focus (intro W hW; (try dsimp only at hW); go_simp; (try with_reducible rfl); done)); (try simp only [Act.put, List.setIfInBounds_toArray, List.set_cons_zero, List.set_cons_succ])); (refine reg_run (i := 6) (v := ?_) rfl (by kernel_rfl) ?_ ?_ (fun _ _ _ h => h) rfl ?_ (by assumption) ?_; rotate_left; (focus (decide +kernel)); (focus (decide +kernel)); (focus (intro W hW; (try dsimp only at hW); go_simp; (try with_reducible rfl); done)); (try simp only [Act.put, List.setIfInBounds_toArray, List.set_cons_zero, List.set_cons_succ])); (refine reg_run (i := 7) (v := ?_) rfl (by kernel_rfl) ?_ ?_ (fun _ _ _ h => h) rfl ?_ (by assumption) ?_; rotate_left; (focus (decide +kernel)); (focus (decide +kernel)); (focus (intro W hW; (try dsimp only at hW); go_simp; (try with_reducible rfl); done)); (try simp only [Act.put, List.setIfInBounds_toArray, List.set_cons_zero, List.set_cons_succ])); (refine reg_run (i := 8) (v := ?_) rfl (by kernel_rfl) ?_ ?_ (fun _ _ _ h => h) rfl ?_ (by assumption) ?_; rotate_left; (focus (decide +kernel)); (focus (decide +kernel)); (focus (intro W hW; (try dsimp only at hW); go_simp; (try with_reducible rfl); done)); (try simp only [Act.put, List.setIfInBounds_toArray, List.set_cons_zero, List.set_cons_succ])); refine reg_eff (i := 9) rfl ?_ rfl (fun K hK => ?_); (focus (decide +kernel)); go_simp; refine hK.out _ _ (HS.out _ (by repeat (first | assumption | exact Ext.rfl' _ | apply Ext.drew1 | apply Ext.drewN1 | apply Ext.alloc1 | (refine Ext.set1' ?_ (by simp) _) | refine Ext.tr ?_ (by assumption)))) (fun hHeldN => ?_); clear hK K hHeld; have hHeld := hHeldN; clear hHeldN; (try simp only [Act.put, List.setIfInBounds_toArray, List.set_cons_zero, List.set_cons_succ]); refine reg_eff (i := 10) rfl ?_ rfl (fun K hK => ?_); (focus (decide +kernel)); go_simp; refine hK.out _ _ (HS.out _ (by repeat (first | assumption | exact Ext.rfl' _ | apply Ext.drew1 | apply Ext.drewN1 | apply Ext.alloc1 | (refine Ext.set1' ?_ (by simp) _) | refine Ext.tr ?_ (by assumption)))) (fun hHeldN => ?_); clear hK K hHeld; have hHeld := hHeldN; clear hHeldN; (try simp only [Act.put, List.setIfInBounds_toArray, List.set_cons_zero, List.set_cons_succ]); (refine reg_run (i := 11) (v := ?_) rfl (by kernel_rfl) ?_ ?_ (fun _ _ _ h => h) rfl ?_ (by assumption) ?_; rotate_left; (focus (decide +kernel)); (focus (decide +kernel)); (focus (intro W hW; (try dsimp only at hW); go_simp; (try with_reducible rfl); done)); (try simp only [Act.put, List.setIfInBounds_toArray, List.set_cons_zero, List.set_cons_succ])); refine wpAnyH_done ?_ ?_ _; (focus (decide +kernel)); clear hHeld)
  go_wp2
  go_ret
  exact ⟨rfl, (by repeat (first | assumption | exact Ext.rfl' _ | apply Ext.drew1 | apply Ext.drewN1 | apply Ext.alloc1 | (refine Ext.set1' ?_ (by simp) _) | refine Ext.tr ?_ (by assumption)))⟩

set_option maxHeartbeats 4000000 in
set_option maxRecDepth 100000 in
/-- (*Dag).Depth -/
theorem depth_calls (g m1 m2 : Nat) (D : Nodes) (x : Id) (w : World) (h : DagAt g m1 m2 D w) :
    Calls Try.prog 18 #[.pointer (some ⟨g, 0, none⟩), .agg (idA x)] w fun e w' => e = .returned (.int .i64 (dep D x)) ∧ Ext w w' := by
  obtain ⟨A, k, c, hl1, hl2, HL, hk1, hk2, HR⟩ := h.node x
  obtain ⟨d, hd⟩ : ∃ d, dep D x = d := ⟨_, rfl⟩
  rw [hd] at hl1
  rw [hd]
  have HS : Hd (∀ W, Ext (w.alloc (.cells (idA x) 24)) W → W.rangeAt w.heap.size 0 (idC x) ∧ W.cell? ⟨g, 0, none⟩ = some (.map (some m1)) ∧ (Instr.lookup 63 (.map (some m1)) (.agg (idA x)) false).run Try.prog W = .ok (.agg #[.slice A k c, .int .i64 d]) W) := ⟨fun W he =>
    ⟨range_blk (he.blk (heap_alloc_new w _) (fun h => h)), ((Ext.alloc' w _).tr he).cell (blk_cell h.1 0) (fun h => h), hl1 W ((Ext.alloc' w _).tr he)⟩⟩
  have hu := Try.underlying24
  have hf1 := fun W => field_dep A k c d W
  clear hl1 hl2 hd h
  go_enter Try.func18, Try.ntmps18
  go_wp2_with fail
  (refine wp_region_held_drew (S := fun W => W.rangeAt w.heap.size 0 (idC x) ∧ W.cell? ⟨g, 0, none⟩ = some (.map (some m1)) ∧ (Instr.lookup 63 (.map (some m1)) (.agg (idA x)) false).run Try.prog W = .ok (.agg #[.slice A k c, .int .i64 d]) W) (by kernel_rfl) (HS.out _ (by repeat (first | assumption | exact Ext.rfl' _ | apply Ext.drew1 | apply Ext.drewN1 | apply Ext.alloc1 | (refine Ext.set1' ?_ (by simp) _) | refine Ext.tr ?_ (by assumption)))) (fun hHeld => ?_); (refine reg_run (i := 0) (v := ?_) rfl (by kernel_rfl) ?_ ?_ (fun _ _ _ h => h) rfl ?_ (by assumption) ?_; rotate_left; (focus (decide +kernel)); (focus (decide +kernel)); (focus (intro W hW; (try dsimp only at hW); go_simp; (try with_reducible rfl); done)); (try simp only [Act.put, List.setIfInBounds_toArray, List.set_cons_zero, List.set_cons_succ])); (refine reg_run (i := 1) (v := ?_) rfl (by kernel_rfl) ?_ ?_ (fun _ _ _ h => h) rfl ?_ (by assumption) ?_; rotate_left; (focus (decide +kernel)); (focus (decide +kernel)); (focus (intro W hW; (try dsimp only at hW); go_simp; (try with_reducible rfl); done)); (try simp only [Act.put, List.setIfInBounds_toArray, List.set_cons_zero, List.set_cons_succ])); (refine reg_run (i := 2) (v := ?_) rfl (by kernel_rfl) ?_ ?_ (fun _ _ _ h => h) rfl ?_ (by assumption) ?_; rotate_left; (focus (decide +kernel)); (focus (decide +kernel)); (focus (intro W hW; (try dsimp only at hW); go_simp; (try with_reducible rfl); done)); (try simp only [Act.put, List.setIfInBounds_toArray, List.set_cons_zero, List.set_cons_succ])); (refine reg_run (i := 3) (v := ?_) rfl (by kernel_rfl) ?_ ?_ (fun _ _ _ h => h) rfl ?_ (by assumption) ?_; rotate_left; (focus (decide +kernel)); (focus (decide +kernel)); (focus (intro W hW; (try dsimp only at hW); go_simp; (try with_reducible rfl); done)); (try simp only [Act.put, List.setIfInBounds_toArray, List.set_cons_zero, List.set_cons_succ])); (refine reg_load (i := 4) (cs := idC x) rfl rfl (by kernel_rfl) ?_ ?_ rfl hu rfl ?_ (by rw [idC_len]; exact info_sz) rfl (fun _ _ _ h => h) (by assumption) ?_; (focus (decide +kernel)); (focus (decide +kernel)); (focus (intro W hW; (try dsimp only at hW); go_split_ands; assumption)); (try simp only [Act.put, List.setIfInBounds_toArray, List.set_cons_zero, List.set_cons_succ])); (refine reg_run (i := 5) (v := ?_) rfl (by kernel_rfl) ?_ ?_ (fun _ _ _ h => h) rfl ?_ (by assumption) ?_; rotate_left; (focus (decide +kernel)); (focus (decide +kernel)); (focus (intro W hW; (try dsimp only at hW); go_simp; (try with_reducible rfl); done)); (try simp only [Act.put, List.setIfInBounds_toArray, List.set_cons_zero, List.set_cons_succ])); (refine reg_run (i := 6) (v := ?_) rfl (by kernel_rfl) ?_ ?_ (fun _ _ _ h => h) rfl ?_ (by assumption) ?_; rotate_left; (focus (decide +kernel)); (focus (decide +kernel)); (focus (intro W hW; (try dsimp only at hW); go_simp; (try with_reducible rfl); done)); (try simp only [Act.put, List.setIfInBounds_toArray, List.set_cons_zero, List.set_cons_succ])); (refine reg_run (i := 7) (v := ?_) rfl (by kernel_rfl) ?_ ?_ (fun _ _ _ h => h) rfl ?_ (by assumption) ?_; rotate_left; (focus (decide +kernel)); (focus (decide +kernel)); (focus (intro W hW; (try dsimp only at hW); go_simp; (try with_reducible rfl); done)); (try simp only [Act.put, List.setIfInBounds_toArray, List.set_cons_zero, List.set_cons_succ])); refine wpAnyH_done ?_ ?_ _; (focus (decide +kernel)); clear hHeld)
  go_wp2
  go_ret
  exact ⟨rfl, (by repeat (first | assumption | exact Ext.rfl' _ | apply Ext.drew1 | apply Ext.drewN1 | apply Ext.alloc1 | (refine Ext.set1' ?_ (by simp) _) | refine Ext.tr ?_ (by assumption)))⟩

set_option maxHeartbeats 4000000 in
set_option maxRecDepth 100000 in
/-- (*Dag).Parents -/
theorem parents_calls (g m1 m2 : Nat) (D : Nodes) (x : Id) (w : World) (h : DagAt g m1 m2 D w) (hp : (par D x).length ≤ 1000000000) :
    Calls Try.prog 17 #[.pointer (some ⟨g, 0, none⟩), .agg (idA x)] w fun e w' => ∃ v, e = .returned v ∧ OwnI w.heap.size v (par D x) w' ∧ Ext w w' := by
  obtain ⟨A, k, c, hl1, hl2, HL, hk1, hk2, HR⟩ := h.node x
  obtain ⟨d, hd⟩ : ∃ d, dep D x = d := ⟨_, rfl⟩
  rw [hd] at hl1
  rw [HL.out] at hp
  have HS : Hd (∀ W, Ext (w.alloc (.cells (idA x) 24)) W → W.rangeAt w.heap.size 0 (idC x) ∧ W.cell? ⟨g, 0, none⟩ = some (.map (some m1)) ∧ (Instr.lookup 63 (.map (some m1)) (.agg (idA x)) false).run Try.prog W = .ok (.agg #[.slice A k c, .int .i64 d]) W) := ⟨fun W he =>
    ⟨range_blk (he.blk (heap_alloc_new w _) (fun h => h)), ((Ext.alloc' w _).tr he).cell (blk_cell h.1 0) (fun h => h), hl1 W ((Ext.alloc' w _).tr he)⟩⟩
  have hu := Try.underlying24
  have hf0 := fun W => field_par A k c d W
  clear hl1 hl2 hd h
  go_enter Try.func17, Try.ntmps17
  go_wp2_with fail
  (refine wp_region_held_drew (S := fun W => W.rangeAt w.heap.size 0 (idC x) ∧ W.cell? ⟨g, 0, none⟩ = some (.map (some m1)) ∧ (Instr.lookup 63 (.map (some m1)) (.agg (idA x)) false).run Try.prog W = .ok (.agg #[.slice A k c, .int .i64 d]) W) (by kernel_rfl) (HS.out _ (by repeat (first | assumption | exact Ext.rfl' _ | apply Ext.drew1 | apply Ext.drewN1 | apply Ext.alloc1 | (refine Ext.set1' ?_ (by simp) _) | refine Ext.tr ?_ (by assumption)))) (fun hHeld => ?_); (refine reg_run (i := 0) (v := ?_) rfl (by kernel_rfl) ?_ ?_ (fun _ _ _ h => h) rfl ?_ (by assumption) ?_; rotate_left; (focus (decide +kernel)); (focus (decide +kernel)); (focus (intro W hW; (try dsimp only at hW); go_simp; (try with_reducible rfl); done)); (try simp only [Act.put, List.setIfInBounds_toArray, List.set_cons_zero, List.set_cons_succ])); (refine reg_run (i := 1) (v := ?_) rfl (by kernel_rfl) ?_ ?_ (fun _ _ _ h => h) rfl ?_ (by assumption) ?_; rotate_left; (focus (decide +kernel)); (focus (decide +kernel)); (focus (intro W hW; (try dsimp only at hW); go_simp; (try with_reducible rfl); done)); (try simp only [Act.put, List.setIfInBounds_toArray, List.set_cons_zero, List.set_cons_succ])); (refine reg_run (i := 2) (v := ?_) rfl (by kernel_rfl) ?_ ?_ (fun _ _ _ h => h) rfl ?_ (by assumption) ?_; rotate_left; (focus (decide +kernel)); (focus (decide +kernel)); (focus (intro W hW; (try dsimp only at hW); go_simp; (try with_reducible rfl); done)); (try simp only [Act.put, List.setIfInBounds_toArray, List.set_cons_zero, List.set_cons_succ])); (refine reg_run (i := 3) (v := ?_) rfl (by kernel_rfl) ?_ ?_ (fun _ _ _ h => h) rfl ?_ (by assumption) ?_; rotate_left; (focus (decide +kernel)); (focus (decide +kernel)); (focus (intro W hW; (try dsimp only at hW); go_simp; (try with_reducible rfl); done)); (try simp only [Act.put, List.setIfInBounds_toArray, List.set_cons_zero, List.set_cons_succ])); (refine reg_load (i := 4) (cs := idC x) rfl rfl (by kernel_rfl) ?_ ?_ rfl hu rfl ?_ (by rw [idC_len]; exact info_sz) rfl (fun _ _ _ h => h) (by assumption) ?_; (focus (decide +kernel)); (focus (decide +kernel)); (focus (intro W hW; (try dsimp only at hW); go_split_ands; assumption)); (try simp only [Act.put, List.setIfInBounds_toArray, List.set_cons_zero, List.set_cons_succ])); (refine reg_run (i := 5) (v := ?_) rfl (by kernel_rfl) ?_ ?_ (fun _ _ _ h => h) rfl ?_ (by assumption) ?_; rotate_left; (focus (decide +kernel)); (focus (decide +kernel)); (focus (intro W hW; (try dsimp only at hW); go_simp; (try with_reducible rfl); done)); (try simp only [Act.put, List.setIfInBounds_toArray, List.set_cons_zero, List.set_cons_succ])); (refine reg_run (i := 6) (v := ?_) rfl (by kernel_rfl) ?_ ?_ (fun _ _ _ h => h) rfl ?_ (by assumption) ?_; rotate_left; (focus (decide +kernel)); (focus (decide +kernel)); (focus (intro W hW; (try dsimp only at hW); go_simp; (try with_reducible rfl); done)); (try simp only [Act.put, List.setIfInBounds_toArray, List.set_cons_zero, List.set_cons_succ])); refine reg_eff (i := 7) rfl ?_ rfl (fun K hK => ?_); (focus (decide +kernel)); (go_simp; go_at_call 32; refine (clone_ids A k c (par D x) _ HL.out hp (HR.out.ext (by repeat (first | assumption | exact Ext.rfl' _ | apply Ext.drew1 | apply Ext.drewN1 | apply Ext.alloc1 | (refine Ext.set1' ?_ (by simp) _) | refine Ext.tr ?_ (by assumption))))).mono ?_; rintro e w1 ⟨v, rfl, ho, he⟩; have HO := Hd.mk ho; have he1 : Ext (w.alloc (.cells (idA x) 24)).drew w1 := he; have he2 : Ext (w.alloc (.cells (idA x) 24)) w1 := (Ext.rfl' (w.alloc (.cells (idA x) 24))).drew1.tr he1; clear ho he he1); refine hK.out _ _ (HS.out _ (by repeat (first | assumption | exact Ext.rfl' _ | apply Ext.drew1 | apply Ext.drewN1 | apply Ext.alloc1 | (refine Ext.set1' ?_ (by simp) _) | refine Ext.tr ?_ (by assumption)))) (fun hHeldN => ?_); clear hK K hHeld; have hHeld := hHeldN; clear hHeldN; (try simp only [Act.put, List.setIfInBounds_toArray, List.set_cons_zero, List.set_cons_succ]); (refine reg_run (i := 8) (v := ?_) rfl (by kernel_rfl) ?_ ?_ (fun _ _ _ h => h) rfl ?_ (by assumption) ?_; rotate_left; (focus (decide +kernel)); (focus (decide +kernel)); (focus (intro W hW; (try dsimp only at hW); go_simp; (try with_reducible rfl); done)); (try simp only [Act.put, List.setIfInBounds_toArray, List.set_cons_zero, List.set_cons_succ])); refine wpAnyH_done ?_ ?_ _; (focus (decide +kernel)); clear hHeld)
  go_wp2
  go_ret
  exact ⟨_, rfl, HO.out.lower (by simp), (Ext.alloc' w _).tr he2⟩

/-- (*Dag).Len -/
theorem len_calls (g m1 m2 : Nat) (D : Nodes) (w : World) (h : DagAt g m1 m2 D w) :
    Calls Try.prog 13 #[.pointer (some ⟨g, 0, none⟩)] w fun e w' => e = .returned (.int .i64 D.length) ∧ Ext w w' := by
  obtain ⟨h1, h2, ⟨l1, a1, a2, a3⟩, h4⟩ := h
  have c0 : w.cell? ⟨g, 0, none⟩ = some (.map (some m1)) := blk_cell h1 0
  have hlen : l1.length = D.length := by have := congrArg List.length a2; simpa using this
  have hl := run_len_map (P := Try.prog) Try.underlying63 a1 3
  rw [hlen] at hl
  clear h1 a1 a2 a3 h4 hlen
  go_enter Try.func13, Try.ntmps13
  go_wp2
  go_ret
  exact ⟨rfl, Ext.rfl' _⟩

/-- dag.New -/
theorem new_calls (w : World) : Calls Try.prog 8 #[] w fun e w' => ∃ g m1 m2, e = .returned (.pointer (some ⟨g, 0, none⟩)) ∧ DagAt g m1 m2 [] w' ∧ Ext w w' ∧ w.heap.size ≤ m1 ∧ w.heap.size ≤ m2 ∧ w.heap.size ≤ g := by
  have hmm := @run_makeMap Try.prog
  go_enter Try.func8, Try.ntmps8
  go_wp2
  go_ret
  refine ⟨w.heap.size + 2, w.heap.size, w.heap.size + 1, by simp, ⟨?_, by omega, ⟨[], ?_, rfl, by simp [look]⟩, [], ?_, by simp [look, isKid]⟩, (by repeat (first | assumption | exact Ext.rfl' _ | apply Ext.drew1 | apply Ext.drewN1 | apply Ext.alloc1 | (refine Ext.set1' ?_ (by simp) _) | refine Ext.tr ?_ (by assumption))), by omega, by omega, by omega⟩
  · have := heap_alloc_new ((w.alloc (.map #[] 0)).alloc (.map #[] 0)) (.cells #[.map (some w.heap.size), .map (some (w.heap.size + 1))] 65)
    simpa using this
  · exact ((MapAt.made w).ext (Ext.alloc' _ _)).ext (Ext.alloc' _ _)
  · have := (MapAt.made (ek := idV) (w.alloc (.map #[] 0))).ext (Ext.alloc' _ (.cells #[.map (some w.heap.size), .map (some (w.heap.size + 1))] 65))
    simpa using this
end Go.Proofs.Ythfinaocdcinlaa
