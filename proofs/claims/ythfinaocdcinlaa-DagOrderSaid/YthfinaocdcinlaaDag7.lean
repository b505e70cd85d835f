/- Package dag: IDs of a map, sorted. -/
import Derived.Test.YthfinaocdcinlaaOrd
import Derived.Test.YthfinaocdcinlaaRange
import Derived.Test.YthfinaocdcinlaaSortK
import Derived.Test.YthfinaocdcinlaaLaySort
import Derived.Shelf.SlSortCmp.NoneTotal
namespace Go.Proofs.Ythfinaocdcinlaa
open Go.RowKit
attribute [local go_sem] eql_sl_nil neq_sl_nil max_two
set_option linter.unusedVariables false
set_option linter.unusedSimpArgs false

instance : Inhabited Id := ⟨zId⟩
/-- IDs, by depth and then by themselves. -/
def sortI (D : Nodes) (l : List Id) : List Id := l.mergeSort fun x y => !(ltOf (cmpD D)) y x
theorem ltD (D : Nodes) (x y : Id) : ltOf (cmpD D) x y = decide (cmpD D x y < 0) := rfl
theorem swoD (D : Nodes) : Sort.SWO (ltOf (cmpD D)) where
  irrefl x := by rw [ltD]; simpa using cmpD_irrefl D x
  trans x y z h1 h2 := by rw [ltD] at *; simp only [decide_eq_true_eq] at *; exact cmpD_trans h1 h2
  ntrans x y z h1 h2 := by
    rw [ltD] at *
    simp only [decide_eq_false_iff_not] at *
    intro h3
    by_cases hyx : cmpD D y x < 0
    · exact h2 (cmpD_trans hyx h3)
    · exact h2 (by rw [← cmpD_tot h1 hyx]; exact h3)
theorem sortI_perm (D : Nodes) (l : List Id) : (sortI D l).Perm l := List.mergeSort_perm _ _
theorem sortI_sorted (D : Nodes) (l : List Id) : (sortI D l).Pairwise fun x y => (!(ltOf (cmpD D)) y x) = true := by
  refine List.pairwise_mergeSort (fun a b c h1 h2 => ?_) (fun a b => ?_) l
  · simp only [ltD, Bool.not_eq_true', decide_eq_false_iff_not] at *
    have := (swoD D).ntrans c b a (by rw [ltD]; simpa using h2) (by rw [ltD]; simpa using h1)
    rw [ltD] at this
    simpa using this
  · simp only [ltD, Bool.or_eq_true, Bool.not_eq_true', decide_eq_false_iff_not]
    by_cases h : cmpD D b a < 0
    · exact .inr (fun h2 => cmpD_irrefl D _ (cmpD_trans h h2))
    · exact .inl h
theorem sort_uniq {D : Nodes} {l l' : List Id} (hp : l.Perm l') (h1 : l.Pairwise fun x y => (!(ltOf (cmpD D)) y x) = true) (h2 : l'.Pairwise fun x y => (!(ltOf (cmpD D)) y x) = true) : l = l' := by
  refine List.Perm.eq_of_pairwise (le := fun x y => (!(ltOf (cmpD D)) y x) = true) ?_ h1 h2 hp
  intro a b _ _ h h'
  simp only [ltD, Bool.not_eq_true', decide_eq_false_iff_not] at h h'
  exact cmpD_tot h' h
theorem sortI_of_perm {D : Nodes} {l l' : List Id} (h : l.Perm l') : sortI D l = sortI D l' :=
  sort_uniq (((sortI_perm D l).trans h).trans (sortI_perm D l').symm) (sortI_sorted D l) (sortI_sorted D l')
theorem sortI_len (D : Nodes) (l : List Id) : (sortI D l).length = l.length := (sortI_perm D l).length_eq

/-- slices.SortFunc at (*Dag).sorted's closure. -/
theorem sortf_calls (g m1 bx : Nat) (D : Nodes) (l : List Id) (A : Option Addr) (n c base : Nat) (w : World) (ho : OwnI base (.slice A n c) l w) (hn : l.length = n) (hb : n ≤ 1000000000)
    (hbox : w.heap[bx]? = some (.cells #[.pointer (some ⟨g, 0, none⟩)] 25 (0, 0))) (hd : DepAt g m1 D w) (hne : ∀ k, (Value.slice A n c).ownBlock = some k → k ≠ g ∧ k ≠ m1 ∧ k ≠ bx) :
    Calls Try.prog 36 #[.slice A n c, .func (.func 39) #[] #[.pointer (some ⟨bx, 0, none⟩)]] w fun e w' => e = .returned (.tuple #[]) ∧ OwnI base (.slice A n c) (sortI D l) w' ∧ Chg (fun k => (Value.slice A n c).ownBlock = some k) w w' := by
  rcases Nat.eq_zero_or_pos n with h0 | h0
  · subst h0
    obtain rfl := List.eq_nil_of_length_eq_zero hn
    have hcon := AnyF.slices_SortFunc_none (P := Try.prog) (ρ := Try.sortIds_ren) { Try.sortIds with } A c (.func (.func 39) #[] #[.pointer (some ⟨bx, 0, none⟩)]) w
    refine hcon.mono ?_
    rintro e w' ⟨rfl, rfl⟩
    exact ⟨rfl, by simpa [sortI] using ho, Chg.refl _ _⟩
  · obtain ⟨blk, rfl⟩ : ∃ blk, A = some ⟨blk, 0, none⟩ := by
      rcases ho.2 with ⟨h, _⟩ | ⟨gg, cap, cur, h, _⟩
      · injection h with _ h _; omega
      · injection h with h _ _; exact ⟨gg, h⟩
    obtain ⟨n1, n2, n3⟩ := hne blk rfl
    have hblk : blk < w.heap.size := (ho.lt blk rfl).2
    have eg : ∀ args w, (callFunc 39 args).run Try.prog w = .ok (.enter 39 args) w := enters_of Try.func39 (by kernel_rfl) rfl
    have hcmp : CmpLays Try.prog 39 #[.pointer (some ⟨bx, 0, none⟩)] idC 32 (cmpD D) blk 0 l.toArray.size w := by
      intro m os dk hdk x y
      have hc := sortK_chg (enc := idC) w 32 blk m dk os
      refine (srt1_calls g m1 bx D x y _ (hc.blk hbox (fun e => n3 e.symm)) (hd.chg hc (fun e => n1 e.symm) (fun e => n2 e.symm))).mono ?_
      rintro e w' ⟨rfl, he, hdr⟩
      exact ⟨rfl, grow_of he hdr⟩
    have hcon := AnyQ.slices_SortFunc_total Try.sortIds 32 Try.isAgg24 Try.sizeOf24 idC idC_len idC_one (cmpD D) (swoD D) 39 #[.pointer (some ⟨bx, 0, none⟩)] blk 0 c l.toArray w eg hcmp (own_holds idFlat ho) hblk (by simp; omega) (fun x y h1 h2 => cmpD_tot (by simpa [ltD] using h1) (by simpa [ltD] using h2))
    rw [show l.toArray.size = n by simpa using hn] at hcon
    refine hcon.mono ?_
    rintro e w' ⟨rfl, m, os, rfl⟩
    refine ⟨rfl, sortK_own idFlat ho (sortI_len D l) m os, (sortK_chg w 32 blk m _ os).mono (fun b _ h => by rw [h]; rfl)⟩
theorem nodup_len {α : Type} [DecidableEq α] : ∀ {ks l : List α}, ks.Nodup → (∀ k ∈ ks, k ∈ l) → ks.length ≤ l.length
  | [], _, _, _ => Nat.zero_le _
  | k :: r, l, h1, h2 => by
    rw [List.nodup_cons] at h1
    have ih := nodup_len (l := l.erase k) h1.2 (fun a ha => (List.mem_erase_of_ne (fun e => h1.1 (by rw [← e]; exact ha))).2 (h2 a (List.mem_cons_of_mem _ ha)))
    have hk := h2 k List.mem_cons_self
    rw [List.length_erase_of_mem hk] at ih
    have := List.length_pos_of_mem hk
    simp only [List.length_cons]; omega
theorem row1 (w : World) (x : Id) (t : TypeId) : RowAt Ty.id (some ⟨w.heap.size, 0, none⟩) [x] (w.alloc (.cells (idA x) t)) := by
  intro j y hj
  rcases j with _ | j
  · obtain rfl : x = y := by simpa using hj
    refine ⟨_, idC x, rfl, rfl, fun i u hu => ?_⟩
    rw [Addr.add_lit]
    have := range_blk (heap_alloc_new w (.cells (idA x) t)) i u hu
    simpa using this
  · simp at hj

set_option maxHeartbeats 8000000 in
set_option maxRecDepth 100000 in
/-- (*Dag).sorted -/
theorem sorted_calls (g m1 m2 mb : Nat) (D : Nodes) (l : List (Id × Value)) (w : World) (h : DagAt g m1 m2 D w) (hm : MapAt idV mb l w) (hb : l.length ≤ 1000000000) :
    Calls Try.prog 33 #[.pointer (some ⟨g, 0, none⟩), .map (some mb)] w fun e w' => ∃ v, e = .returned v ∧ OwnI w.heap.size v (sortI D (l.map Prod.fst)) w' ∧ Ext w w' := by
  obtain ⟨o, hrg, hra⟩ := run_range (P := Try.prog) 60 _ _ Try.underlying60 (hm.ext (Ext.alloc' w (.cells #[.pointer (some ⟨g, 0, none⟩)] 25)))
  have hgl : g < w.heap.size ∧ m1 < w.heap.size ∧ mb < w.heap.size := ⟨blk_lt h.1, h.2.2.1.choose_spec.1.lt, hm.lt⟩
  obtain ⟨hgl1, hgl2, hgl3⟩ := hgl
  have HD := Hd.mk h.depAt
  have HRA := Hd.mk hra
  have HBX : Hd ((w.alloc (.cells #[.pointer (some ⟨g, 0, none⟩)] 25)).heap[w.heap.size]? = some (.cells #[.pointer (some ⟨g, 0, none⟩)] 25 (0, 0))) := ⟨heap_alloc_new _ _⟩
  have hu := Try.underlying24
  clear h hm hra
  go_enter Try.func33, Try.ntmps33
  go_wp2
  go_loopw [5] (fun iv wr => ∃ (ks : List Id) (A : Option Addr) (k c : Nat), iv = .slice A k c ∧ Hd (ks.length = k) ∧ Hd (OwnI (w.heap.size + 2) iv ks wr) ∧ Hd (RangeAt idV (w.heap.size + 1) mb l ks wr) ∧ Hd (Ext (w.alloc (.cells #[.pointer (some ⟨g, 0, none⟩)] 25)) wr) ∧ w.heap.size + 2 ≤ wr.heap.size) (fun iv _ => l.length - slen iv)
  case atStart => exact ⟨[], none, 0, 0, rfl, ⟨rfl⟩, ⟨OwnK.nil _ _ _ _ _⟩, ⟨by simpa using HRA.out⟩, ⟨Ext.alloc' _ _⟩, by simp⟩
  case round =>
    obtain ⟨ks, A, k, c, rfl, HL, HO, HR, HE, hsz⟩ := hrel
    have hkl : k ≤ l.length := by
      have h2 := nodup_len HR.out.nodup HR.out.sub
      rw [HL.out, List.length_map] at h2
      exact h2
    rcases run_next (P := Try.prog) HR.out with ⟨hall, hrun⟩ | ⟨x, v, w1, hxl, hnk, hrun, hra', hchg, hent⟩
    · have hp : ks.Perm (l.map Prod.fst) := by
        obtain ⟨es, clock, since, seen, c0, h1, h2, h3, _⟩ := HR.out
        exact (List.perm_ext_iff_of_nodup HR.out.nodup h3).2 (fun a => ⟨HR.out.sub a, hall a⟩)
      have HP := Hd.mk hp
      clear hall hp
      have hk9 : k ≤ 1000000000 := by omega
      have hbox := HE.out.blk HBX.out (fun h => h)
      have hda := HD.out.chg ((Ext.alloc' w (.cells #[.pointer (some ⟨g, 0, none⟩)] 25)).tr HE.out) (fun h => h) (fun h => h)
      have hne : ∀ b, (Value.slice A k c).ownBlock = some b → b ≠ g ∧ b ≠ m1 ∧ b ≠ w.heap.size := fun b hb => by have := (HO.out.lt b hb).1; omega
      have HBOX := Hd.mk hbox
      have HDA := Hd.mk hda
      have HNE := Hd.mk hne
      clear hbox hda hne
      go_wp2_with (go_at_call 36; refine (sortf_calls g m1 w.heap.size D ks A k c (w.heap.size + 2) _ HO.out HL.out hk9 HBOX.out HDA.out HNE.out).mono ?_; rintro e w2 ⟨rfl, ho2, hc2⟩; have HO2 := Hd.mk ho2; have HC2 := Hd.mk hc2; clear ho2 hc2)
      go_ret
      refine ⟨_, rfl, ?_, ?_⟩
      · rw [← sortI_of_perm HP.out]
        exact HO2.out.lower (by omega)
      · exact ((Ext.alloc' w _).tr HE.out).chg HC2.out (fun b hb => by have := (HO.out.lt b hb).1; omega)
    · have hrun' : ∀ ty, (Instr.next (.pointer (some ⟨w.heap.size + 1, 0, none⟩)) false ty).run Try.prog wr = .ok (.tuple #[.bool true, .agg (idA x), v]) w1 := hrun
      have hent' : (Instr.entry (.pointer (some ⟨w.heap.size + 1, 0, none⟩))).run Try.prog w1 = .ok (.tuple #[.agg (idA x), v]) w1 := hent
      have HR1 := Hd.mk hra'
      have HC1 := Hd.mk hchg
      have HO1 : Hd (OwnI (w.heap.size + 2) (.slice A k c) ks w1) := ⟨HO.out.chg hchg (fun b hb e => by have := (HO.out.lt b hb).1; omega)⟩
      have HXB : Hd ((w1.alloc (.cells (idA x) 24)).heap[w1.heap.size]? = some (.cells (idA x) 24 (0, 0))) := ⟨heap_alloc_new _ _⟩
      have HRW := Hd.mk (row1 (w1.alloc (.cells (idA x) 24)) x 24)
      have hsz1 : w.heap.size + 2 ≤ w1.heap.size := Nat.le_trans hsz hchg.size
      have hlt : k < l.length := by
        have h2 := nodup_len (ks := ks ++ [x]) hra'.nodup hra'.sub
        rw [List.length_append, HL.out, List.length_map] at h2
        simp only [List.length_singleton] at h2; omega
      clear hrun hent hra' hchg
      go_wp2_with (first
        | (refine wpList_var_id rfl rfl rfl (.tmp 6) (.tmp 12) rfl x rfl rfl ?_)
        | (refine wpList_load_row (P := Try.prog) rfl 24 (.tmp 6) rfl w1.heap.size rfl 24 (idA x) (0, 0) _ HXB.out hu rfl (by rw [idA_size]; exact info_sz) ?_)
        | (refine wpList_slice1 rfl (.tmp 14) rfl x rfl ?_)
        | (at_builtin; refine wpList_append_K idFlat rfl (.tmp 13) (.tmp 15) 29 24 rfl _ 32 Try.underlying29 info_id zId_size ((HO1.out.alloc _).alloc _) rfl rfl rfl HRW.out (by have := HL.out; simp; omega) (by have := HL.out; simp; omega) (by simp; omega) ?_; intro v5 w5 ho hg hat; obtain ⟨B5, k5, c5, rfl, H5L, h51, h52⟩ := ho.named; have HO5 := Hd.mk ho; have HG5 := Hd.mk hg; clear ho hg hat))
      have h5 : k5 = k + 1 := by have h1 := H5L.out; have h2 := HL.out; simp at h1; omega
      have hrow : ∀ b, (Value.slice A k c).ownBlock = some b → w.heap.size + 2 ≤ b := fun b hb => (HO.out.lt b hb).1
      have hchg5 : Chg (fun b => (Value.slice A k c).ownBlock = some b) w1 w5 := (((Chg.refl _ w1).alloc _).alloc _).grown HG5.out (fun b hb e => e)
      have hr5 : RangeAt idV (w.heap.size + 1) mb l (ks ++ [x]) w5 := HR1.out.chg hchg5 (fun e => by have := hrow _ e; omega) (fun e => by have := hrow _ e; omega)
      have he5 : Ext (w.alloc (.cells #[.pointer (some ⟨g, 0, none⟩)] 25)) w5 := (HE.out.chg HC1.out (fun b hb => by simp; omega)).chg hchg5 (fun b hb => by have := hrow b hb; simp; omega)
      go_roundw
      case rel => exact ⟨ks ++ [x], B5, k5, c5, rfl, H5L, ⟨HO5.out⟩, ⟨hr5⟩, ⟨he5⟩, Nat.le_trans hsz1 hchg5.size⟩
      case measure => simp only [slen]; omega
end Go.Proofs.Ythfinaocdcinlaa
