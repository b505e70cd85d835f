/- The reference's Apply: it answers what the program's Apply does. -/
import Derived.Test.YtacpdkhbgommfaaDelta
import Derived.Test.YtacpdkhbgommfaaRef01
import Derived.Test.YtacpdkhbgommfaaRef02
namespace Go.Proofs.Ytacpdkhbgommfaa
open Go.RowKit
attribute [local go_sem] eql_sl_nil neq_sl_nil
set_option linter.unusedVariables false
set_option linter.unusedSimpArgs false

theorem getnum_none (A : Option Addr) (n c : Nat) (l : List UInt8) (most : Int) (w : World) (hn : l.length = n) (hc : n ≤ c) (hc' : c ≤ 9223372036854775807) (h : RowAt Ty.u8 A l w) (hm0 : -9223372036854775808 ≤ most) (hm : most ≤ 9223372036854775807) (he : num most l = none) :
    Calls Try.prog 21 #[.agg #[.slice A n c, .bool false], .int .i64 most] w fun e w' => e = .returned (.tuple #[.int .i64 0, inBad]) ∧ Ext w w' :=
  (getnum_good A n c l most w hn hc hc' h hm0 hm).mono fun e w' h => ⟨by have := h.2; rw [he] at this; exact this, h.1⟩
theorem getnum_some (A : Option Addr) (n c : Nat) (l : List UInt8) (most : Int) (w : World) (hn : l.length = n) (hc : n ≤ c) (hc' : c ≤ 9223372036854775807) (h : RowAt Ty.u8 A l w) (hm0 : -9223372036854775808 ≤ most) (hm : most ≤ 9223372036854775807) (k : Nat) (r : List UInt8) (he : num most l = some (k, r)) :
    Calls Try.prog 21 #[.agg #[.slice A n c, .bool false], .int .i64 most] w fun e w' => ∃ A' c', e = .returned (.tuple #[.int .i64 k, .agg #[.slice A' r.length c', .bool false]]) ∧ r.length ≤ c' ∧ c' ≤ 9223372036854775807 ∧ (∀ w0, RowAt Ty.u8 A l w0 → RowAt Ty.u8 A' r w0) ∧ Ext w w' :=
  (getnum_good A n c l most w hn hc hc' h hm0 hm).mono fun e w' h => by
    have h2 := h.2
    rw [he] at h2
    obtain ⟨A', c', e1, e2, e3, e4⟩ := h2
    exact ⟨A', c', e1, e2, e3, e4, h.1⟩

set_option maxHeartbeats 8000000 in
set_option maxRecDepth 100000 in
/-- pollardref07.Apply -/
theorem refapply_calls (A B : Option Addr) (n m c cb : Nat) (base d : List UInt8) (w : World) (hn : d.length = n) (hc : n ≤ c) (hc' : c ≤ 9223372036854775807) (hb : n ≤ 140737488355328) (h : RowAt Ty.u8 A d w)
    (hm : base.length = m) (hcb : m ≤ cb) (hcb' : cb ≤ 9223372036854775807) (hB : RowAt Ty.u8 B base w) :
    Calls Try.prog 11 #[.slice B m cb, .slice A n c] w fun e w' => Ext w w' ∧ ApplyPost w (applyF base d) e w' := by
  have HA := Hd.mk h
  have HN := Hd.mk hn
  have HB := Hd.mk hB
  have HM := Hd.mk hm
  clear h hn hB hm
  cases hnum : num 1048576 d with
  | none =>
    have HE : Hd (applyF base d = .error 20) := ⟨by simp only [applyF, hnum]⟩
    have HU := Hd.mk hnum
    clear hnum
    go_enter Try.func11, Try.ntmps11
    go_wp2_with (go_at_call 21; refine (getnum_none _ _ _ d _ _ HN.out hc hc' HA.out (by omega) (by omega) HU.out).mono ?_; rintro e w1 ⟨rfl, he⟩; have HE1 := Hd.mk he; clear he)
    go_ret2
    exact ⟨HE1.out.alloc _, by rw [HE.out]; rfl⟩
  | some p =>
    obtain ⟨told, r0⟩ := p
    have htl := (num_le hnum).2
    have htm := (num_le hnum).1
    have hrl : r0.length < n := by
      obtain ⟨b, q, hq⟩ := num_drop hnum
      rw [← HN.out, hq]; simp; omega
    have HU := Hd.mk hnum
    clear hnum
    go_enter Try.func11, Try.ntmps11
    go_wp2_with (go_at_call 21; refine (getnum_some _ _ _ d _ _ HN.out hc hc' HA.out (by omega) (by omega) told r0 HU.out).mono ?_; rintro e w1 ⟨A1, c1, rfl, h1, h2, hr, he⟩; have HE1 := Hd.mk he; have HR1 := Hd.mk hr; clear he hr)
    obtain ⟨g7, HG7⟩ : ∃ g7, Hd (g7 = w1.heap.size) := ⟨_, ⟨rfl⟩⟩
    rw [← HG7.out]
    go_loopg [8] (r0.length + 1) (fun f v wr => ∃ (Ao Ar : Option Addr) (no co nr cr : Nat) (l out : List UInt8), v = .slice Ao no co ∧ no ≤ 1048576 ∧ nr ≤ cr ∧ cr ≤ 9223372036854775807 ∧ nr ≤ 140737488355328 ∧ Hd (out.length = no) ∧ Hd (l.length = nr) ∧ Hd (wr.heap[g7]? = some (.cells #[.slice Ar nr cr, .bool false] 44 (0, 0))) ∧
      Hd (OwnB w.heap.size (.slice Ao no co) out wr) ∧ Hd (RowAt Ty.u8 Ar l w) ∧ Hd (Ext w wr) ∧ Hd (l.length < f) ∧ Hd (applyGo base f l out = applyGo base (r0.length + 1) r0 []))
    case atStart =>
      refine ⟨_, A1, 0, 0, r0.length, c1, r0, [], rfl, by omega, h1, h2, by omega, ⟨rfl⟩, ⟨rfl⟩, ⟨?_⟩, ⟨?_⟩, ⟨HR1.out _ HA.out⟩, ⟨(HE1.out.alloc _).alloc _⟩, ⟨by omega⟩, ⟨rfl⟩⟩
      · rw [HG7.out]; exact blk_alloc (heap_alloc_new _ _) _
      · have := OwnS.lit (enc := bv) (w1.alloc (.cells #[.slice A1 r0.length c1, .bool false] 44)) w.heap.size 5 [] (by have := HE1.out.size; simp; omega) (by simp)
        simpa [HG7.out] using this
    case round =>
      obtain ⟨Ao, Ar, no, co, nr, cr, l, out, rfl, h3, h4, h5, h6, HO1, HL, HB7, HO, HR, HX, HF, HG⟩ := hrel
      have hg7 : w.heap.size ≤ g7 := by have := HE1.out.size; have := HG7.out; omega
      cases gk with
      | zero => exact absurd HF.out (by omega)
      | succ f =>
        have c70 := (blk_cell HB7.out 0).trans rfl
        have c71 := (blk_cell HB7.out 1).trans rfl
        have f70 := blk_free HB7.out 0
        have f71 := blk_free HB7.out 1
        have hlt7 : g7 < wr.heap.size := blk_lt HB7.out
        by_cases hl : nr = 0
        · subst hl
          have hnil : l = [] := List.eq_nil_of_length_eq_zero HL.out
          subst hnil
          have hg : applyGo base (r0.length + 1) r0 [] = .ok out := HG.out.symm
          have HGE := Hd.mk hg
          clear hg
          by_cases heq : no = told
          · have hne : ((no : Int) != (told : Int)) = false := by simp; omega
            go_wp2_with fail
            go_ret2
            exact ⟨HX.out, by rw [applyF_eq HU.out HGE.out (HO1.out.trans heq)]; exact ⟨_, rfl, HO.out⟩⟩
          · have hne : ((no : Int) != (told : Int)) = true := by simp; omega
            go_wp2_with fail
            go_ret2
            exact ⟨HX.out, by rw [applyF_ne HU.out HGE.out (by rw [HO1.out]; exact heq)]; rfl⟩
        · have hlp : 0 < nr := by omega
          have HNE : Hd (l ≠ []) := ⟨fun e => by have := HL.out; rw [e] at this; simp at this; omega⟩
          clear hl
          cases hnum : num 4611686018427387904 l with
          | none =>
            have HN2 := Hd.mk hnum
            clear hnum
            go_wp2_with (go_at_call 21; refine (getnum_none _ _ _ l _ _ HL.out h4 h5 (HR.out.ext HX.out) (by omega) (by omega) HN2.out).mono ?_; rintro e w3 ⟨rfl, he⟩; have HE3 := Hd.mk he; clear he)
            go_ret2
            exact ⟨(HX.out.trans HE3.out (fun _ _ h => h)).alloc _, by rw [applyF_err HU.out (HG.out.symm.trans (applyGo_form HNE.out HN2.out))]; rfl⟩
          | some q =>
            obtain ⟨n2, r⟩ := q
            have hn2 := (num_le hnum).2
            have hrl : r.length < nr := by
              obtain ⟨b, p, hp⟩ := num_drop hnum
              rw [← HL.out, hp]; simp; omega
            have HN2 := Hd.mk hnum
            clear hnum
            obtain ⟨k, hk⟩ : ∃ k, n2 / 2 = k := ⟨_, rfl⟩
            have hki : (n2 : Int) / 2 = (k : Int) := by omega
            have hk61 : k ≤ 2305843009213693952 := by omega
            have HK := Hd.mk hk
            clear hk
            have HXW : ∀ {w3 : World}, Ext wr w3 → Ext w w3 := fun h => HX.out.trans h (fun _ _ h => h)
            by_cases hc : k < 1 ∨ 1048576 < k + no
            · go_wp2_with (go_at_call 21; refine (getnum_some _ _ _ l _ _ HL.out h4 h5 (HR.out.ext HX.out) (by omega) (by omega) n2 r HN2.out).mono ?_; rintro e w3 ⟨A3, c3, rfl, h31, h32, hr, he⟩; have b7 := he.blk HB7.out (fun h => h); have c70a := (blk_cell b7 0).trans rfl; have c71a := (blk_cell b7 1).trans rfl; have f70a := blk_free b7 0; have f71a := blk_free b7 1; have hlt7a := blk_lt b7; have HB7a := Hd.mk b7; clear b7; have HE3 := Hd.mk he; have HR3 := Hd.mk hr; clear he hr)
              all_goals
                go_ret2
                exact ⟨(HX.out.trans HE3.out (fun _ _ h => h)).alloc _, by rw [applyF_err HU.out (HG.out.symm.trans (applyGo_size HNE.out HN2.out (by rw [HK.out, HO1.out]; exact hc)))]; rfl⟩
            · have hc1 : 1 ≤ k := by omega
              have hc2 : k + no ≤ 1048576 := by omega
              have HCC : Hd (¬ (n2 / 2 < 1 ∨ 1048576 < n2 / 2 + out.length)) := ⟨by rw [HK.out, HO1.out]; exact hc⟩
              clear hc
              by_cases h2z : n2 % 2 = 0
              · have h2i : (n2 : Int) % 2 = 0 := by omega
                have hown := applyGo_own (base := base) (f := f) HNE.out HN2.out HCC.out h2z
                rw [HK.out] at hown
                clear h2z
                by_cases hlt : r.length < k
                · have HW := Hd.mk (hown.trans (if_pos hlt))
                  clear hown
                  go_wp2_with (go_at_call 21; refine (getnum_some _ _ _ l _ _ HL.out h4 h5 (HR.out.ext HX.out) (by omega) (by omega) n2 r HN2.out).mono ?_; rintro e w3 ⟨A3, c3, rfl, h31, h32, hr, he⟩; have b7 := he.blk HB7.out (fun h => h); have c70a := (blk_cell b7 0).trans rfl; have c71a := (blk_cell b7 1).trans rfl; have f70a := blk_free b7 0; have f71a := blk_free b7 1; have hlt7a := blk_lt b7; have HB7a := Hd.mk b7; clear b7; have HE3 := Hd.mk he; have HR3 := Hd.mk hr; clear he hr)
                  go_ret2
                  exact ⟨((HXW HE3.out).chg ((((Chg.refl (· = g7) w3).set1 0 _ rfl).set1 1 _ rfl).alloc _) (fun b e => by subst e; exact hg7)), by rw [applyF_err HU.out (HG.out.symm.trans HW.out)]; rfl⟩
                · have HW := Hd.mk (hown.trans (if_neg hlt))
                  clear hown
                  have hlr : k ≤ r.length := by omega
                  clear hlt
                  go_wp2_with (first
                    | (go_at_call 21; refine (getnum_some _ _ _ l _ _ HL.out h4 h5 (HR.out.ext HX.out) (by omega) (by omega) n2 r HN2.out).mono ?_; rintro e w3 ⟨A3, c3, rfl, h31, h32, hr, he⟩; have b7 := he.blk HB7.out (fun h => h); have c70a := (blk_cell b7 0).trans rfl; have c71a := (blk_cell b7 1).trans rfl; have f70a := blk_free b7 0; have f71a := blk_free b7 1; have hlt7a := blk_lt b7; have HB7a := Hd.mk b7; clear b7; have HE3 := Hd.mk he; have HR3 := Hd.mk hr; clear he hr)
                    | (go_at_call 22; refine (join_calls _ _ _ _ _ _ out (r.take k) _ HO1.out (by rw [List.length_take]; omega) (by omega) (((HO.out.ext HE3.out).chg ((((Chg.refl (· = g7) w3).set1 0 _ rfl).set1 1 _ rfl).alloc _) ((HO.out.ext HE3.out).ne HB7a.out (by decide))).rowAt bv_one) (((HR3.out _ HR.out).take k).ext ((HXW HE3.out).chg ((((Chg.refl (· = g7) w3).set1 0 _ rfl).set1 1 _ rfl).alloc _) (fun b e => by subst e; exact hg7)))).mono ?_; rintro e w5 ⟨v5, rfl, ho, he⟩; have b7 : w5.heap[g7]? = some (.cells #[.slice A3 r.length c3, .bool false] 44 (0, 0)) := he.blk (blk_alloc (blk_set (blk_set HB7a.out 0 _) 1 _) _) (fun h => h); have d70 := (blk_cell b7 0).trans rfl; have d71 := (blk_cell b7 1).trans rfl; have e70 := blk_free b7 0; have e71 := blk_free b7 1; have hl7b := blk_lt b7; have HB7b := Hd.mk b7; clear b7; obtain ⟨A5, c5, rfl, h51, h52⟩ := ho.form' (n := no + k) (by rw [List.length_append, List.length_take, HO1.out]; omega); have HO5 := Hd.mk ho; have HE5 := Hd.mk he; clear ho he))
                  all_goals
                    go_roundg f
                    case measure => omega
                    case rel =>
                      have hrow := (HR3.out _ HR.out).drop k c3 h31
                      refine ⟨_, _, _, _, _, _, r.drop k, out ++ r.take k, rfl, by omega, ?_, ?_, ?_, ⟨by rw [List.length_append, List.length_take, HO1.out]; omega⟩, ⟨by rw [List.length_drop]⟩, ⟨blk_set HB7b.out 0 _⟩, ⟨(HO5.out.lower (by have := HX.out.size; have := HE3.out.size; simp; omega)).chg (Chg.setCell' w5 ⟨g7, 0, none⟩ _) (HO5.out.ne HB7b.out (by decide))⟩, ⟨?_⟩, ⟨(((HXW HE3.out).chg ((((Chg.refl (· = g7) w3).set1 0 _ rfl).set1 1 _ rfl).alloc _) (fun b e => by subst e; exact hg7)).trans HE5.out (fun _ _ h => h)).chg (Chg.setCell' w5 ⟨g7, 0, none⟩ _) (fun b e => by subst e; exact hg7)⟩, ⟨by have := HF.out; have := HL.out; rw [List.length_drop]; omega⟩, ⟨HW.out.symm.trans HG.out⟩⟩
                      · omega
                      · omega
                      · omega
                      · first
                          | (rw [if_pos (by assumption)] at hrow; simpa [Ty.u8, Ty.sc] using hrow)
                          | (rw [if_neg (by assumption)] at hrow; simpa [Ty.u8, Ty.sc] using hrow)
              · have h2i : (n2 : Int) % 2 = 1 := by omega
                cases hnum2 : num 4611686018427387904 r with
                | none =>
                  have HW := Hd.mk (applyGo_form2 (base := base) (f := f) HNE.out HN2.out HCC.out h2z hnum2)
                  have HN3 := Hd.mk hnum2
                  clear hnum2 h2z
                  go_wp2_with (first
                    | (go_at_call 21; refine (getnum_none _ _ _ r _ _ rfl h31 h32 ((HR3.out _ HR.out).ext ((HXW HE3.out).chg ((((Chg.refl (· = g7) w3).set1 0 _ rfl).set1 1 _ rfl).alloc _) (fun b e => by subst e; exact hg7))) (by omega) (by omega) HN3.out).mono ?_; rintro e w5 ⟨rfl, he⟩; have hx := ((HXW HE3.out).chg ((((Chg.refl (· = g7) w3).set1 0 _ rfl).set1 1 _ rfl).alloc _) (fun b e => by subst e; exact hg7)).trans he (fun _ _ h => h); have HX5 := Hd.mk hx; have HE5 := Hd.mk he; clear hx he)
                    | (go_at_call 21; refine (getnum_some _ _ _ l _ _ HL.out h4 h5 (HR.out.ext HX.out) (by omega) (by omega) n2 r HN2.out).mono ?_; rintro e w3 ⟨A3, c3, rfl, h31, h32, hr, he⟩; have b7 := he.blk HB7.out (fun h => h); have c70a := (blk_cell b7 0).trans rfl; have c71a := (blk_cell b7 1).trans rfl; have f70a := blk_free b7 0; have f71a := blk_free b7 1; have hlt7a := blk_lt b7; have HB7a := Hd.mk b7; clear b7; have HE3 := Hd.mk he; have HR3 := Hd.mk hr; clear he hr))
                  go_ret2
                  exact ⟨HX5.out.alloc _, by rw [applyF_err HU.out (HG.out.symm.trans HW.out)]; rfl⟩
                | some q2 =>
                  obtain ⟨o, s⟩ := q2
                  have ho2 := (num_le hnum2).2
                  have hcp := applyGo_copy (base := base) (f := f) HNE.out HN2.out HCC.out h2z hnum2
                  rw [HK.out, HM.out] at hcp
                  have hsl : s.length < r.length := by
                    obtain ⟨b, p, hp⟩ := num_drop hnum2
                    rw [hp]; simp; omega
                  have HN3 := Hd.mk hnum2
                  clear hnum2 h2z
                  by_cases hlt : m < o + k
                  · have HW := Hd.mk (hcp.trans (if_pos hlt))
                    clear hcp
                    go_wp2_with (first
                      | (go_at_call 21; refine (getnum_some _ _ _ r _ _ rfl h31 h32 ((HR3.out _ HR.out).ext ((HXW HE3.out).chg ((((Chg.refl (· = g7) w3).set1 0 _ rfl).set1 1 _ rfl).alloc _) (fun b e => by subst e; exact hg7))) (by omega) (by omega) o s HN3.out).mono ?_; rintro e w5 ⟨A5, c5, rfl, h51, h52, hr, he⟩; have b7 : w5.heap[g7]? = some (.cells #[.slice A3 r.length c3, .bool false] 44 (0, 0)) := he.blk (blk_alloc (blk_set (blk_set HB7a.out 0 _) 1 _) _) (fun h => h); have d70b := (blk_cell b7 0).trans rfl; have d71b := (blk_cell b7 1).trans rfl; have e70b := blk_free b7 0; have e71b := blk_free b7 1; have hl7b := blk_lt b7; have HB7b := Hd.mk b7; clear b7; have hx := ((HXW HE3.out).chg ((((Chg.refl (· = g7) w3).set1 0 _ rfl).set1 1 _ rfl).alloc _) (fun b e => by subst e; exact hg7)).trans he (fun _ _ h => h); have ho := (((HO.out.ext HE3.out).chg ((((Chg.refl (· = g7) w3).set1 0 _ rfl).set1 1 _ rfl).alloc _) ((HO.out.ext HE3.out).ne HB7a.out (by decide))).ext he); have HR5 := Hd.mk hr; have HX5 := Hd.mk hx; have HO5 := Hd.mk ho; have HE5 := Hd.mk he; clear hr hx ho he)
                      | (go_at_call 21; refine (getnum_some _ _ _ l _ _ HL.out h4 h5 (HR.out.ext HX.out) (by omega) (by omega) n2 r HN2.out).mono ?_; rintro e w3 ⟨A3, c3, rfl, h31, h32, hr, he⟩; have b7 := he.blk HB7.out (fun h => h); have c70a := (blk_cell b7 0).trans rfl; have c71a := (blk_cell b7 1).trans rfl; have f70a := blk_free b7 0; have f71a := blk_free b7 1; have hlt7a := blk_lt b7; have HB7a := Hd.mk b7; clear b7; have HE3 := Hd.mk he; have HR3 := Hd.mk hr; clear he hr))
                    go_ret2
                    exact ⟨(HX5.out.chg ((((Chg.refl (· = g7) w5).set1 0 _ rfl).set1 1 _ rfl).alloc _) (fun b e => by subst e; exact hg7)), by rw [applyF_err HU.out (HG.out.symm.trans HW.out)]; rfl⟩
                  · have HW := Hd.mk (hcp.trans (if_neg hlt))
                    clear hcp
                    have hok : o + k ≤ m := by omega
                    clear hlt
                    have hne : ¬ cb = o := by omega
                    obtain ⟨bg, bo, rfl, _⟩ := HB.out.open_ (by rw [HM.out]; omega)
                    have hrow := (RowAt.from_ HB.out o).take k
                    rw [Addr.add_lit] at hrow
                    have HROW := Hd.mk hrow
                    clear hrow
                    have HLEN : Hd (((base.drop o).take k).length = k) := ⟨by rw [List.length_take, List.length_drop, HM.out]; omega⟩
                    go_wp2_with (first
                      | (go_at_call 21; refine (getnum_some _ _ _ r _ _ rfl h31 h32 ((HR3.out _ HR.out).ext ((HXW HE3.out).chg ((((Chg.refl (· = g7) w3).set1 0 _ rfl).set1 1 _ rfl).alloc _) (fun b e => by subst e; exact hg7))) (by omega) (by omega) o s HN3.out).mono ?_; rintro e w5 ⟨A5, c5, rfl, h51, h52, hr, he⟩; have b7 : w5.heap[g7]? = some (.cells #[.slice A3 r.length c3, .bool false] 44 (0, 0)) := he.blk (blk_alloc (blk_set (blk_set HB7a.out 0 _) 1 _) _) (fun h => h); have d70b := (blk_cell b7 0).trans rfl; have d71b := (blk_cell b7 1).trans rfl; have e70b := blk_free b7 0; have e71b := blk_free b7 1; have hl7b := blk_lt b7; have HB7b := Hd.mk b7; clear b7; have hx := ((HXW HE3.out).chg ((((Chg.refl (· = g7) w3).set1 0 _ rfl).set1 1 _ rfl).alloc _) (fun b e => by subst e; exact hg7)).trans he (fun _ _ h => h); have ho := (((HO.out.ext HE3.out).chg ((((Chg.refl (· = g7) w3).set1 0 _ rfl).set1 1 _ rfl).alloc _) ((HO.out.ext HE3.out).ne HB7a.out (by decide))).ext he); have HR5 := Hd.mk hr; have HX5 := Hd.mk hx; have HO5 := Hd.mk ho; have HE5 := Hd.mk he; clear hr hx ho he)
                      | (go_at_call 21; refine (getnum_some _ _ _ l _ _ HL.out h4 h5 (HR.out.ext HX.out) (by omega) (by omega) n2 r HN2.out).mono ?_; rintro e w3 ⟨A3, c3, rfl, h31, h32, hr, he⟩; have b7 := he.blk HB7.out (fun h => h); have c70a := (blk_cell b7 0).trans rfl; have c71a := (blk_cell b7 1).trans rfl; have f70a := blk_free b7 0; have f71a := blk_free b7 1; have hlt7a := blk_lt b7; have HB7a := Hd.mk b7; clear b7; have HE3 := Hd.mk he; have HR3 := Hd.mk hr; clear he hr)
                      | (go_at_call 22; refine (join_calls _ _ _ _ _ _ out ((base.drop o).take k) _ HO1.out HLEN.out (by omega) ((HO5.out.chg ((((Chg.refl (· = g7) w5).set1 0 _ rfl).set1 1 _ rfl).alloc _) (HO5.out.ne HB7b.out (by decide))).rowAt bv_one) (HROW.out.ext (HX5.out.chg ((((Chg.refl (· = g7) w5).set1 0 _ rfl).set1 1 _ rfl).alloc _) (fun b e => by subst e; exact hg7)))).mono ?_; rintro e w7 ⟨v7, rfl, ho, he⟩; have b7 : w7.heap[g7]? = some (.cells #[.slice A5 s.length c5, .bool false] 44 (0, 0)) := he.blk (blk_alloc (blk_set (blk_set HB7b.out 0 _) 1 _) _) (fun h => h); have d70c := (blk_cell b7 0).trans rfl; have d71c := (blk_cell b7 1).trans rfl; have e70c := blk_free b7 0; have e71c := blk_free b7 1; have hl7c := blk_lt b7; have HB7c := Hd.mk b7; clear b7; obtain ⟨A7, c7, rfl, h71, h72⟩ := ho.form' (n := no + k) (by rw [List.length_append, HO1.out, HLEN.out]); have HO7 := Hd.mk ho; have HE7 := Hd.mk he; clear ho he))
                    go_roundg f
                    case measure => omega
                    case rel =>
                      exact ⟨_, _, _, _, s.length, _, s, out ++ (base.drop o).take k, rfl, by omega, h51, h52, by omega, ⟨by rw [List.length_append, HO1.out, HLEN.out]⟩, ⟨rfl⟩, HB7c, ⟨HO7.out.lower (by have := HX5.out.size; simp; omega)⟩, ⟨HR5.out _ (HR3.out _ HR.out)⟩, ⟨(HX5.out.chg ((((Chg.refl (· = g7) w5).set1 0 _ rfl).set1 1 _ rfl).alloc _) (fun b e => by subst e; exact hg7)).trans HE7.out (fun _ _ h => h)⟩, ⟨by have := HF.out; have := HL.out; omega⟩, ⟨HW.out.symm.trans HG.out⟩⟩

end Go.Proofs.Ytacpdkhbgommfaa
