/- The references' reader of numbers, and their small helpers. -/
import Derived.Test.YtacpdkhbgommfaaEnc
import Derived.RegionTactic
namespace Go.Proofs.Ytacpdkhbgommfaa
open Go.RowKit
attribute [local go_sem] eql_sl_nil neq_sl_nil
set_option linter.unusedVariables false
set_option linter.unusedSimpArgs false

/-- A failed reader, as a value. -/
abbrev inBad : Value := .agg #[.slice none 0 0, .bool true]

/-- pollardref02.failed -/
theorem failed_calls (w : World) :
    Calls Try.prog 30 #[] w fun e w' => e = .returned inBad ∧ w' = w.alloc (.cells #[.slice none 0 0, .bool true] 44) := by
  go_enter Try.func30, Try.ntmps30
  go_wp2
  exact bodyPost_ret (v := inBad) (by simp [results, Try.results30, go_sem]) rfl ⟨rfl, by simp [go_sem]⟩

/-- Two new blocks. -/
theorem two_new (w : World) (c1 c2 : Array Value) (t1 t2 : TypeId) : ∃ W, W = (w.alloc (.cells c1 t1)).alloc (.cells c2 t2) ∧ W.heap[w.heap.size]? = some (.cells c1 t1 (0, 0)) ∧ W.heap[w.heap.size + 1]? = some (.cells c2 t2 (0, 0)) ∧ Ext w W ∧ W.heap.size = w.heap.size + 2 :=
  ⟨_, rfl, heap_alloc2_old w _ _, heap_alloc2_new w _ _, ((Chg.refl _ w).alloc _).alloc _, by simp⟩

theorem ge_num {most : Int} {u sh : Nat} {b : UInt8} {r : List UInt8} (hs : sh = 56) (h : 64 < b.toNat % 128) : numGo most 1 u sh (b :: r) = none := by
  subst hs
  by_cases hb : 127 < b.toNat
  · rw [numGo_more hb]; rfl
  · exact numGo_fail (by omega) (.inl (by omega))

/-- How GetNum ends: what is left lies where it lay. -/
def GetPost (A0 : Option Addr) (l : List UInt8) (res : Option (Nat × List UInt8)) (e : Ending) : Prop :=
  match res with
  | none => e = .returned (.tuple #[.int .i64 0, inBad])
  | some (k, r) => ∃ A c, e = .returned (.tuple #[.int .i64 k, .agg #[.slice A r.length c, .bool false]]) ∧ r.length ≤ c ∧ c ≤ 9223372036854775807 ∧ ∀ w0, RowAt Ty.u8 A0 l w0 → RowAt Ty.u8 A r w0

theorem pow7 (i : Nat) (h : i < 8) : (2 : Nat) ^ (7 * min (i + 1) 8) = 2 ^ (7 * min i 8) * 128 := by
  rw [show min (i + 1) 8 = i + 1 by omega, show min i 8 = i by omega, Nat.mul_add, Nat.pow_add]

theorem shut_some {w W : World} {g5 : Nat} {c0 c1 : Value} {t : TypeId} (hg : W.heap[g5]? = some (.cells #[c0, c1] t (0, 0))) (hE : Ext w W) (hs : w.heap.size ≤ g5) (u0 u1 : Value) :
    ((W.setCell ⟨g5, 0, none⟩ u0).setCell ⟨g5, 1, none⟩ u1).drew.heap[g5]? = some (.cells #[u0, u1] t (0, 0)) ∧ Ext w ((W.setCell ⟨g5, 0, none⟩ u0).setCell ⟨g5, 1, none⟩ u1).drew :=
  ⟨blk_set (blk_set hg 0 _) 1 _, (hE.chg (((Chg.refl (· = g5) W).set1 0 u0 rfl).set1 1 u1 rfl) (fun b e => by subst e; exact hs)).drew⟩
theorem shut_row {ag ao c i : Nat} {l : List UInt8} {w : World} (h : RowAt Ty.u8 (some ⟨ag, ao, none⟩) l w) (hc : l.length ≤ c) : RowAt Ty.u8 (if c = i then some ⟨ag, ao, none⟩ else some ⟨ag, ao + i, none⟩) (l.drop i) w := by
  have := h.drop i c hc
  simpa [Ty.u8, Ty.sc, Addr.add_lit] using this
theorem shut_none {w W : World} {g5 : Nat} {c0 c1 : Value} {t t' : TypeId} {cs : Array Value} (hg : W.heap[g5]? = some (.cells #[c0, c1] t (0, 0))) (hE : Ext w W) (hs : w.heap.size ≤ g5) (u0 u1 : Value) :
    (((W.setCell ⟨g5, 0, none⟩ u0).setCell ⟨g5, 1, none⟩ u1).alloc (.cells cs t')).heap[g5]? = some (.cells #[u0, u1] t (0, 0)) ∧ Ext w (((W.setCell ⟨g5, 0, none⟩ u0).setCell ⟨g5, 1, none⟩ u1).alloc (.cells cs t')) :=
  ⟨blk_alloc (blk_set (blk_set hg 0 _) 1 _) _, (hE.chg (((Chg.refl (· = g5) W).set1 0 u0 rfl).set1 1 u1 rfl) (fun b e => by subst e; exact hs)).alloc _⟩

set_option maxHeartbeats 8000000 in
set_option maxRecDepth 100000 in
/-- pollardref02.GetNum -/
theorem getnum_good (A : Option Addr) (n c : Nat) (l : List UInt8) (most : Int) (w : World) (hn : l.length = n) (hc : n ≤ c) (hc' : c ≤ 9223372036854775807) (h : RowAt Ty.u8 A l w) (hm0 : -9223372036854775808 ≤ most) (hm : most ≤ 9223372036854775807) :
    Calls Try.prog 21 #[.agg #[.slice A n c, .bool false], .int .i64 most] w fun e w' => Ext w w' ∧ GetPost A l (num most l) e := by
  have HR := Hd.mk h
  have HN := Hd.mk hn
  clear h hn
  go_enter Try.func21, Try.ntmps21
  go_wp2
  obtain ⟨W, hW, hg0, hg1, hE, hsz⟩ := two_new w #[.slice A n c, .bool false] #[.slice none 0 0, .bool false] 44 44
  rw [← hW]
  clear hW
  have c00 := (blk_cell hg0 0).trans rfl
  have c01 := (blk_cell hg0 1).trans rfl
  have c10 := (blk_cell hg1 0).trans rfl
  have c11 := (blk_cell hg1 1).trans rfl
  have f10 := blk_free hg1 0
  have f11 := blk_free hg1 1
  have HE := Hd.mk hE
  have HS := Hd.mk hsz
  have HG1 := Hd.mk hg1
  have hlt1 : w.heap.size + 1 < W.heap.size := by omega
  clear hE hg0 hg1 hsz
  go_loop [6, 7, 8] (fun nv uv iv => ∃ (i u un : Nat), nv = .int .i64 u ∧ uv = .int .i64 un ∧ iv = .int .i64 i ∧ i ≤ 9 ∧ u < 9223372036854775808 ∧ un ≤ 72057594037927936 ∧ Hd (un = 2 ^ (7 * min i 8)) ∧ Hd (u < 2 ^ (7 * i)) ∧ Hd (i ≤ l.length ∧ numGo most (9 - i) u (7 * i) (l.drop i) = num most l)) (fun _ _ i => 9 - (intOf i).toNat)
  case atStart => exact ⟨0, 0, 1, rfl, rfl, rfl, by omega, by omega, by omega, ⟨rfl⟩, ⟨by decide⟩, ⟨⟨by omega, rfl⟩⟩⟩
  case round =>
    obtain ⟨i, u, un, rfl, rfl, rfl, h9, hu, hun, HUN, HU, HI⟩ := hrel
    by_cases hlt : i < n
    · by_cases hlt9 : i < 9
      · obtain ⟨b, hb⟩ : ∃ b, l[i]? = some b := ⟨l[i]'(by have := HN.out; omega), List.getElem?_eq_getElem _⟩
        obtain ⟨ag, ao, rfl, hcell⟩ := (HR.out.ext HE.out).open_ (by have := HN.out; omega)
        have cb := hcell i b hb
        clear hcell
        simp only [bv] at cb
        have hbl : b.toNat < 256 := b.toNat_lt
        have hdrop : l.drop i = b :: l.drop (i + 1) := by rw [List.drop_eq_getElem_cons (by have := HN.out; omega)]; congr 1; exact (List.getElem?_eq_some_iff.1 hb).2
        obtain ⟨pm, hmul, HPM⟩ : ∃ pm : Nat, (b.toNat : Int) % 128 * (un : Int) = (pm : Int) ∧ Hd (pm = b.toNat % 128 * un) := ⟨b.toNat % 128 * un, by push_cast; rfl, ⟨rfl⟩⟩
        -- what stands at the end of the round, and its bounds
        obtain ⟨k, HK⟩ : ∃ k, Hd (9 - i = k + 1 ∧ k + i = 8) := ⟨8 - i, ⟨by omega⟩⟩
        have HGO : Hd (numGo most (k + 1) u (7 * i) (b :: l.drop (i + 1)) = num most l) := ⟨by rw [← hdrop, ← HK.out.1]; exact HI.out.2⟩
        have HUN2 : Hd (un = 2 ^ (7 * i)) := ⟨by rw [HUN.out, show min i 8 = i by have := HK.out; omega]⟩
        clear hb hdrop
        have hpow : un = 2 ^ (7 * i) := HUN2.out
        have hpm : pm ≤ 127 * un := by rw [HPM.out]; exact Nat.mul_le_mul_right _ (by omega)
        have hu' : u < un := by rw [hpow]; exact HU.out
        have HU2 : Hd (u + pm < 2 ^ (7 * (i + 1))) := ⟨by rw [Nat.mul_add, Nat.pow_add, ← hpow]; omega⟩
        clear hpow
        by_cases hlow : i = 8 ∧ 64 < b.toNat % 128
        · obtain ⟨rfl, hlow⟩ := hlow
          have hlow' : (64 : Int) < (b.toNat : Int) % 128 := by omega
          have hend : num most l = none := by
            rw [← HGO.out, show k = 0 by have := HK.out; omega]
            exact ge_num rfl hlow
          have HEND := Hd.mk hend
          clear hend
          go_wp2_with (go_at_call 30; refine (failed_calls _).mono ?_; rintro e w1 ⟨rfl, rfl⟩)
          have hsh := shut_none (t' := 44) (cs := #[.slice none 0 0, .bool true]) HG1.out HE.out (by omega) (.slice none 0 0) (.bool true)
          refine bodyPost_ret (run_results2 rfl rfl ⟨_, _, _, _, rfl, hsh.1, Try.underlying44, rfl, by kernel_rfl, rfl⟩) rfl ?_
          exact ⟨hsh.2, by rw [HEND.out]; rfl⟩
        · have hpm2 : i = 8 → pm ≤ 64 * un := fun h => by rw [HPM.out]; exact Nat.mul_le_mul_right _ (by omega)
          have hlowi : i = 8 → (b.toNat : Int) % 128 ≤ 64 := fun h => by omega
          have hun49 : i < 8 → un ≤ 562949953421312 := fun h => by rw [HUN2.out]; exact Nat.pow_le_pow_right (n := 2) (by decide) (show 7 * i ≤ 49 by omega)
          have hbd : u + pm < 4683743612465315840 := by
            by_cases h : i = 8
            · have := hpm2 h; omega
            · have := hun49 (by omega); omega
          clear hlow hpm2 hpm
          by_cases h128 : 127 < b.toNat
          · have h128' : (127 : Int) < (b.toNat : Int) := by omega
            have HNX : Hd (numGo most k (u + pm) (7 * (i + 1)) (l.drop (i + 1)) = num most l) := ⟨by rw [← HGO.out, numGo_more h128, HPM.out, HUN2.out]; rfl⟩
            by_cases h8 : i = 8
            · subst h8
              have hl8 := hlowi rfl
              clear hlowi hun49
              go_wp2_with fail
              go_round
              case rel => exact ⟨9, u + pm, un, by go_num, rfl, by go_num, by omega, by omega, by omega, ⟨HUN.out⟩, ⟨HU2.out⟩, ⟨by have := HN.out; omega, by rw [show 9 - 9 = k by have := HK.out; omega]; exact HNX.out⟩⟩
              case measure => simp [intOf]
            · have hne : ((i : Int) == 8) = false := beq_eq_false_iff_ne.2 (by omega)
              have hun49' := hun49 (by omega)
              clear hlowi hun49
              go_wp2_with fail
              go_round
              case rel => exact ⟨i + 1, u + pm, un * 128, by go_num, by go_num, by go_num, by omega, by omega, by omega, ⟨by rw [HUN.out, pow7 i (by omega)]⟩, ⟨HU2.out⟩, ⟨by have := HN.out; omega, by rw [show 9 - (i + 1) = k by have := HK.out; omega]; exact HNX.out⟩⟩
              case measure => simp [intOf]; omega
          · have h128' : (b.toNat : Int) ≤ 127 := by omega
            have hli : i = 8 ∨ ((i : Int) == 8) = false := by
              by_cases h : i = 8
              · exact .inl h
              · exact .inr (beq_eq_false_iff_ne.2 (by omega))
            by_cases hf : 4611686018427387904 < u + pm ∨ most < ((u + pm : Nat) : Int) ∨ (b.toNat = 0 ∧ 0 < 7 * i)
            · have HEND : Hd (num most l = none) := ⟨by rw [← HGO.out]; exact numGo_fail (by omega) (by rw [← HUN2.out, ← HPM.out]; exact hf)⟩
              rcases hli with h8 | hne
              · subst h8
                have hl8 := hlowi rfl
                clear hlowi hun49
                go_wp2_with (go_at_call 30; refine (failed_calls _).mono ?_; rintro e w1 ⟨rfl, rfl⟩)
                all_goals
                  have hsh := shut_none (t' := 44) (cs := #[.slice none 0 0, .bool true]) HG1.out HE.out (by omega) (.slice none 0 0) (.bool true)
                  refine bodyPost_ret (run_results2 rfl rfl ⟨_, _, _, _, rfl, hsh.1, Try.underlying44, rfl, by kernel_rfl, rfl⟩) rfl ?_
                  exact ⟨hsh.2, by rw [HEND.out]; rfl⟩
              · clear hlowi hun49
                go_wp2_with (go_at_call 30; refine (failed_calls _).mono ?_; rintro e w1 ⟨rfl, rfl⟩)
                all_goals
                  have hsh := shut_none (t' := 44) (cs := #[.slice none 0 0, .bool true]) HG1.out HE.out (by omega) (.slice none 0 0) (.bool true)
                  refine bodyPost_ret (run_results2 rfl rfl ⟨_, _, _, _, rfl, hsh.1, Try.underlying44, rfl, by kernel_rfl, rfl⟩) rfl ?_
                  exact ⟨hsh.2, by rw [HEND.out]; rfl⟩
            · have HEND : Hd (num most l = some (u + pm, l.drop (i + 1))) := ⟨by rw [← HGO.out, numGo_done (by omega) (by rw [← HUN2.out, ← HPM.out]; exact hf), HPM.out, HUN2.out]⟩
              have hf1 : u + pm ≤ 4611686018427387904 := by omega
              have hf2 : (u : Int) + (pm : Int) ≤ most := by omega
              have hf3 : b.toNat = 0 → i = 0 := by omega
              clear hf
              have hl1 : (l.drop (i + 1)).length = n - (i + 1) := by rw [List.length_drop, HN.out]
              have HLN := Hd.mk hl1
              clear hl1
              rcases hli with h8 | hne
              · subst h8
                have hl8 := hlowi rfl
                clear hlowi hun49
                have hb0 : ((b.toNat : Int) == 0) = false := beq_eq_false_iff_ne.2 (by omega)
                clear hf3
                go_wp2_with fail
                go_region
                all_goals go_wp2
                all_goals
                  refine bodyPost_ret (run_results2 rfl rfl ⟨_, _, _, _, rfl, (shut_some HG1.out HE.out (by omega) _ (.bool false)).1, Try.underlying44, rfl, by kernel_rfl, rfl⟩) rfl ?_
                  refine ⟨(shut_some HG1.out HE.out (by omega) _ (.bool false)).2, ?_⟩
                  rw [HEND.out]
                  have hrow := fun (w0 : World) (h0 : RowAt Ty.u8 (some ⟨ag, ao, none⟩) l w0) => shut_row (w := w0) (i := 9) h0 (by rw [HN.out]; exact hc)
                  first
                    | exact ⟨_, _, by rw [HLN.out]; push_cast; rfl, by rw [HLN.out]; omega, by omega, fun w0 h0 => by have hr := hrow w0 h0; rw [if_pos (by assumption)] at hr; exact hr⟩
                    | exact ⟨_, _, by rw [HLN.out]; push_cast; rfl, by rw [HLN.out]; omega, by omega, fun w0 h0 => by have hr := hrow w0 h0; rw [if_neg (by assumption)] at hr; exact hr⟩
              · clear hlowi hun49
                by_cases hb0 : b.toNat = 0
                · obtain rfl := hf3 hb0
                  simp only [Nat.add_zero] at cb
                  have hp0 : pm = 0 := by rw [HPM.out, hb0]; simp
                  subst hp0
                  replace HEND : Hd (num most l = some (u, l.drop (0 + 1))) := HEND
                  go_wp2_with fail
                  go_region
                  all_goals go_wp2
                  all_goals
                    refine bodyPost_ret (run_results2 rfl rfl ⟨_, _, _, _, rfl, (shut_some HG1.out HE.out (by omega) _ (.bool false)).1, Try.underlying44, rfl, by kernel_rfl, rfl⟩) rfl ?_
                    refine ⟨(shut_some HG1.out HE.out (by omega) _ (.bool false)).2, ?_⟩
                    rw [HEND.out]
                    have hrow := fun (w0 : World) (h0 : RowAt Ty.u8 (some ⟨ag, ao, none⟩) l w0) => shut_row (w := w0) (i := 1) h0 (by rw [HN.out]; exact hc)
                    first
                      | exact ⟨_, _, by rw [HLN.out]; push_cast; rfl, by rw [HLN.out]; omega, by omega, fun w0 h0 => by have hr := hrow w0 h0; rw [if_pos (by assumption)] at hr; exact hr⟩
                      | exact ⟨_, _, by rw [HLN.out]; push_cast; rfl, by rw [HLN.out]; omega, by omega, fun w0 h0 => by have hr := hrow w0 h0; rw [if_neg (by assumption)] at hr; exact hr⟩
                · have hb0' : ((b.toNat : Int) == 0) = false := beq_eq_false_iff_ne.2 (by omega)
                  clear hf3 hb0
                  go_wp2_with fail
                  go_region
                  all_goals go_wp2
                  all_goals
                    refine bodyPost_ret (run_results2 rfl rfl ⟨_, _, _, _, rfl, (shut_some HG1.out HE.out (by omega) _ (.bool false)).1, Try.underlying44, rfl, by kernel_rfl, rfl⟩) rfl ?_
                    refine ⟨(shut_some HG1.out HE.out (by omega) _ (.bool false)).2, ?_⟩
                    rw [HEND.out]
                    have hrow := fun (w0 : World) (h0 : RowAt Ty.u8 (some ⟨ag, ao, none⟩) l w0) => shut_row (w := w0) (i := i + 1) h0 (by rw [HN.out]; exact hc)
                    first
                      | exact ⟨_, _, by rw [HLN.out]; push_cast; rfl, by rw [HLN.out]; omega, by omega, fun w0 h0 => by have hr := hrow w0 h0; rw [if_pos (by assumption)] at hr; exact hr⟩
                      | exact ⟨_, _, by rw [HLN.out]; push_cast; rfl, by rw [HLN.out]; omega, by omega, fun w0 h0 => by have hr := hrow w0 h0; rw [if_neg (by assumption)] at hr; exact hr⟩
      · have h99 : i = 9 := by omega
        subst h99
        have HEND : Hd (num most l = none) := ⟨by rw [← HI.out.2]; rfl⟩
        go_wp2_with (go_at_call 30; refine (failed_calls _).mono ?_; rintro e w1 ⟨rfl, rfl⟩)
        all_goals
          have hsh := shut_none (t' := 44) (cs := #[.slice none 0 0, .bool true]) HG1.out HE.out (by omega) (.slice none 0 0) (.bool true)
          refine bodyPost_ret (run_results2 rfl rfl ⟨_, _, _, _, rfl, hsh.1, Try.underlying44, rfl, by kernel_rfl, rfl⟩) rfl ?_
          exact ⟨hsh.2, by rw [HEND.out]; rfl⟩
    · have HEND : Hd (num most l = none) := ⟨by
        have h := HI.out
        have hi : i = n := by have := HN.out; omega
        rw [← h.2, List.drop_eq_nil_of_le (by have := HN.out; omega)]
        rcases Nat.eq_zero_or_pos (9 - i) with h0 | h0
        · rw [h0]; rfl
        · obtain ⟨k, hk⟩ : ∃ k, 9 - i = k + 1 := ⟨9 - i - 1, by omega⟩
          rw [hk]; rfl⟩
      go_wp2_with (go_at_call 30; refine (failed_calls _).mono ?_; rintro e w1 ⟨rfl, rfl⟩)
      all_goals
        have hsh := shut_none (t' := 44) (cs := #[.slice none 0 0, .bool true]) HG1.out HE.out (by omega) (.slice none 0 0) (.bool true)
        refine bodyPost_ret (run_results2 rfl rfl ⟨_, _, _, _, rfl, hsh.1, Try.underlying44, rfl, by kernel_rfl, rfl⟩) rfl ?_
        exact ⟨hsh.2, by rw [HEND.out]; rfl⟩

end Go.Proofs.Ytacpdkhbgommfaa
