/- Package delta: what Apply and Size compute. -/
import Derived.Test.YtacpdkhbgommfaaEnc
namespace Go.Proofs.Ytacpdkhbgommfaa
open Go.RowKit
attribute [local go_sem] eql_sl_nil neq_sl_nil
set_option linter.unusedVariables false
set_option linter.unusedSimpArgs false

/-- The steps of a delta: what comes out, or the error's number. -/
def applyGo (base : List UInt8) : Nat → List UInt8 → List UInt8 → Except Nat (List UInt8)
  | 0, _, _ => .error 0
  | f + 1, l, out =>
    if l = [] then .ok out else
    match num 4611686018427387904 l with
    | none => .error 20
    | some (n, r) =>
      if n / 2 < 1 ∨ 1048576 < n / 2 + out.length then .error 20
      else if n % 2 = 0 then
        if r.length < n / 2 then .error 20 else applyGo base f (r.drop (n / 2)) (out ++ r.take (n / 2))
      else
        match num 4611686018427387904 r with
        | none => .error 20
        | some (o, s) => if base.length < o + n / 2 then .error 70 else applyGo base f s (out ++ (base.drop o).take (n / 2))
/-- What Apply answers. -/
def applyF (base d : List UInt8) : Except Nat (List UInt8) :=
  match num 1048576 d with
  | none => .error 20
  | some (told, r) =>
    match applyGo base (r.length + 1) r [] with
    | .error e => .error e
    | .ok out => if out.length = told then .ok out else .error 20

theorem applyF_err {base d r : List UInt8} {told e : Nat} (h : num 1048576 d = some (told, r)) (hg : applyGo base (r.length + 1) r [] = .error e) : applyF base d = .error e := by
  simp only [applyF, h, hg]
theorem applyF_eq {base d r out : List UInt8} {told : Nat} (h : num 1048576 d = some (told, r)) (hg : applyGo base (r.length + 1) r [] = .ok out) (hl : out.length = told) : applyF base d = .ok out := by
  simp only [applyF, h, hg, if_pos hl]
theorem applyF_ne {base d r out : List UInt8} {told : Nat} (h : num 1048576 d = some (told, r)) (hg : applyGo base (r.length + 1) r [] = .ok out) (hl : out.length ≠ told) : applyF base d = .error 20 := by
  simp only [applyF, h, hg, if_neg hl]
theorem applyGo_form {base l out : List UInt8} {f : Nat} (hl : l ≠ []) (h : num 4611686018427387904 l = none) : applyGo base (f + 1) l out = .error 20 := by
  simp only [applyGo, if_neg hl, h]
theorem applyGo_size {base l r out : List UInt8} {f n : Nat} (hl : l ≠ []) (h : num 4611686018427387904 l = some (n, r)) (hc : n / 2 < 1 ∨ 1048576 < n / 2 + out.length) : applyGo base (f + 1) l out = .error 20 := by
  simp only [applyGo, if_neg hl, h, if_pos hc]
theorem applyGo_own {base l r out : List UInt8} {f n : Nat} (hl : l ≠ []) (h : num 4611686018427387904 l = some (n, r)) (hc : ¬ (n / 2 < 1 ∨ 1048576 < n / 2 + out.length)) (h2 : n % 2 = 0) :
    applyGo base (f + 1) l out = if r.length < n / 2 then .error 20 else applyGo base f (r.drop (n / 2)) (out ++ r.take (n / 2)) := by
  simp only [applyGo, if_neg hl, h, if_neg hc, if_pos h2]
theorem applyGo_form2 {base l r out : List UInt8} {f n : Nat} (hl : l ≠ []) (h : num 4611686018427387904 l = some (n, r)) (hc : ¬ (n / 2 < 1 ∨ 1048576 < n / 2 + out.length)) (h2 : ¬ n % 2 = 0) (h3 : num 4611686018427387904 r = none) :
    applyGo base (f + 1) l out = .error 20 := by
  simp only [applyGo, if_neg hl, h, if_neg hc, if_neg h2, h3]
theorem applyGo_copy {base l r s out : List UInt8} {f n o : Nat} (hl : l ≠ []) (h : num 4611686018427387904 l = some (n, r)) (hc : ¬ (n / 2 < 1 ∨ 1048576 < n / 2 + out.length)) (h2 : ¬ n % 2 = 0) (h3 : num 4611686018427387904 r = some (o, s)) :
    applyGo base (f + 1) l out = if base.length < o + n / 2 then .error 70 else applyGo base f s (out ++ (base.drop o).take (n / 2)) := by
  simp only [applyGo, if_neg hl, h, if_neg hc, if_neg h2, h3]

/-- How Apply ends. -/
def ApplyPost (w : World) (res : Except Nat (List UInt8)) (e : Ending) (w' : World) : Prop :=
  match res with
  | .error n => e = .returned (.tuple #[.slice none 0 0, .int .i64 n])
  | .ok out => ∃ v, e = .returned (.tuple #[v, .int .i64 0]) ∧ OwnB w.heap.size v out w'

theorem slice_from {w wr : World} {A : Option Addr} {l : List UInt8} (h : RowAt Ty.u8 A l w) (he : Ext w wr) : RowAt Ty.u8 A l wr := h.ext he

set_option maxRecDepth 100000 in
set_option maxHeartbeats 8000000 in
/-- delta.Apply -/
theorem apply_calls (A B : Option Addr) (n m c cb : Nat) (base d : List UInt8) (w : World) (hn : d.length = n) (hc : n ≤ c) (hc' : c ≤ 9223372036854775807) (hb : n ≤ 140737488355328) (h : RowAt Ty.u8 A d w)
    (hm : base.length = m) (hcb : m ≤ cb) (hcb' : cb ≤ 9223372036854775807) (hB : RowAt Ty.u8 B base w) :
    Calls Try.prog 10 #[.slice B m cb, .slice A n c] w fun e w' => Ext w w' ∧ ApplyPost w (applyF base d) e w' := by
  have HA := Hd.mk h
  have HN := Hd.mk hn
  have HB := Hd.mk hB
  have HM := Hd.mk hm
  clear h hn hB hm
  cases hnum : num 1048576 d with
  | none =>
    have HE : Hd (applyF base d = .error 20) := ⟨by simp only [applyF, hnum]⟩
    have HU := Hd.mk hnum
    clear hnum
    go_enter Try.func10, Try.ntmps10
    go_wp2_with (first
      | (go_at_call 17; refine (read_calls A n c d _ HN.out hb HA.out).mono ?_; rintro e w1 ⟨g, rfl, hr, he⟩; have HR := Hd.mk hr; have HE1 := Hd.mk he; clear hr he)
      | (go_at_call 18; refine (num_none _ _ d _ _ HR.out (by omega) (by omega) HU.out).mono ?_; rintro e w2 ⟨rfl, hr, hc⟩; have HR2 := Hd.mk hr; have HC2 := Hd.mk hc; clear hr hc))
    go_loopw [1, 6, 8] (fun _ r _ wr => r = .pointer (some ⟨g, 0, none⟩) ∧ wr = w2) (fun _ _ _ _ => 0)
    case atStart => exact ⟨rfl, rfl⟩
    case round =>
      obtain ⟨rfl, rfl⟩ := hrel
      go_wp2_with (go_at_call 19; refine (good_calls _ _ _ _ _ HR2.out).mono ?_; rintro e w3 ⟨rfl, rfl⟩)
      go_ret2
      exact ⟨HE1.out.chg HC2.out (fun b e => by subst e; exact HR.out.1.1), by rw [HE.out]; rfl⟩
  | some p =>
    obtain ⟨told, r0⟩ := p
    have htl := (num_le hnum).2
    have htm := (num_le hnum).1
    have HU := Hd.mk hnum
    clear hnum
    go_enter Try.func10, Try.ntmps10
    go_wp2_with (first
      | (go_at_call 17; refine (read_calls A n c d _ HN.out hb HA.out).mono ?_; rintro e w1 ⟨g, rfl, hr, he⟩; have HR := Hd.mk hr; have HE1 := Hd.mk he; clear hr he)
      | (go_at_call 18; refine (num_some _ _ d _ _ HR.out (by omega) (by omega) told r0 HU.out).mono ?_; rintro e w2 ⟨rfl, hr, hc⟩; have HR2 := Hd.mk hr; have HC2 := Hd.mk hc; clear hr hc))
    go_loopg [1, 6, 8] (r0.length + 1) (fun f dv rv ov wr => ∃ (Ad Ao : Option Addr) (nd cd no co g : Nat) (S : Nat → Prop) (dl l out : List UInt8), dv = .slice Ad nd cd ∧ rv = .pointer (some ⟨g, 0, none⟩) ∧ ov = .slice Ao no co ∧
      nd ≤ cd ∧ cd ≤ 9223372036854775807 ∧ nd ≤ 140737488355328 ∧ no ≤ 1048576 ∧ Hd (dl.length = nd) ∧ Hd (RowAt Ty.u8 Ad dl w) ∧ Hd (∃ p, dl = p ++ l) ∧ Hd (out.length = no) ∧ Hd (OwnB w.heap.size (.slice Ao no co) out wr) ∧
      Hd (RdS S g l false wr) ∧ Hd (∀ k, S k → w.heap.size ≤ k ∧ k < wr.heap.size) ∧ Hd (∀ k, (Value.slice Ao no co).ownBlock = some k → ¬ S k) ∧ Hd (Ext w wr) ∧ Hd (l.length < f) ∧ Hd (applyGo base f l out = applyGo base (r0.length + 1) r0 []))
    case atStart =>
      obtain ⟨b, p, hp⟩ := num_drop HU.out
      exact ⟨A, none, n, c, 0, 0, g, _, d, r0, [], rfl, rfl, rfl, hc, hc', hb, by omega, HN, HA, ⟨b :: p, hp⟩, ⟨rfl⟩, ⟨OwnS.nil _ _ _ _⟩, HR2, ⟨fun k hk => ⟨hk.1, Nat.lt_of_lt_of_le hk.2 HC2.out.size⟩⟩, ⟨fun k hk => by simp [Value.ownBlock] at hk⟩,
        ⟨HE1.out.chg HC2.out (fun b e => by subst e; exact HR.out.1.1)⟩, ⟨by omega⟩, ⟨rfl⟩⟩
    case round =>
      obtain ⟨Ad, Ao, nd, cd, no, co, g, S, dl, l, out, rfl, rfl, rfl, h1, h2, h3, h4, HD, HDR, HP, HO1, HO, HRl, HS, HOS, HX, HF, HG⟩ := hrel
      cases gk with
      | zero => exact absurd HF.out (by omega)
      | succ f =>
        by_cases hl : l = []
        · subst hl
          go_wp2_with (first
            | (go_at_call 19; refine (good_calls _ _ _ _ _ HRl.out).mono ?_; rintro e w3 ⟨rfl, rfl⟩)
            | (go_at_call 20; refine (left_calls _ _ _ _ _ HRl.out).mono ?_; rintro e w3 ⟨rfl, rfl⟩))
          · go_ret2
            have hg : applyGo base (r0.length + 1) r0 [] = .ok out := HG.out.symm
            have hne : out.length ≠ told := by have := HO1.out; have := ‹(((no : Int)) != (told : Int)) = true›; simp at this; omega
            exact ⟨HX.out, by rw [applyF_ne HU.out hg hne]; rfl⟩
          · go_ret2
            have hg : applyGo base (r0.length + 1) r0 [] = .ok out := HG.out.symm
            have hne : out.length = told := by have := HO1.out; have := ‹(((no : Int)) != (told : Int)) = false›; simp at this; omega
            exact ⟨HX.out, by rw [applyF_eq HU.out hg hne]; exact ⟨_, rfl, HO.out⟩⟩
        · have hlp : 0 < l.length := List.length_pos_iff.2 hl
          have HL := Hd.mk hl
          clear hl
          cases hnum : num 4611686018427387904 l with
          | none =>
            have HN2 := Hd.mk hnum
            clear hnum
            go_wp2_with (first
              | (go_at_call 18; refine (num_none _ _ l _ _ HRl.out (by omega) (by omega) HN2.out).mono ?_; rintro e w3 ⟨rfl, hr, hc⟩; have HR3 := Hd.mk hr; have HC3 := Hd.mk hc; clear hr hc)
              | (go_at_call 19; refine (good_calls _ _ _ _ _ HRl.out).mono ?_; rintro e w3 ⟨rfl, rfl⟩)
              | (go_at_call 19; refine (good_calls _ _ _ _ _ HR3.out).mono ?_; rintro e w4 ⟨rfl, rfl⟩)
              | (go_at_call 20; refine (left_calls _ _ _ _ _ HRl.out).mono ?_; rintro e w3 ⟨rfl, rfl⟩))
            go_ret2
            exact ⟨HX.out.chg HC3.out (fun b e => by subst e; exact (HS.out _ HRl.out.1).1), by rw [applyF_err HU.out (HG.out.symm.trans (applyGo_form HL.out HN2.out))]; rfl⟩
          | some q =>
            obtain ⟨n2, r⟩ := q
            have hn2 := (num_le hnum).2
            have hrl : r.length < l.length := by
              obtain ⟨b, p, hp⟩ := num_drop hnum
              rw [hp]; simp; omega
            have HN2 := Hd.mk hnum
            clear hnum
            have HRL := Hd.mk hrl
            clear hrl
            obtain ⟨k, hk⟩ : ∃ k, n2 / 2 = k := ⟨_, rfl⟩
            have hki : (n2 : Int) / 2 = (k : Int) := by omega
            have HK := Hd.mk hk
            clear hk
            by_cases hc : k < 1 ∨ 1048576 < k + no
            · go_wp2_with (first
                | (go_at_call 18; refine (num_some _ _ l _ _ HRl.out (by omega) (by omega) n2 r HN2.out).mono ?_; rintro e w3 ⟨rfl, hr, hc⟩; have HR3 := Hd.mk hr; have HC3 := Hd.mk hc; clear hr hc)
                | (go_at_call 19; refine (good_calls _ _ _ _ _ HRl.out).mono ?_; rintro e w3 ⟨rfl, rfl⟩)
                | (go_at_call 19; refine (good_calls _ _ _ _ _ HR3.out).mono ?_; rintro e w4 ⟨rfl, rfl⟩)
                | (go_at_call 20; refine (left_calls _ _ _ _ _ HRl.out).mono ?_; rintro e w3 ⟨rfl, rfl⟩))
              all_goals
                go_ret2
                exact ⟨HX.out.chg HC3.out (fun b e => by subst e; exact (HS.out _ HRl.out.1).1), by rw [applyF_err HU.out (HG.out.symm.trans (applyGo_size HL.out HN2.out (by rw [HK.out, HO1.out]; exact hc)))]; rfl⟩
            · have hc1 : 1 ≤ k := by omega
              have hc2 : k ≤ 1048576 - no := by omega
              have HCC : Hd (¬ (n2 / 2 < 1 ∨ 1048576 < n2 / 2 + out.length)) := ⟨by rw [HK.out, HO1.out]; exact hc⟩
              clear hc
              have HSg : Hd (∀ b, b = g → w.heap.size ≤ b) := ⟨fun b e => by subst e; exact (HS.out _ HRl.out.1).1⟩
              by_cases h2z : n2 % 2 = 0
              · have h2i : (n2 : Int) % 2 = 0 := by omega
                have hown := applyGo_own (base := base) (f := f) HL.out HN2.out HCC.out h2z
                rw [HK.out] at hown
                clear h2z
                by_cases hlt : r.length < k
                · have HW := Hd.mk (hown.trans (if_pos hlt))
                  clear hown
                  go_wp2_with (first
                    | (go_at_call 18; refine (num_some _ _ l _ _ HRl.out (by omega) (by omega) n2 r HN2.out).mono ?_; rintro e w3 ⟨rfl, hr, hc⟩; have HR3 := Hd.mk hr; have HC3 := Hd.mk hc; clear hr hc)
                    | (go_at_call 19; refine (good_calls _ _ _ _ _ HRl.out).mono ?_; rintro e w3 ⟨rfl, rfl⟩)
                    | (go_at_call 19; refine (good_calls _ _ _ _ _ HR3.out).mono ?_; rintro e w4 ⟨rfl, rfl⟩)
                    | (go_at_call 20; refine (left_calls _ _ _ _ _ HRl.out).mono ?_; rintro e w3 ⟨rfl, rfl⟩)
                    | (go_at_call 20; refine (left_calls _ _ _ _ _ HR3.out).mono ?_; rintro e w4 ⟨rfl, rfl⟩))
                  go_ret2
                  exact ⟨HX.out.chg HC3.out HSg.out, by rw [applyF_err HU.out (HG.out.symm.trans HW.out)]; rfl⟩
                · have HW := Hd.mk (hown.trans (if_neg hlt))
                  clear hown
                  have hlr : k ≤ r.length := by omega
                  clear hlt
                  obtain ⟨at_, hat, HAT, hatk, hatn⟩ : ∃ at_ : Nat, (nd : Int) - (r.length : Int) = (at_ : Int) ∧ Hd (dl.drop at_ = r ∧ at_ + r.length = nd) ∧ at_ + k ≤ nd ∧ nd ≤ cd := by
                    obtain ⟨p, hp⟩ := HP.out
                    obtain ⟨b, q, hq⟩ := num_drop HN2.out
                    have h1 : dl = (p ++ b :: q) ++ r := by rw [hp, hq]; simp
                    have h2 : dl.length = (p ++ b :: q).length + r.length := by rw [h1, List.length_append]
                    rw [HD.out] at h2
                    refine ⟨(p ++ b :: q).length, by omega, ⟨?_, by omega⟩, by omega, by assumption⟩
                    rw [h1, List.drop_left]
                  have hne : ¬ cd = at_ := by omega
                  obtain ⟨ad, rfl⟩ := HDR.out.some_ (by rw [HD.out]; omega)
                  have hrow : RowAt Ty.u8 (some (ad.add at_)) r w := by have := RowAt.from_ HDR.out at_; rw [HAT.out.1] at this; exact this
                  have hrow2 : RowAt Ty.u8 (some (ad.add (at_ + k))) (r.drop k) w := by have := RowAt.from_ hrow k; rw [add_add] at this; exact this
                  have HROW := Hd.mk hrow
                  have HROW2 := Hd.mk hrow2
                  clear hrow hrow2
                  go_wp2_with (first
                    | (go_at_call 18; refine (num_some _ _ l _ _ HRl.out (by omega) (by omega) n2 r HN2.out).mono ?_; rintro e w3 ⟨rfl, hr, hc⟩; have HR3 := Hd.mk hr; have HC3 := Hd.mk hc; clear hr hc)
                    | (go_at_call 19; refine (good_calls _ _ _ _ _ HRl.out).mono ?_; rintro e w3 ⟨rfl, rfl⟩)
                    | (go_at_call 19; refine (good_calls _ _ _ _ _ HR3.out).mono ?_; rintro e w4 ⟨rfl, rfl⟩)
                    | (go_at_call 20; refine (left_calls _ _ _ _ _ HRl.out).mono ?_; rintro e w3 ⟨rfl, rfl⟩)
                    | (go_at_call 20; refine (left_calls _ _ _ _ _ HR3.out).mono ?_; rintro e w4 ⟨rfl, rfl⟩)
                    | (at_builtin; go_loud (refine wpList_append_S bv_one rfl (.tmp 54) (.tmp 60) 22 5 rfl _ 1 Try.underlying22 info_u8 rfl w.heap.size _ out rfl (HO.out.chg HC3.out (fun b hb e => by subst e; exact HOS.out _ hb HRl.out.1)) _ _ _ (r.take k) rfl (by rw [List.length_take]; omega) ((HROW.out.ext (HX.out.chg HC3.out HSg.out)).take k) (by have := HO1.out; rw [List.length_take]; omega) (by have := HO1.out; rw [List.length_take]; omega) (HX.out.chg HC3.out HSg.out).size ?_); go_loud (intro v1 w5 ho hg _); go_loud (have HX5 := Hd.mk ((HX.out.chg HC3.out HSg.out).grown hg (fun b hb e => absurd (HO.out.lt b e).1 (by omega)))); go_loud (obtain ⟨A5, c5, rfl, h51, h52⟩ := ho.form' (n := no + k) (by have := HO1.out; rw [List.length_append, List.length_take]; omega)); go_loud (have HO5 := Hd.mk ho; clear ho hg))
                    | (go_at_call 17; refine (read_calls _ _ _ (r.drop k) _ (by have := HAT.out; rw [List.length_drop]; omega) (by omega) (by first | exact HROW2.out.ext HX5.out | (rw [List.drop_eq_nil_of_le (by have := HAT.out; omega)]; exact RowAt.nil _ _ _))).mono ?_; rintro e w6 ⟨g6, rfl, hr, he⟩; have HR6 := Hd.mk hr; have HE6 := Hd.mk he; clear hr he))
                  all_goals
                    go_roundg f
                    case measure => omega
                    case rel =>
                      have hln : (r.drop k).length = nd - (at_ + k) := by have := HAT.out; rw [List.length_drop]; omega
                      refine ⟨_, _, _, _, _, _, g6, _, r.drop k, r.drop k, out ++ r.take k, rfl, rfl, rfl, by omega, by omega, by omega, by omega, ⟨hln⟩, ⟨?_⟩, ⟨[], rfl⟩, ⟨by have := HO1.out; rw [List.length_append, List.length_take]; omega⟩, ⟨HO5.out.ext HE6.out⟩, HR6, ⟨fun b hb => ⟨?_, hb.2⟩⟩, ⟨fun b hb hs => ?_⟩, ⟨HX5.out.trans HE6.out (fun _ _ h => h)⟩, ⟨?_⟩, ⟨HW.out.symm.trans HG.out⟩⟩
                      · first | exact HROW2.out | (rw [List.drop_eq_nil_of_le (by have := HAT.out; omega)]; exact RowAt.nil _ _ _)
                      · have := hb.1; have := HX5.out.size; omega
                      · have := (HO5.out.lt b hb).2; have := hs.1; omega
                      · have := HRL.out; have := HF.out; rw [List.length_drop]; omega
              · have h2i : (n2 : Int) % 2 = 1 := by omega
                cases hnum2 : num 4611686018427387904 r with
                | none =>
                  have HW := Hd.mk (applyGo_form2 (base := base) (f := f) HL.out HN2.out HCC.out h2z hnum2)
                  have HN3 := Hd.mk hnum2
                  clear hnum2 h2z
                  go_wp2_with (first
                    | (go_at_call 18; refine (num_some _ _ l _ _ HRl.out (by omega) (by omega) n2 r HN2.out).mono ?_; rintro e w3 ⟨rfl, hr, hc⟩; have HR3 := Hd.mk hr; have HC3 := Hd.mk hc; clear hr hc)
                    | (go_at_call 18; refine (num_none _ _ r _ _ HR3.out (by omega) (by omega) HN3.out).mono ?_; rintro e w4 ⟨rfl, hr, hc⟩; have HR4 := Hd.mk hr; have HC4 := Hd.mk hc; clear hr hc)
                    | (go_at_call 19; refine (good_calls _ _ _ _ _ HRl.out).mono ?_; rintro e w3 ⟨rfl, rfl⟩)
                    | (go_at_call 19; refine (good_calls _ _ _ _ _ HR3.out).mono ?_; rintro e w4 ⟨rfl, rfl⟩)
                    | (go_at_call 19; refine (good_calls _ _ _ _ _ HR4.out).mono ?_; rintro e w5 ⟨rfl, rfl⟩)
                    | (go_at_call 20; refine (left_calls _ _ _ _ _ HRl.out).mono ?_; rintro e w3 ⟨rfl, rfl⟩))
                  go_ret2
                  exact ⟨(HX.out.chg HC3.out HSg.out).chg HC4.out HSg.out, by rw [applyF_err HU.out (HG.out.symm.trans HW.out)]; rfl⟩
                | some q2 =>
                  obtain ⟨o, s⟩ := q2
                  have ho2 := (num_le hnum2).2
                  have hcp := applyGo_copy (base := base) (f := f) HL.out HN2.out HCC.out h2z hnum2
                  rw [HK.out, HM.out] at hcp
                  have hsl : s.length < r.length := by
                    obtain ⟨b, p, hp⟩ := num_drop hnum2
                    rw [hp]; simp; omega
                  have HSL := Hd.mk hsl
                  have HN3 := Hd.mk hnum2
                  clear hnum2 h2z hsl
                  by_cases hlt : m < o + k
                  · have HW := Hd.mk (hcp.trans (if_pos hlt))
                    clear hcp
                    go_wp2_with (first
                      | (go_at_call 18; refine (num_some _ _ l _ _ HRl.out (by omega) (by omega) n2 r HN2.out).mono ?_; rintro e w3 ⟨rfl, hr, hc⟩; have HR3 := Hd.mk hr; have HC3 := Hd.mk hc; clear hr hc)
                      | (go_at_call 18; refine (num_some _ _ r _ _ HR3.out (by omega) (by omega) o s HN3.out).mono ?_; rintro e w4 ⟨rfl, hr, hc⟩; have HR4 := Hd.mk hr; have HC4 := Hd.mk hc; clear hr hc)
                      | (go_at_call 19; refine (good_calls _ _ _ _ _ HRl.out).mono ?_; rintro e w3 ⟨rfl, rfl⟩)
                      | (go_at_call 19; refine (good_calls _ _ _ _ _ HR3.out).mono ?_; rintro e w4 ⟨rfl, rfl⟩)
                      | (go_at_call 19; refine (good_calls _ _ _ _ _ HR4.out).mono ?_; rintro e w5 ⟨rfl, rfl⟩)
                      | (go_at_call 20; refine (left_calls _ _ _ _ _ HRl.out).mono ?_; rintro e w3 ⟨rfl, rfl⟩))
                    all_goals
                      go_ret2
                      exact ⟨(HX.out.chg HC3.out HSg.out).chg HC4.out HSg.out, by rw [applyF_err HU.out (HG.out.symm.trans HW.out)]; rfl⟩
                  · have HW := Hd.mk (hcp.trans (if_neg hlt))
                    clear hcp
                    have hok : o + k ≤ m := by omega
                    clear hlt
                    have hne : ¬ cb = o := by omega
                    obtain ⟨bd, rfl⟩ := HB.out.some_ (by rw [HM.out]; omega)
                    have HROW := Hd.mk ((RowAt.from_ HB.out o).take k)
                    have hlen : ((base.drop o).take k).length = k := by rw [List.length_take, List.length_drop, HM.out]; omega
                    have HLEN := Hd.mk hlen
                    clear hlen
                    go_wp2_with (first
                      | (go_at_call 18; refine (num_some _ _ l _ _ HRl.out (by omega) (by omega) n2 r HN2.out).mono ?_; rintro e w3 ⟨rfl, hr, hc⟩; have HR3 := Hd.mk hr; have HC3 := Hd.mk hc; clear hr hc)
                      | (go_at_call 18; refine (num_some _ _ r _ _ HR3.out (by omega) (by omega) o s HN3.out).mono ?_; rintro e w4 ⟨rfl, hr, hc⟩; have HR4 := Hd.mk hr; have HC4 := Hd.mk hc; clear hr hc)
                      | (go_at_call 19; refine (good_calls _ _ _ _ _ HRl.out).mono ?_; rintro e w3 ⟨rfl, rfl⟩)
                      | (go_at_call 19; refine (good_calls _ _ _ _ _ HR3.out).mono ?_; rintro e w4 ⟨rfl, rfl⟩)
                      | (go_at_call 19; refine (good_calls _ _ _ _ _ HR4.out).mono ?_; rintro e w5 ⟨rfl, rfl⟩)
                      | (go_at_call 20; refine (left_calls _ _ _ _ _ HRl.out).mono ?_; rintro e w3 ⟨rfl, rfl⟩)
                      | (at_builtin; refine wpList_append_S bv_one rfl (.tmp 90) (.tmp 96) 22 5 rfl _ 1 Try.underlying22 info_u8 rfl w.heap.size _ out rfl ((HO.out.chg HC3.out (fun b hb e => by subst e; exact HOS.out _ hb HRl.out.1)).chg HC4.out (fun b hb e => by subst e; exact HOS.out _ hb HRl.out.1)) _ _ _ ((base.drop o).take k) rfl (by rw [HLEN.out]; omega) (HROW.out.ext ((HX.out.chg HC3.out HSg.out).chg HC4.out HSg.out)) (by have := HO1.out; have := HLEN.out; omega) (by have := HO1.out; have := HLEN.out; omega) ((HX.out.chg HC3.out HSg.out).chg HC4.out HSg.out).size ?_; intro v1 w5 ho hg hat5; have HX5 := Hd.mk (((HX.out.chg HC3.out HSg.out).chg HC4.out HSg.out).grown hg (fun b hb e => absurd (HO.out.lt b e).1 (by omega))); obtain ⟨A5, c5, rfl, h51, h52⟩ := ho.form' (n := no + k) (by have := HO1.out; have := HLEN.out; rw [List.length_append]; omega); have HO5 := Hd.mk ho; have HG5 := Hd.mk hg; have HAT5 := Hd.mk hat5; clear ho hg hat5))
                    go_roundg f
                    case measure => omega
                    case rel =>
                      have hs4 : wr.heap.size ≤ w4.heap.size := Nat.le_trans HC3.out.size HC4.out.size
                      refine ⟨Ad, _, nd, cd, _, _, g, S, dl, s, out ++ (base.drop o).take k, rfl, rfl, rfl, h1, h2, h3, by omega, HD, HDR, ⟨?_⟩, ⟨by have := HO1.out; have := HLEN.out; rw [List.length_append]; omega⟩, HO5, ⟨HR4.out.chg (Chg.of_grown HG5.out) (fun b hb e => HOS.out _ e.symm hb)⟩, ⟨fun b hb => ?_⟩, ⟨fun b hb hs => ?_⟩, HX5, ⟨?_⟩, ⟨HW.out.symm.trans HG.out⟩⟩
                      · obtain ⟨p, hp⟩ := HP.out
                        obtain ⟨b, q, hq⟩ := num_drop HN2.out
                        obtain ⟨b2, q2, hq2⟩ := num_drop HN3.out
                        exact ⟨p ++ (b :: q) ++ (b2 :: q2), by rw [hp, hq, hq2]; simp⟩
                      · have hsb := HS.out b hb
                        have := HG5.out.size
                        exact ⟨hsb.1, by omega⟩
                      · rcases HAT5.out with h | h
                        · exact HOS.out b (h.symm.trans hb) hs
                        · have := h.symm.trans hb
                          have := HS.out b hs
                          injection ‹some w4.heap.size = some b›
                          omega
                      · have := HRL.out; have := HF.out; have := HSL.out; omega

/-- What Size answers. -/
def sizeF (d : List UInt8) : Option Nat := (num 1048576 d).map (·.1)

/-- How Size ends. -/
def SizePost (r : Option Nat) (e : Ending) : Prop := e = .returned (match r with | none => .tuple #[.int .i64 0, .int .i64 20] | some k => .tuple #[.int .i64 k, .int .i64 0])

/-- delta.Size -/
theorem size_calls (A : Option Addr) (n c : Nat) (d : List UInt8) (w : World) (hn : d.length = n) (hb : n ≤ 140737488355328) (h : RowAt Ty.u8 A d w) :
    Calls Try.prog 14 #[.slice A n c] w fun e w' => Ext w w' ∧ SizePost (sizeF d) e := by
  have HA := Hd.mk h
  have HN := Hd.mk hn
  clear h hn
  cases hnum : num 1048576 d with
  | none =>
    have HE : Hd (sizeF d = none) := ⟨by simp only [sizeF, hnum]; rfl⟩
    have HU := Hd.mk hnum
    clear hnum
    go_enter Try.func14, Try.ntmps14
    go_wp2_with (first
      | (go_at_call 17; refine (read_calls A n c d _ HN.out hb HA.out).mono ?_; rintro e w1 ⟨g, rfl, hr, he⟩; have HR := Hd.mk hr; have HE1 := Hd.mk he; clear hr he)
      | (go_at_call 18; refine (num_none _ _ d _ _ HR.out (by omega) (by omega) HU.out).mono ?_; rintro e w2 ⟨rfl, hr, hc⟩; have HR2 := Hd.mk hr; have HC2 := Hd.mk hc; clear hr hc)
      | (go_at_call 19; refine (good_calls _ _ _ _ _ HR2.out).mono ?_; rintro e w3 ⟨rfl, rfl⟩))
    go_ret2
    exact ⟨HE1.out.chg HC2.out (fun b e => by subst e; exact HR.out.1.1), by rw [HE.out]; rfl⟩
  | some p =>
    obtain ⟨k, r⟩ := p
    have hk := (num_le hnum).2
    have HE : Hd (sizeF d = some k) := ⟨by simp only [sizeF, hnum]; rfl⟩
    have HU := Hd.mk hnum
    clear hnum
    go_enter Try.func14, Try.ntmps14
    go_wp2_with (first
      | (go_at_call 17; refine (read_calls A n c d _ HN.out hb HA.out).mono ?_; rintro e w1 ⟨g, rfl, hr, he⟩; have HR := Hd.mk hr; have HE1 := Hd.mk he; clear hr he)
      | (go_at_call 18; refine (num_some _ _ d _ _ HR.out (by omega) (by omega) k r HU.out).mono ?_; rintro e w2 ⟨rfl, hr, hc⟩; have HR2 := Hd.mk hr; have HC2 := Hd.mk hc; clear hr hc)
      | (go_at_call 19; refine (good_calls _ _ _ _ _ HR2.out).mono ?_; rintro e w3 ⟨rfl, rfl⟩))
    go_ret2
    exact ⟨HE1.out.chg HC2.out (fun b e => by subst e; exact HR.out.1.1), by rw [HE.out]; rfl⟩

end Go.Proofs.Ytacpdkhbgommfaa
