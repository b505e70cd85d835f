/- (*maker).longest, walked. (UNDER WAY: NOT BUILT) -/
import Derived.Test.YtacpdkhbgommfaaLongest
import Derived.Test.YtacpdkhbgommfaaPlainMake
import Derived.Deep.RegionHeld3
namespace Go.Proofs.Ytacpdkhbgommfaa
open Go.RowKit
attribute [local go_sem] eql_sl_nil neq_sl_nil
set_option linter.unusedVariables false
set_option linter.unusedSimpArgs false

theorem common_step {b t : List UInt8} {x y : Nat} {u v : UInt8} (h1 : b[x]? = some u) (h2 : t[y]? = some v) : common (b.drop x) (t.drop y) = if u = v then common (b.drop (x + 1)) (t.drop (y + 1)) + 1 else 0 := by
  obtain ⟨hx, rfl⟩ := List.getElem?_eq_some_iff.1 h1
  obtain ⟨hy, rfl⟩ := List.getElem?_eq_some_iff.1 h2
  rw [List.drop_eq_getElem_cons hx, List.drop_eq_getElem_cons hy]
  simp only [common]
theorem common_end1 {b t : List UInt8} {x y : Nat} (h : b.length ≤ x) : common (b.drop x) (t.drop y) = 0 := by
  rw [List.drop_eq_nil_of_le h]; simp only [common]
theorem common_end2 {b t : List UInt8} {x y : Nat} (h : t.length ≤ y) : common (b.drop x) (t.drop y) = 0 := by
  rw [List.drop_eq_nil_of_le h]; cases b.drop x <;> simp only [common]
/-- What one place does to the longest so far. -/
theorem long_more {b t : List UInt8} {at_ i p fr len kk : Nat} {ps : List Nat} (hp : ps[i]? = some p) (h : (ps.take i).foldl (longStep b t at_) (0, 0) = (fr, len)) (hk : 8 + common (b.drop (p + 8)) (t.drop (at_ + 8)) = kk) :
    (ps.take (i + 1)).foldl (longStep b t at_) (0, 0) = if len < kk then (p, kk) else (fr, len) := by
  obtain ⟨hi, rfl⟩ := List.getElem?_eq_some_iff.1 hp
  rw [List.take_succ_eq_append_getElem hi, List.foldl_append, h]
  simp only [List.foldl_cons, List.foldl_nil, longStep, hk]

set_option maxHeartbeats 8000000 in
set_option maxRecDepth 100000 in
/-- (*maker).longest -/
theorem longest_calls (g base mb : Nat) (A B : Option Addr) (k c n d own at_ : Nat) (b t : List UInt8) (vo : Value) (w : World) (hg : MkS g (.slice A k c) (.slice B n d) (.map (some mb)) vo own w)
    (hk : b.length = k) (hkm : k ≤ 100000000) (hA : RowAt Ty.u8 A b w) (hn : t.length = n) (hnm : n ≤ 100000000) (hnd : n ≤ d) (hd : d ≤ 9223372036854775807) (hB : RowAt Ty.u8 B t w) (hat : at_ ≤ n)
    (hm : PlacesAt base mb (fun s => (places b s).map Int.ofNat) w) :
    Calls Try.prog 26 #[.pointer (some ⟨g, 0, none⟩), .int .i64 at_] w fun e w' => e = .returned (.tuple #[.int .i64 (longestF b t at_).1, .int .i64 (longestF b t at_).2]) ∧ Drawn w w' := by
  have c0 : w.cell? ⟨g, 0, none⟩ = some (.slice A k c) := blk_cell hg 0
  have c1 : w.cell? ⟨g, 1, none⟩ = some (.slice B n d) := blk_cell hg 1
  have c2 : w.cell? ⟨g, 2, none⟩ = some (.map (some mb)) := blk_cell hg 2
  have HG := Hd.mk hg
  have HA := Hd.mk hA
  have HB := Hd.mk hB
  have HK := Hd.mk hk
  have HN := Hd.mk hn
  have HM := Hd.mk hm
  clear hg hA hB hk hn hm
  by_cases hlt : n < at_ + 8
  · go_enter Try.func26, Try.ntmps26
    go_wp2
    go_ret2
    refine ⟨?_, Drawn.refl _⟩
    unfold longestF
    rw [if_pos (by rw [HN.out]; exact hlt)]
    rfl
  · obtain ⟨bg, bo, rfl, hbc⟩ := HB.out.open_ (by rw [HN.out]; omega)
    have HBC := Hd.mk hbc
    clear hbc
    have HP : Hd (RowAt Ty.u8 (some ⟨bg, bo + at_, none⟩) ((t.drop at_).take 8) w) := ⟨by have h := (RowAt.from_ HB.out at_).take 8; rw [Addr.add_lit] at h; exact h⟩
    have HPL : Hd (((t.drop at_).take 8).length = 8) := ⟨by rw [List.length_take, List.length_drop, HN.out]; omega⟩
    obtain ⟨PA, PC, hlook, hprow⟩ := PlacesAt.look (w := w.drew) (show PlacesAt base mb (fun s => (places b s).map Int.ofNat) w.drew from HM.out) ((t.drop at_).take 8)
    obtain ⟨s8, hs8⟩ : ∃ s8 : ByteArray, (⟨((t.drop at_).take 8).toArray⟩ : ByteArray) = s8 := ⟨_, rfl⟩
    obtain ⟨ps, hps⟩ : ∃ ps, places b ((t.drop at_).take 8) = ps := ⟨_, rfl⟩
    have hmem : ∀ p ∈ ps, p + 8 ≤ b.length := fun p hp => (places_mem (hps ▸ hp)).1
    have hlf : longestF b t at_ = ps.foldl (longStep b t at_) (0, 0) := by unfold longestF; rw [if_neg (by rw [HN.out]; exact hlt), hps]
    rw [hps] at hlook hprow
    obtain ⟨q, hq⟩ : ∃ q, ps.length = q := ⟨_, rfl⟩
    have hq4 : q ≤ 4 := by rw [← hq, ← hps]; unfold places; rw [List.length_take]; omega
    rw [List.length_map, hq] at hlook
    have hconv := run_string (P := Try.prog) w.drew 22 5 9 Try.underlying22 Try.underlying5 Try.underlying9 (show RowAt Ty.u8 (some ⟨bg, bo + at_, none⟩) ((t.drop at_).take 8) w.drew from HP.out) 8 (d - at_) HPL.out
    rw [hs8] at hlook hconv
    have HQ := Hd.mk hq
    have HROW : Hd (RowAt Ty.int PA (ps.map Int.ofNat) w) := ⟨hprow⟩
    have HMEM := Hd.mk hmem
    have HLF := Hd.mk hlf
    clear hq hprow hs8 hmem hlf hps
    have b1 : (0 : Int) ≤ (at_ : Int) := Int.natCast_nonneg _
    have b2 : (at_ : Int) + 8 ≤ (n : Int) := by omega
    have b3 : (at_ : Int) + 8 ≤ (d : Int) := by omega
    have b4 : ¬ d = at_ := by omega
    have b5 : (at_ : Int) ≤ (at_ : Int) + 8 := by omega
    have b6 : (at_ : Int) ≤ (d : Int) := by omega
    have hw8 : IntKind.i64.wrap ((at_ : Int) + 8) = (at_ : Int) + 8 := by rw [IntKind.wrap_i64]; omega
    have b7 : (0 : Int) ≤ (at_ : Int) + 8 := by omega
    have hsl : ((at_ : Int) + 8).toNat - at_ = 8 := by omega
    go_enter Try.func26, Try.ntmps26
    go_wp2_with fail
    go_region_held3 (fun w' => w'.cell? ⟨g, 1, none⟩ = some (.slice (some ⟨bg, bo, none⟩) n d) ∧ w'.cell? ⟨g, 2, none⟩ = some (.map (some mb)) ∧ (convert 22 9 (.slice (some ⟨bg, bo + at_, none⟩) 8 (d - at_))).run Try.prog w' = .ok (.string s8) w' ∧ (Instr.lookup 51 (.map (some mb)) (.string s8) false).run Try.prog w' = .ok (.slice PA q PC) w') (go_keep) (fail)
    rename_i hheld
    clear hconv hlook hsl hw8 b7 hheld
    go_wp2
    go_loopw [4, 5, 32] (fun fv nv iv wr => ∃ (i fr len m : Nat), wr = w.drewN m ∧ i ≤ q ∧ iv = .int .i64 i ∧ fv = .int .i64 fr ∧ nv = .int .i64 len ∧ fr ≤ k ∧ len ≤ n ∧ Hd ((ps.take i).foldl (longStep b t at_) (0, 0) = (fr, len))) (fun _ _ iv _ => q - (intOf iv).toNat)
    case atStart => exact ⟨0, 0, 0, 1, rfl, by omega, rfl, rfl, rfl, by omega, by omega, ⟨rfl⟩⟩
    case round =>
      obtain ⟨i, fr, len, m, rfl, hi, rfl, rfl, rfl, hfr, hlen, HI⟩ := hrel
      by_cases hiq : i < q
      · obtain ⟨p, hp⟩ : ∃ p, ps[i]? = some p := ⟨_, List.getElem?_eq_getElem (by rw [HQ.out]; exact hiq)⟩
        have hp8 : p + 8 ≤ k := by have := HMEM.out p (List.mem_of_getElem? hp); rw [HK.out] at this; exact this
        obtain ⟨pg, po, rfl, hpc⟩ := HROW.out.open_ (by rw [List.length_map, HQ.out]; omega)
        have cp := hpc i (p : Int) (by rw [List.getElem?_map, hp]; rfl)
        obtain ⟨ag, ao, rfl, hac⟩ := HA.out.open_ (by rw [HK.out]; omega)
        have HAC := Hd.mk hac
        have HPI := Hd.mk hp
        clear hpc hac hp
        go_wp2
        go_loopw [8] (fun kv wr => ∃ (kk m : Nat), wr = w.drewN m ∧ kv = .int .i64 kk ∧ 8 ≤ kk ∧ p + kk ≤ k ∧ at_ + kk ≤ n ∧ Hd (8 + common (b.drop (p + 8)) (t.drop (at_ + 8)) = kk + common (b.drop (p + kk)) (t.drop (at_ + kk)))) (fun kv _ => n - (intOf kv).toNat)
        case atStart => exact ⟨8, m, rfl, rfl, by omega, by omega, by omega, ⟨rfl⟩⟩
        case round =>
          obtain ⟨kk, m2, rfl, rfl, hk8, hpk, hak, HC⟩ := hrel
          have e1 : IntKind.i64.wrap ((p : Int) + (kk : Int)) = (p : Int) + (kk : Int) := by rw [IntKind.wrap_i64]; omega
          have e2 : IntKind.i64.wrap ((at_ : Int) + (kk : Int)) = (at_ : Int) + (kk : Int) := by rw [IntKind.wrap_i64]; omega
          have g1 : (0 : Int) ≤ (p : Int) + (kk : Int) := by omega
          have g2 : (0 : Int) ≤ (at_ : Int) + (kk : Int) := by omega
          have t1 : ((p : Int) + (kk : Int)).toNat = p + kk := by omega
          have t2 : ((at_ : Int) + (kk : Int)).toNat = at_ + kk := by omega
          by_cases h1 : p + kk < k
          · have d1 : decide ((p : Int) + (kk : Int) < (k : Int)) = true := by simp; omega
            by_cases h2 : at_ + kk < n
            · have d2 : decide ((at_ : Int) + (kk : Int) < (n : Int)) = true := by simp; omega
              obtain ⟨u, hu⟩ : ∃ u, b[p + kk]? = some u := ⟨_, List.getElem?_eq_getElem (by rw [HK.out]; exact h1)⟩
              obtain ⟨v, hv⟩ : ∃ v, t[at_ + kk]? = some v := ⟨_, List.getElem?_eq_getElem (by rw [HN.out]; exact h2)⟩
              have cu : w.cell? ⟨ag, ao + (p + kk), none⟩ = some (.int .u8 u.toNat) := HAC.out _ _ hu
              have cv : w.cell? ⟨bg, bo + (at_ + kk), none⟩ = some (.int .u8 v.toNat) := HBC.out _ _ hv
              have HU := Hd.mk hu
              have HV := Hd.mk hv
              clear hu hv
              by_cases huv : u = v
              · have d3 : ((u.toNat : Int) == (v.toNat : Int)) = true := by rw [huv]; simp
                have HUV := Hd.mk huv
                clear huv
                go_wp2_with fail
                go_quiet (fail)
                go_wp2
                go_roundw
                case rel => exact ⟨kk + 1, _, rfl, by go_num, by omega, by omega, by omega, ⟨by rw [HC.out, common_step HU.out HV.out, if_pos HUV.out]; simp only [Nat.add_assoc, Nat.add_comm 1]⟩⟩
                case measure => simp [intOf]; omega
              · have d3 : ((u.toNat : Int) == (v.toNat : Int)) = false := by simp; intro h; exact huv (UInt8.toNat_inj.1 (by omega))
                have HCC : Hd (8 + common (b.drop (p + 8)) (t.drop (at_ + 8)) = kk) := ⟨by rw [HC.out, common_step HU.out HV.out, if_neg huv]; rfl⟩
                clear huv
                go_wp2_with fail
                go_quiet (fail)
                go_wp2
                all_goals
                  go_roundw
                  case rel =>
                    have hm := long_more HPI.out HI.out HCC.out
                    first
                      | (rw [if_pos (by assumption)] at hm; exact ⟨i + 1, p, kk, _, rfl, by omega, by go_num, rfl, rfl, by omega, by omega, ⟨hm⟩⟩)
                      | (rw [if_neg (by omega)] at hm; exact ⟨i + 1, fr, len, _, rfl, by omega, by go_num, rfl, rfl, by omega, by omega, ⟨hm⟩⟩)
                  case measure => simp [intOf]; omega
            · have d2 : decide ((at_ : Int) + (kk : Int) < (n : Int)) = false := by simp; omega
              have HCC : Hd (8 + common (b.drop (p + 8)) (t.drop (at_ + 8)) = kk) := ⟨by rw [HC.out, common_end2 (by rw [HN.out]; omega)]; rfl⟩
              go_wp2_with fail
              go_quiet (fail)
              go_wp2
              all_goals
                go_roundw
                case rel =>
                  have hm := long_more HPI.out HI.out HCC.out
                  first
                    | (rw [if_pos (by assumption)] at hm; exact ⟨i + 1, p, kk, _, rfl, by omega, by go_num, rfl, rfl, by omega, by omega, ⟨hm⟩⟩)
                    | (rw [if_neg (by omega)] at hm; exact ⟨i + 1, fr, len, _, rfl, by omega, by go_num, rfl, rfl, by omega, by omega, ⟨hm⟩⟩)
                case measure => simp [intOf]; omega
          · have d1 : decide ((p : Int) + (kk : Int) < (k : Int)) = false := by simp; omega
            have HCC : Hd (8 + common (b.drop (p + 8)) (t.drop (at_ + 8)) = kk) := ⟨by rw [HC.out, common_end1 (by rw [HK.out]; omega)]; rfl⟩
            go_wp2_with fail
            go_quiet (fail)
            go_wp2
            all_goals
              go_roundw
              case rel =>
                have hm := long_more HPI.out HI.out HCC.out
                first
                  | (rw [if_pos (by assumption)] at hm; exact ⟨i + 1, p, kk, _, rfl, by omega, by go_num, rfl, rfl, by omega, by omega, ⟨hm⟩⟩)
                  | (rw [if_neg (by omega)] at hm; exact ⟨i + 1, fr, len, _, rfl, by omega, by go_num, rfl, rfl, by omega, by omega, ⟨hm⟩⟩)
              case measure => simp [intOf]; omega
      · obtain rfl : i = q := by omega
        have HE : Hd ((longestF b t at_) = (fr, len)) := ⟨by rw [HLF.out, ← HI.out, List.take_of_length_le (by rw [HQ.out]; omega)]⟩
        go_wp2
        go_ret2
        exact ⟨by rw [HE.out]; rfl, (Drawn.refl w).then _⟩

end Go.Proofs.Ytacpdkhbgommfaa
