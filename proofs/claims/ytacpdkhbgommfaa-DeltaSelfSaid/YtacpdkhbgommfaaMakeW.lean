/- delta.Make, walked. -/
import Derived.Test.YtacpdkhbgommfaaLongestW
import Derived.Test.YtacpdkhbgommfaaFlush
import Derived.Test.YtacpdkhbgommfaaIdx
namespace Go.Proofs.Ytacpdkhbgommfaa
open Go.RowKit
attribute [local go_sem] eql_sl_nil neq_sl_nil
set_option linter.unusedVariables false
set_option linter.unusedSimpArgs false

/-- bytes.Index -/
theorem index_calls (A B : Option Addr) (n m c cb mx : Nat) (base t : List UInt8) (w : World) (hn : t.length = n) (hc' : c ≤ 9223372036854775807) (hnc : n ≤ c) (h : RowAt Ty.u8 A t w) (h0 : 0 < n)
    (hm : base.length = m) (hcb : m ≤ cb) (hms : m < 4294967281) (hcb' : cb ≤ 9223372036854775807) (hB : RowAt Ty.u8 B base w) (hnil : B = none → cb = 0) (hx : ∃ z, w.cell? ⟨0, 0, none⟩ = some (.int .i64 z)) :
    Calls Try.prog 24 #[.slice B m cb, .slice A n c] w fun e w' => e = .returned (.int .i64 (Lib.index base t)) ∧ Drawn w w' := by
  obtain ⟨g, o, rfl, hA⟩ := h.open_ (by omega)
  obtain ⟨z, hz⟩ := hx
  have hbo : ∀ l : List UInt8, Lib.bytesOf (l.map fun x => (x.toNat : Int)) = l := fun l => by
    simp only [Lib.bytesOf, List.map_map]
    refine (List.map_congr_left (fun x _ => ?_)).trans (List.map_id l)
    simp
  have hr : ∀ l : List UInt8, ∀ x ∈ l.map (fun x => (x.toNat : Int)), 0 ≤ x ∧ x < 256 := fun l x hx => by
    obtain ⟨y, _, rfl⟩ := List.mem_map.1 hx
    have := y.toNat_lt
    omega
  have hcell : ∀ (l : List UInt8) (a : Addr), RowAt Ty.u8 (some a) l w → ∀ i, i < l.length → w.cell? (a.add i) = some (.int .u8 ((l.map fun x => (x.toNat : Int)).getD i 0)) := fun l a hl i hi => by
    obtain ⟨ad, e, hc⟩ := hl.sc i l[i] (List.getElem?_eq_getElem hi)
    obtain rfl : a = ad := by injection e
    rw [hc]; simp [bv, List.getD_eq_getElem?_getD, List.getElem?_eq_getElem hi]
  cases B with
  | none =>
    obtain rfl := hnil rfl
    obtain rfl : m = 0 := by omega
    obtain rfl := List.eq_nil_of_length_eq_zero hm
    refine (Try.bytes_Index_nil (some ⟨g, o, none⟩) n c w (by omega) (fun h1 => ⟨g, o, (t[0]'(by omega)).toNat, rfl, ?_⟩)).mono ?_
    · have := hA 0 t[0] (List.getElem?_eq_getElem (by omega))
      simpa [bv] using this
    · rintro e w' ⟨rfl, rfl⟩
      refine ⟨?_, Drawn.refl _⟩
      rw [if_neg (by omega)]
      unfold Lib.index
      rw [if_neg (by simp; intro e; rw [e] at hn; simp at hn; omega)]
  | some a =>
    refine (Try.bytes_Index_at a ⟨g, o, none⟩ m cb n c (base.map fun x => (x.toNat : Int)) (t.map fun x => (x.toNat : Int)) z w (by simpa using hm) (by simpa using hn) (hr _) (hr _) (fun i hi => hcell base a hB i (by omega)) (fun i hi => hcell t ⟨g, o, none⟩ h i (by omega)) hcb hms (by omega) hz).mono ?_
    rintro e w' ⟨rfl, q, rfl⟩
    exact ⟨by rw [hbo, hbo], q, rfl⟩

/-- How Make ends. -/
def MakePost (w : World) (l : List UInt8) (e : Ending) (w' : World) : Prop :=
  Ext w w' ∧ ∃ A k c, e = .returned (.tuple #[.slice A k c, .int .i64 0]) ∧ l.length = k ∧ k ≤ c ∧ c ≤ 9223372036854775807 ∧ RowAt Ty.u8 A l w'

section
variable (A B : Option Addr) (n m c cb : Nat) (base t : List UInt8) (w : World)
set_option maxHeartbeats 8000000 in
set_option maxRecDepth 100000 in
theorem make_nil (hn : t.length = n) (h0 : n = 0) :
    Calls Try.prog 16 #[.slice B m cb, .slice A n c] w (MakePost w (makeF base t)) := by
  subst h0
  have HF : Hd (makeF base t = enc7 0) := ⟨by unfold makeF; rw [if_pos hn, hn]⟩
  clear hn
  go_enter Try.func16, Try.ntmps16
  go_wp2_with (go_at_call 23; refine (encnum_calls none 0 0 [] 0 _ rfl (by omega) (RowAt.nil _ _ _) (by omega) (by omega)).mono ?_; rintro e w1 ⟨v, rfl, ho, he⟩; have HO := Hd.mk ho; have HE := Hd.mk he; clear ho he)
  go_ret2
  obtain ⟨A1, c1, rfl, h1, h2⟩ := HO.out.form
  refine ⟨HE.out, A1, _, c1, rfl, ?_, h1, h2, ?_⟩
  · rw [HF.out]; rfl
  · rw [HF.out]; exact HO.out.rowAt bv_one

set_option maxHeartbeats 8000000 in
set_option maxRecDepth 100000 in
theorem make_found (hn : t.length = n) (hnc : n ≤ c) (hc' : c ≤ 9223372036854775807) (hnm : n ≤ 1048576) (h : RowAt Ty.u8 A t w) (h0 : 0 < n)
    (hm : base.length = m) (hcb : m ≤ cb) (hms : m ≤ 100000000) (hcb' : cb ≤ 9223372036854775807) (hB : RowAt Ty.u8 B base w) (hnil : B = none → cb = 0) (hx : ∃ z, w.cell? ⟨0, 0, none⟩ = some (.int .i64 z)) (hi : 0 ≤ Lib.index base t) :
    Calls Try.prog 16 #[.slice B m cb, .slice A n c] w (MakePost w (makeF base t)) := by
  have HF : Hd (makeF base t = enc7 n ++ enc7 (2 * n + 1) ++ enc7 (Lib.index base t).toNat) := ⟨by unfold makeF; rw [if_neg (by omega), if_pos hi, hn]⟩
  obtain ⟨ix, hix⟩ := Int.eq_ofNat_of_zero_le hi
  have hixm : ix ≤ m := by have := (index_fits (b := base) (t := t) hi (by omega)).1; rw [hix] at this; simp at this; omega
  rw [hix, Int.toNat_natCast] at HF
  have HIX := Hd.mk hix
  have HA := Hd.mk h
  have HN := Hd.mk hn
  have HB := Hd.mk hB
  have HM := Hd.mk hm
  have HX := Hd.mk hx
  clear h hn hB hm hix hi hx
  have hne : ((n : Int) == 0) = false := by simp; omega
  go_enter Try.func16, Try.ntmps16
  go_wp2_with (first
    | (go_at_call 23; refine (encnum_calls A3 k3 c3 (enc7 n ++ enc7 (2 * n + 1)) (ix : Int) _ HL3.out (by omega) HR3.out (by omega) (by omega)).mono ?_; rintro e w4 ⟨v4, rfl, ho, he⟩; obtain ⟨A4, k4, c4, rfl, hl4, h41, h42⟩ := ho.named; have HO4 := Hd.mk ho; have HE4 := Hd.mk he; clear ho he)
    | (go_at_call 23; refine (encnum_calls A1 k1 c1 (enc7 n) (2 * (n : Int) + 1) _ HL1.out (by omega) HR2.out (by omega) (by omega)).mono ?_; rintro e w3 ⟨v3, rfl, ho, he⟩; rw [show (2 * (n : Int) + 1).toNat = 2 * n + 1 by omega] at ho; obtain ⟨k3, hl⟩ : ∃ k, (enc7 n ++ enc7 (2 * n + 1)).length = k := ⟨_, rfl⟩; have hk3 : k3 ≤ 20 := (by have := (enc7_len n).1; have := (enc7_len (2 * n + 1)).1; rw [List.length_append] at hl; omega); obtain ⟨A3, c3, rfl, h31, h32⟩ := ho.form' hl; have hr := ho.rowAt bv_one; clear ho; have HR3 := Hd.mk hr; have HE3 := Hd.mk he; have HL3 := Hd.mk hl; clear hr he hl)
    | (go_at_call 24; refine (index_calls A B n m c cb 0 base t _ HN.out hc' hnc (HA.out.ext HE1.out) h0 HM.out hcb (by omega) hcb' (HB.out.ext HE1.out) hnil HX1.out).mono ?_; rintro e w2 ⟨he, hd⟩; rw [HIX.out] at he; obtain rfl := he; have hr2 := HR1.out.ext hd.ext; have HR2 := Hd.mk hr2; have HD2 := Hd.mk hd; clear hr2 hd)
    | (go_at_call 23; refine (encnum_calls none 0 0 [] (n : Int) _ rfl (by omega) (RowAt.nil _ _ _) (by omega) (by omega)).mono ?_; rintro e w1 ⟨v, rfl, ho, he⟩; rw [Int.toNat_natCast, List.nil_append] at ho; obtain ⟨k1, hl⟩ : ∃ k, (enc7 n).length = k := ⟨_, rfl⟩; have hk1 : k1 ≤ 10 := (by have := (enc7_len n).1; omega); obtain ⟨A1, c1, rfl, h11, h12⟩ := ho.form' hl; have hr := ho.rowAt bv_one; have hx : ∃ z, w1.cell? ⟨0, 0, none⟩ = some (.int .i64 z) := (by obtain ⟨z, hz⟩ := HX.out; exact ⟨z, he.cell hz (fun h => h)⟩); clear ho; have HR1 := Hd.mk hr; have HE1 := Hd.mk he; have HL1 := Hd.mk hl; have HX1 := Hd.mk hx; clear hr he hl hx))
  go_ret2
  refine ⟨((HE1.out.trans HD2.out.ext (fun _ _ h => h)).trans HE3.out (fun _ _ h => h)).trans HE4.out (fun _ _ h => h), A4, k4, c4, rfl, ?_, h41, h42, ?_⟩
  · rw [HF.out]; exact hl4.out
  · rw [HF.out]; exact HO4.out.rowAt bv_one
end
/-! ### the map loop -/
def placesN (b s : List UInt8) (j : Nat) : List Nat := (((List.range j).map (· * 4)).filter (fun i => decide (i + 8 ≤ b.length ∧ (b.drop i).take 8 = s))).take 4
theorem placesN_hit {b s : List UInt8} {j : Nat} (h : j * 4 + 8 ≤ b.length) (hs : (b.drop (j * 4)).take 8 = s) : placesN b s (j + 1) = if (placesN b s j).length < 4 then placesN b s j ++ [j * 4] else placesN b s j := by
  unfold placesN
  rw [List.range_succ, List.map_append, List.filter_append]
  generalize ((List.range j).map (· * 4)).filter (fun i => decide (i + 8 ≤ b.length ∧ (b.drop i).take 8 = s)) = l
  rw [show ([j].map (· * 4)).filter (fun i => decide (i + 8 ≤ b.length ∧ (b.drop i).take 8 = s)) = [j * 4] by simp [h, hs]]
  rw [List.length_take]
  split
  · rw [List.take_of_length_le (by simp; omega), List.take_of_length_le (by omega)]
  · rw [List.take_append_of_le_length (by omega)]
theorem placesN_miss {b s : List UInt8} {j : Nat} (h : ¬ (j * 4 + 8 ≤ b.length ∧ (b.drop (j * 4)).take 8 = s)) : placesN b s (j + 1) = placesN b s j := by
  unfold placesN
  rw [List.range_succ, List.map_append, List.filter_append]
  rw [show ([j].map (· * 4)).filter (fun i => decide (i + 8 ≤ b.length ∧ (b.drop i).take 8 = s)) = [] by simpa using h]
  rw [List.append_nil]
theorem placesN_all {b s : List UInt8} {j : Nat} (h : b.length < j * 4 + 8) : ∀ d, placesN b s (j + d) = placesN b s j
  | 0 => rfl
  | d + 1 => by rw [← Nat.add_assoc, placesN_miss (fun e => by have := e.1; omega), placesN_all h d]
theorem placesN_end {b s : List UInt8} {j : Nat} (h : b.length < j * 4 + 8) (hj : j * 4 ≤ b.length) : placesN b s j = places b s := by
  have := placesN_all (s := s) h (b.length / 4 + 1 - j)
  rw [show j + (b.length / 4 + 1 - j) = b.length / 4 + 1 by omega] at this
  exact this.symm

theorem OwnS.blkOf {α : Type} {enc : α → Value} {e base : Nat} {v : Value} {l : List α} {w : World} (h : OwnS enc e base v l w) {k : Nat} (hk : v.ownBlock = some k) : ∃ cs fr, w.heap[k]? = some (.cells cs e fr) := by
  rcases h.2 with ⟨rfl, _⟩ | ⟨g', cap, cur, rfl, _, hh, _⟩
  · simp [Value.ownBlock] at hk
  · obtain rfl : g' = k := by simpa [Value.ownBlock] using hk
    exact ⟨_, _, hh⟩
theorem OwnS.apart2 {α β : Type} {enc : α → Value} {enc' : β → Value} {e e' b b' : Nat} {v v' : Value} {l : List α} {l' : List β} {w : World} (h : OwnS enc e b v l w) (h' : OwnS enc' e' b' v' l' w) (hne : e ≠ e') :
    ∀ k, v.ownBlock = some k → ¬ some k = v'.ownBlock := fun k hk e2 => by
  obtain ⟨cs, fr, hb⟩ := h'.blkOf e2.symm
  exact h.ne hb hne k hk rfl
/-- What stays behind an append to one piece's row, and its store. -/
theorem round_keeps {w W w5 w6 : World} {g mb : Nat} {P : List UInt8 → List Int} {v vb vt vm vo : Value} {l : List Int} {own : Nat} (hp : PlacesAt w.heap.size mb P W) (ho : OwnS (Value.int .i64) 3 w.heap.size v l W) (hmb : w.heap.size ≤ mb)
    (hc : Chg (fun k => some k = v.ownBlock) W w5) (h2 : Chg (· = mb) w5 w6) (hg : MkS g vb vt vm vo own W) (hx : Ext w W) :
    MkS g vb vt vm vo own w6 ∧ Ext w w6 ∧ ∀ u x, OwnB w.heap.size u x W → OwnB w.heap.size u x w6 := by
  obtain ⟨ml, hm, _⟩ := hp
  obtain ⟨_, es, clock, hmm, _⟩ := id hm
  refine ⟨h2.blk (hc.blk hg (fun e => ho.ne hg (by decide) g e.symm rfl)) (fun e => hm.ne hg e.symm), (hx.chg hc (fun b e => (ho.lt b e.symm).1)).chg h2 (fun b e => by subst e; exact hmb), fun u x hu => ?_⟩
  have h1 : OwnB w.heap.size u x w5 := hu.chg hc (hu.apart2 ho (by decide))
  exact h1.chg h2 (fun k hk e => by subst e; exact hu.neMap hmm _ hk rfl)
theorem offT {e base g : Nat} {v : Value} {l : List UInt8} {w : World} (h : OwnS bv e base v l w) {cs : Array Value} {t : TypeId} {fr : Nat × Nat} (hg : w.heap[g]? = some (.cells cs t fr)) (ht : e ≠ t) : Off g v l w := by
  obtain ⟨A, c, rfl, h1, h2⟩ := h.form
  exact ⟨A, _, c, rfl, rfl, h1, h2, fun w' ha => (h.move (fun k hk => ha k (h.ne hg ht k hk) (h.lt k hk).2)).rowAt bv_one⟩
theorem RowAt.off {α : Type} {d : Ty α} {A : Option Addr} {l : List α} {w wr : World} {g : Nat} (h : RowAt d A l w) (he : Ext w wr) (hg : w.heap.size ≤ g) : At (· ≠ g) (RowAt d A l) wr := fun w' ha =>
  h.loc w' (fun k _ hk => (ha k (by omega) (by have := he.size; omega)).trans (he.block k hk (fun h => h)))
theorem flushF_len (t lo : List UInt8) (own at_ : Nat) : (flushF t lo own at_).length ≤ lo.length + 9 + (at_ - own) := by
  unfold flushF
  split
  · have := (enc7_len (2 * (at_ - own))).1
    simp only [List.length_append, List.length_take]; omega
  · omega
theorem makeLoop_end {b t lo : List UInt8} {f own : Nat} : makeLoop b t f t.length own lo = flushF t lo own t.length := by
  cases f with
  | zero => rfl
  | succ f => simp only [makeLoop]; rw [if_pos (Nat.le_refl _)]
theorem MkS.ext {g : Nat} {vb vt vm vo : Value} {own : Nat} {w w1 : World} (h : MkS g vb vt vm vo own w) (he : Ext w w1) : MkS g vb vt vm vo own w1 := he.blk h (fun h => h)
theorem info_int : (Try.prog.info? 3).map (fun i => (i.zero, i.size, i.bytes)) = some (some (.int .i64 0), 1, 8) := by kernel_rfl
theorem int_one (x : Int) : (Value.int .i64 x).oneCell' = true := rfl

section
variable (A B : Option Addr) (n m c cb : Nat) (base t : List UInt8) (w : World)
set_option maxHeartbeats 8000000 in
set_option maxRecDepth 100000 in
theorem make_main (hn : t.length = n) (hnc : n ≤ c) (hc' : c ≤ 9223372036854775807) (hnm : n ≤ 1048576) (h : RowAt Ty.u8 A t w) (h0 : 0 < n)
    (hm : base.length = m) (hcb : m ≤ cb) (hms : m ≤ 100000000) (hcb' : cb ≤ 9223372036854775807) (hB : RowAt Ty.u8 B base w) (hnil : B = none → cb = 0) (hx : ∃ z, w.cell? ⟨0, 0, none⟩ = some (.int .i64 z)) (hi : Lib.index base t < 0) :
    Calls Try.prog 16 #[.slice B m cb, .slice A n c] w (MakePost w (makeF base t)) := by
  obtain ⟨R, hR⟩ : ∃ R, makeLoop base t (n + 1) 0 0 (enc7 n) = R := ⟨_, rfl⟩
  have HF : Hd (makeF base t = if (enc7 n ++ enc7 (2 * n) ++ t).length < R.length then enc7 n ++ enc7 (2 * n) ++ t else R) := ⟨by unfold makeF; rw [if_neg (by omega), if_neg (by omega)]; simp only [hn, hR]⟩
  have HA := Hd.mk h
  have HN := Hd.mk hn
  have HB := Hd.mk hB
  have HM := Hd.mk hm
  have HX := Hd.mk hx
  have HR0 := Hd.mk hR
  have hmin : -1 ≤ Lib.index base t := Lib.index_ge base t
  have HI : Hd (Lib.index base t = -1) := ⟨by omega⟩
  clear h hn hB hm hx hi hR hmin
  have hne : ((n : Int) == 0) = false := by simp; omega
  have hmm := @run_makeMap Try.prog
  go_enter Try.func16, Try.ntmps16
  go_wp2_with (first
    | (go_at_call 25; refine (clone_u8 A1 k1 c1 (enc7 n) _ HL1.out (by omega) (HO1.out.rowAt bv_one |>.ext (HD2.out.ext.alloc _))).mono ?_; rintro e w3 ⟨v3, rfl, ho, he, hv⟩; clear hv; obtain ⟨A3, k3, c3, rfl, HL3, h31, h32⟩ := ho.named; have HO3 := Hd.mk ho; have HE3 := Hd.mk he; clear ho he)
    | (go_at_call 24; refine (index_calls A B n m c cb 0 base t _ HN.out hc' hnc (HA.out.ext HE1.out) h0 HM.out hcb (by omega) hcb' (HB.out.ext HE1.out) hnil HX1.out).mono ?_; rintro e w2 ⟨he, hd⟩; rw [HI.out] at he; obtain rfl := he; have HD2 := Hd.mk hd; clear hd)
    | (go_at_call 23; refine (encnum_calls none 0 0 [] (n : Int) _ rfl (by omega) (RowAt.nil _ _ _) (by omega) (by omega)).mono ?_; rintro e w1 ⟨v, rfl, ho, he⟩; rw [Int.toNat_natCast, List.nil_append] at ho; obtain ⟨A1, k1, c1, rfl, HL1, h11, h12⟩ := ho.named; have hk1 : k1 ≤ 9 := (by have := (enc7_len n).1; have := HL1.out; omega); have hx : ∃ z, w1.cell? ⟨0, 0, none⟩ = some (.int .i64 z) := (by obtain ⟨z, hz⟩ := HX.out; exact ⟨z, he.cell hz (fun h => h)⟩); have HO1 := Hd.mk ho; have HE1 := Hd.mk he; have HX1 := Hd.mk hx; clear ho he hx))
  have hsz : w1.heap.size ≤ w2.heap.size := HD2.out.ext.size
  have hX3 : Ext w w3 := ((HE1.out.trans HD2.out.ext (fun _ _ h => h)).alloc _).trans HE3.out (fun _ _ h => h)
  obtain ⟨g, hg⟩ : ∃ g, w3.heap.size = g := ⟨_, rfl⟩
  obtain ⟨mb, hmb⟩ : ∃ mb, w2.heap.size = mb := ⟨_, rfl⟩
  rw [hg, hmb]
  have HMB : Hd (w.heap.size ≤ mb ∧ w.heap.size ≤ g) := ⟨by have := HE1.out.size; have := hX3.size; omega⟩
  have HK0 : Hd (MkS g (.slice B m cb) (.slice A n c) (.map (some mb)) (.slice A3 k3 c3) 0 (w3.alloc (.cells #[.slice B m cb, .slice A n c, .map (some mb), .slice A3 k3 c3, .int .i64 0] 54))) := ⟨by rw [← hg]; exact heap_alloc_new _ _⟩
  have HX0 := Hd.mk (hX3.alloc (.cells #[.slice B m cb, .slice A n c, .map (some mb), .slice A3 k3 c3, .int .i64 0] 54))
  have HT0 : Hd (OwnB w.heap.size (.slice A1 k1 c1) (enc7 n) (w3.alloc (.cells #[.slice B m cb, .slice A n c, .map (some mb), .slice A3 k3 c3, .int .i64 0] 54))) := ⟨(((HO1.out.ext HD2.out.ext).ext (Ext.alloc' _ _)).ext HE3.out).alloc _⟩
  have HO0 : Hd (OwnB w.heap.size (.slice A3 k3 c3) (enc7 n) (w3.alloc (.cells #[.slice B m cb, .slice A n c, .map (some mb), .slice A3 k3 c3, .int .i64 0] 54))) := ⟨(HO3.out.lower (by have := HE1.out.size; simp; omega)).alloc _⟩
  have HP0 : Hd (PlacesAt w.heap.size mb (fun s => (placesN base s 0).map Int.ofNat) (w3.alloc (.cells #[.slice B m cb, .slice A n c, .map (some mb), .slice A3 k3 c3, .int .i64 0] 54))) := ⟨by
    have := ((PlacesAt.made w2 w.heap.size).ext HE3.out).ext (Ext.alloc' _ (.cells #[.slice B m cb, .slice A n c, .map (some mb), .slice A3 k3 c3, .int .i64 0] 54))
    rw [hmb] at this
    exact this⟩
  obtain ⟨W, hW⟩ : ∃ W, w3.alloc (.cells #[.slice B m cb, .slice A n c, .map (some mb), .slice A3 k3 c3, .int .i64 0] 54) = W := ⟨_, rfl⟩
  rw [hW] at HK0 HX0 HT0 HO0 HP0
  rw [hW]
  clear hW hg hmb hX3 hsz HO3 HE3 HO1 HE1 HD2 HX1 hmm
  go_wp2
  go_loopw [9] (fun iv wr => ∃ (i j : Nat), iv = .int .i64 i ∧ i ≤ m ∧ Hd (i = j * 4) ∧ Hd (PlacesAt w.heap.size mb (fun s => (placesN base s j).map Int.ofNat) wr) ∧ Hd (OwnB w.heap.size (.slice A3 k3 c3) (enc7 n) wr) ∧ Hd (OwnB w.heap.size (.slice A1 k1 c1) (enc7 n) wr) ∧ Hd (Ext w wr) ∧ Hd (MkS g (.slice B m cb) (.slice A n c) (.map (some mb)) (.slice A3 k3 c3) 0 wr)) (fun iv _ => m + 4 - (intOf iv).toNat)
  case atStart => exact ⟨0, 0, rfl, by omega, ⟨rfl⟩, HP0, HO0, HT0, HX0, HK0⟩
  case round =>
    obtain ⟨i, j, rfl, him, HJ, HP, HO, HT, HE, HK⟩ := hrel
    clear HP0 HO0 HT0 HX0 HK0
    by_cases hlt : i + 8 ≤ m
    · obtain ⟨bg, bo, rfl, hbc⟩ := HB.out.open_ (by rw [HM.out]; omega)
      have HRW : Hd (RowAt Ty.u8 (some ⟨bg, bo + i, none⟩) ((base.drop i).take 8) wr) := ⟨by have h := ((RowAt.from_ HB.out i).take 8).ext HE.out; rw [Addr.add_lit] at h; exact h⟩
      have HRL : Hd (((base.drop i).take 8).length = 8) := ⟨by rw [List.length_take, List.length_drop, HM.out]; omega⟩
      obtain ⟨s8, hs8⟩ : ∃ s8, (base.drop i).take 8 = s8 := ⟨_, rfl⟩
      rw [hs8] at HRW HRL
      have hconv := run_string (P := Try.prog) wr 22 5 9 Try.underlying22 Try.underlying5 Try.underlying9 HRW.out 8 (cb - i) HRL.out
      obtain ⟨LA, LC, hlook, _⟩ := HP.out.look s8
      obtain ⟨q, hq⟩ : ∃ q, (placesN base s8 j).length = q := ⟨_, rfl⟩
      rw [List.length_map, hq] at hlook
      have HQ := Hd.mk hq
      have HS8 := Hd.mk hs8
      have hq4 : q ≤ 4 := by rw [← hq]; unfold placesN; rw [List.length_take]; omega
      have ck : wr.cell? ⟨g, 2, none⟩ = some (.map (some mb)) := blk_cell HK.out 2
      have b1 : (0 : Int) ≤ (i : Int) := Int.natCast_nonneg _
      have b2 : (i : Int) + 8 ≤ (m : Int) := by omega
      have b3 : (i : Int) ≤ (i : Int) + 8 := by omega
      have b4 : (i : Int) + 8 ≤ (cb : Int) := by omega
      have b5 : ¬ cb = i := by omega
      have hsl : ((i : Int) + 8).toNat - i = 8 := by omega
      clear hbc hq hs8
      obtain ⟨kv, hkv⟩ : ∃ kv : ByteArray, (⟨s8.toArray⟩ : ByteArray) = kv := ⟨_, rfl⟩
      rw [hkv] at hconv hlook
      have HKV := Hd.mk hkv
      clear hkv
      by_cases hq3 : q < 4
      · go_wp2_with fail
        clear hlook hconv hsl
        obtain ⟨vA, hrunA, hoA, hbackA⟩ := PlacesAt.at_ (w := wr.drew) (show PlacesAt w.heap.size mb (fun s => (placesN base s j).map Int.ofNat) wr.drew from HP.out) s8
        obtain ⟨vB, hrunB, hoB, hbackB⟩ := PlacesAt.at_ (w := (wr.alloc (.cells #[.int .i64 i] 3)).drew) (show PlacesAt w.heap.size mb (fun s => (placesN base s j).map Int.ofNat) (wr.alloc (.cells #[.int .i64 i] 3)).drew from HP.out.ext (Ext.alloc' _ _).drew) s8
        rw [HKV.out] at hrunA hrunB hbackA hbackB
        have hszr := HE.out.size
        have HoA := Hd.mk hoA
        have HoB := Hd.mk hoB
        have HbackA := Hd.mk hbackA
        have HbackB := Hd.mk hbackB
        have HLQ : Hd (((placesN base s8 j).map Int.ofNat).length = q) := ⟨by rw [List.length_map]; exact HQ.out⟩
        clear hoA hoB hbackA hbackB
        go_region_held3 (fun w' => w'.cell? ⟨g, 2, none⟩ = some (.map (some mb))) (first | go_keep | exact hck5 | exact blk_cell hk6 2) (first
          | (refine step_append_S int_one (by rfl) _ _ 55 3 (by rfl) _ 8 Try.underlying55 info_int (by rfl) w.heap.size vA ((placesN base s8 j).map Int.ofNat) (by rfl) (HoA.out.alloc _) _ _ _ [(i : Int)] (by rfl) rfl (one_new int_one _ (i : Int) _) (by rw [HLQ.out]; simp; omega) (by rw [HLQ.out]; simp; omega) (by simp; omega) ?_; intro v1 w5 ho5 hg5 hat5; have hc5 := ((Chg.refl (fun k => some k = vA.ownBlock) wr.drew).alloc (.cells #[.int .i64 i] 3)).trans (Chg.of_grown hg5) (fun b _ h => h); have hck5 : w5.cell? ⟨g, 2, none⟩ = some (.map (some mb)) := blk_cell (hc5.blk (show wr.drew.heap[g]? = _ from HK.out) (fun e => HoA.out.ne (show wr.drew.heap[g]? = _ from HK.out) (by decide) g e.symm rfl)) 2; obtain ⟨w6, hup, hpl, hc6, hs6⟩ := HbackA.out w5 v1 _ hc5 ho5 (by rcases hat5 with h | h; exact .inl h; exact .inr ⟨_, h, by simp⟩); obtain ⟨hk6, hx6, hu6⟩ := round_keeps (show PlacesAt w.heap.size mb (fun s => (placesN base s j).map Int.ofNat) wr.drew from HP.out) HoA.out HMB.out.1 hc5 hc6 (show MkS g _ _ _ _ 0 wr.drew from HK.out) (HE.out.drew))
          | (refine step_append_S int_one (by rfl) _ _ 55 3 (by rfl) _ 8 Try.underlying55 info_int (by rfl) w.heap.size vB ((placesN base s8 j).map Int.ofNat) (by rfl) HoB.out _ _ _ [(i : Int)] (by rfl) rfl (one_new int_one _ (i : Int) _) (by rw [HLQ.out]; simp; omega) (by rw [HLQ.out]; simp; omega) (by simp; omega) ?_; intro v1 w5 ho5 hg5 hat5; have hc5 := Chg.of_grown hg5; have hck5 : w5.cell? ⟨g, 2, none⟩ = some (.map (some mb)) := blk_cell (hc5.blk (show (wr.alloc (.cells #[.int .i64 i] 3)).drew.heap[g]? = _ from blk_alloc HK.out _) (fun e => HoB.out.ne (show (wr.alloc (.cells #[.int .i64 i] 3)).drew.heap[g]? = _ from blk_alloc HK.out _) (by decide) g e.symm rfl)) 2; obtain ⟨w6, hup, hpl, hc6, hs6⟩ := HbackB.out w5 v1 _ hc5 ho5 (by rcases hat5 with h | h; exact .inl h; exact .inr ⟨_, h, by simp⟩); obtain ⟨hk6, hx6, hu6⟩ := round_keeps (show PlacesAt w.heap.size mb (fun s => (placesN base s j).map Int.ofNat) (wr.alloc (.cells #[.int .i64 i] 3)).drew from HP.out.ext (Ext.alloc' _ _).drew) HoB.out HMB.out.1 hc5 hc6 (show MkS g _ _ _ _ 0 (wr.alloc (.cells #[.int .i64 i] 3)).drew from blk_alloc HK.out _) (HE.out.alloc _).drew))
        all_goals
          have HP6 : Hd (PlacesAt w.heap.size mb (fun s => (placesN base s (j + 1)).map Int.ofNat) w6) := ⟨by
            refine (congrArg (fun F => PlacesAt w.heap.size mb F w6) (funext fun z => ?_)).mp hpl
            have hj := HJ.out
            split
            · rename_i hz
              subst hz
              rw [placesN_hit (by rw [HM.out]; omega) (by rw [← HS8.out, hj]), if_pos (by rw [HQ.out]; exact hq3), List.map_append, hj]; rfl
            · rename_i hz
              rw [placesN_miss (fun e => hz (by rw [← HS8.out, hj]; exact e.2.symm))]⟩
          have HO6 : Hd (OwnB w.heap.size (.slice A3 k3 c3) (enc7 n) w6) := ⟨by first | exact hu6 _ _ HO.out | exact hu6 _ _ (HO.out.alloc _)⟩
          have HT6 : Hd (OwnB w.heap.size (.slice A1 k1 c1) (enc7 n) w6) := ⟨by first | exact hu6 _ _ HT.out | exact hu6 _ _ (HT.out.alloc _)⟩
          have HX6 := Hd.mk hx6
          have HK6 := Hd.mk hk6
          rename_i hheld
          clear hheld hk6 hx6 hu6 hs6 hc6 hpl hup hck5 hc5 hat5 hg5 ho5 hrunA hrunB
          go_wp2
          go_roundw
          case rel => exact ⟨i + 4, j + 1, by go_num, by omega, ⟨by have := HJ.out; omega⟩, HP6, HO6, HT6, HX6, HK6⟩
          case measure => simp [intOf]; omega
      · have HP6 : Hd (PlacesAt w.heap.size mb (fun s => (placesN base s (j + 1)).map Int.ofNat) wr) := ⟨by
          refine (congrArg (fun F => PlacesAt w.heap.size mb F wr) (funext fun z => ?_)).mp HP.out
          have hj := HJ.out
          by_cases hz : z = s8
          · subst hz
            rw [placesN_hit (by rw [HM.out]; omega) (by rw [← HS8.out, hj]), if_neg (by rw [HQ.out]; exact hq3)]
          · rw [placesN_miss (fun e => hz (by rw [← HS8.out, hj]; exact e.2.symm))]⟩
        go_wp2
        go_roundw
        case rel => exact ⟨i + 4, j + 1, by go_num, by omega, ⟨by have := HJ.out; omega⟩, HP6, HO, HT, HE, HK⟩
        case measure => simp [intOf]; omega
    · have HP6 : Hd (PlacesAt w.heap.size mb (fun s => (places base s).map Int.ofNat) wr) := ⟨by
        refine (congrArg (fun F => PlacesAt w.heap.size mb F wr) (funext fun z => ?_)).mp HP.out
        have hj := HJ.out
        rw [placesN_end (by rw [HM.out]; omega) (by rw [HM.out]; omega)]⟩
      have hgw := HMB.out.2
      have HO6 : Hd (Off g (.slice A3 k3 c3) (enc7 n) wr) := ⟨offT HO.out HK.out (by decide)⟩
      have HT6 : Hd (At (· ≠ g) (RowAt Ty.u8 A1 (enc7 n)) wr) := ⟨by obtain ⟨_, _, _, e, _, _, _, h⟩ := offT HT.out HK.out (by decide); injection e with e1; subst e1; exact h⟩
      clear HO HT HP HJ hgw
      obtain ⟨wo, rfl⟩ : ∃ wo : World, wo = wr := ⟨_, rfl⟩
      go_wp2
      clear him hlt
      go_loopw [11] (fun av wr => ∃ (at_ own ko co f : Nat) (Ao : Option Addr) (lo : List UInt8), av = .int .i64 at_ ∧ at_ ≤ n ∧ own ≤ at_ ∧ ko ≤ 9 + 28 * own ∧ ko ≤ co ∧ co ≤ 9223372036854775807 ∧ Hd (lo.length = ko) ∧ Hd (MkS g (.slice B m cb) (.slice A n c) (.map (some mb)) (.slice Ao ko co) own wr) ∧ Hd (At (· ≠ g) (RowAt Ty.u8 Ao lo) wr) ∧
        Hd (PlacesAt w.heap.size mb (fun s => (places base s).map Int.ofNat) wr) ∧ Hd (Ext w wr) ∧ Hd (At (· ≠ g) (RowAt Ty.u8 A1 (enc7 n)) wr) ∧ Hd (n < f + at_) ∧ Hd (makeLoop base t f at_ own lo = R)) (fun av _ => n - (intOf av).toNat)
      case atStart =>
        obtain ⟨Ao, ko, co, e, h1, h2, h3, h4⟩ := HO6.out
        injection e with e1 e2 e3
        subst e1; subst e2; subst e3
        exact ⟨0, 0, k3, c3, n + 1, A3, enc7 n, rfl, by omega, by omega, by have := HL3.out; have := (enc7_len n).1; omega, h2, h3, ⟨h1⟩, HK, ⟨h4⟩, HP6, HE, HT6, ⟨by omega⟩, HR0⟩
      case round =>
        obtain ⟨at_, own, ko, co, f, Ao, lo, rfl, hat, hown, hko, hkc, hcm, HLO, HK2, HLR, HP2, HE2, HT2, HFU, HG⟩ := hrel
        clear HP6 HO6 HT6
        have hgW := HMB.out.2
        have HBW : Hd (At (· ≠ g) (RowAt Ty.u8 B base) wr) := ⟨HB.out.off HE2.out hgW⟩
        have HAW : Hd (At (· ≠ g) (RowAt Ty.u8 A t) wr) := ⟨HA.out.off HE2.out hgW⟩
        clear hgW
        by_cases hlt : at_ < n
        · obtain ⟨f, rfl⟩ : ∃ f', f = f' + 1 := ⟨f - 1, by have := HFU.out; omega⟩
          have hstep := HG.out
          simp only [makeLoop] at hstep
          rw [if_neg (by rw [HN.out]; omega)] at hstep
          have hfits := longest_fits (b := base) (t := t) (at_ := at_) (by rw [HN.out]; omega)
          obtain ⟨fr, ln, hlo⟩ : ∃ fr ln, longestF base t at_ = (fr, ln) := ⟨_, _, rfl⟩
          rw [hlo] at hstep hfits
          obtain ⟨hf1, hf2, _⟩ := hfits
          rw [HM.out] at hf1
          rw [HN.out] at hf2
          simp only at hf1 hf2 hstep
          have HLG := Hd.mk hlo
          by_cases hz : ln = 0
          · rw [if_pos hz] at hstep
            have HS := Hd.mk hstep
            clear hstep hlo
            subst hz
            go_wp2_with (go_at_call 26; refine (longest_calls g w.heap.size mb B A m cb n c own at_ base t _ _ HK2.out HM.out (by omega) HBW.out.now HN.out (by omega) hnc hc' HAW.out.now (by omega) HP2.out).mono ?_; rintro e w7 ⟨he, hd⟩; rw [HLG.out] at he; obtain rfl := he; have HD7 := Hd.mk hd; clear hd)
            obtain ⟨q7, rfl⟩ := HD7.out
            go_roundw
            case rel => exact ⟨at_ + 1, own, ko, co, f, Ao, lo, by go_num, by omega, by omega, hko, hkc, hcm, HLO, ⟨HK2.out⟩, ⟨HLR.out⟩, ⟨HP2.out⟩, ⟨HE2.out.drewN _⟩, ⟨HT2.out⟩, ⟨by have := HFU.out; omega⟩, HS⟩
            case measure => simp [intOf]; omega
          · rw [if_neg hz] at hstep
            have HS := Hd.mk hstep
            clear hstep hlo
            have hln : 1 ≤ ln := by omega
            have HGW := Hd.mk HMB.out.2
            go_wp2_with (first
              | (go_at_call 26; refine (longest_calls g w.heap.size mb B A m cb n c own at_ base t _ _ HK2.out HM.out (by omega) HBW.out.now HN.out (by omega) hnc hc' HAW.out.now (by omega) HP2.out).mono ?_; rintro e w7 ⟨he, hd⟩; rw [HLG.out] at he; obtain rfl := he; obtain ⟨q7, rfl⟩ := hd; have hd := trivial; have HKd : Hd (MkS g (.slice B m cb) (.slice A n c) (.map (some mb)) (.slice Ao ko co) own (wr.drewN q7)) := ⟨HK2.out⟩; have HLd : Hd (At (· ≠ g) (RowAt Ty.u8 Ao lo) (wr.drewN q7)) := ⟨HLR.out⟩; have HAd : Hd (At (· ≠ g) (RowAt Ty.u8 A t) (wr.drewN q7)) := ⟨HAW.out⟩; have HD7 := Hd.mk hd; clear hd)
              | (go_at_call 27; refine (flush_calls g (.slice B m cb) (.map (some mb)) Ao A ko co n c own at_ t lo _ HKd.out HLO.out (by omega) hkc hcm HLd.out HN.out HAd.out hown (by omega) hnc (by omega) hc').mono ?_; rintro e w8 ⟨rfl, hc8, hx8⟩; obtain ⟨v8, hk8, A8, k8, c8, rfl, hl8, h81, h82, hr8⟩ := hx8; have e3 : w8.cell? ⟨g, 3, none⟩ = some (.slice A8 k8 c8) := blk_cell hk8 3; have hkl : k8 ≤ ko + 9 + (at_ - own) := (by have := flushF_len t lo own at_; have := HLO.out; omega); have HC8 := Hd.mk hc8; have HK8 := Hd.mk hk8; have HL8 := Hd.mk hl8; have HR8 := Hd.mk hr8; clear hc8 hk8 hl8 hr8)
              | (go_at_call 23; refine (encnum_calls A9 k9 c9 (flushF t lo own at_ ++ enc7 (2 * ln + 1)) (fr : Int) _ hl9.out (by omega) (HO9.out.rowAt bv_one) (by omega) (by omega)).mono ?_; rintro e w10 ⟨v10, rfl, ho, he⟩; rw [Int.toNat_natCast] at ho; obtain ⟨A10, k10, c10, rfl, hl10, h101, h102⟩ := ho.named; have hk10 := (HK9.out.ext he); have e3b : w10.cell? ⟨g, 3, none⟩ = some (.slice A8 k8 c8) := blk_cell hk10 3; have e4b : w10.cell? ⟨g, 4, none⟩ = some (.int .i64 at_) := blk_cell hk10 4; have f3b := blk_free hk10 3; have f4b := blk_free hk10 4; have HO10 := Hd.mk ho; have HE10 := Hd.mk he; have HK10 := Hd.mk hk10; clear ho he hk10)
              | (go_at_call 23; refine (encnum_calls A8 k8 c8 (flushF t lo own at_) (2 * (ln : Int) + 1) _ HL8.out (by omega) HR8.out.now (by omega) (by omega)).mono ?_; rintro e w9 ⟨v9, rfl, ho, he⟩; rw [show (2 * (ln : Int) + 1).toNat = 2 * ln + 1 by omega] at ho; obtain ⟨A9, k9, c9, rfl, hl9, h91, h92⟩ := ho.named; have hk9 : MkS g _ _ _ _ _ _ := (HK8.out.ext he); have hkl9 : k9 ≤ k8 + 9 := (by have h := hl9.out; rw [List.length_append, HL8.out] at h; have := (enc7_len (2 * ln + 1)).1; omega); have HO9 := Hd.mk ho; have HE9 := Hd.mk he; have HK9 := Hd.mk hk9; clear ho he hk9))
            go_roundw
            case rel =>
              have hkl10 : k10 ≤ k9 + 9 := by have h := hl10.out; rw [List.length_append, hl9.out] at h; have := (enc7_len fr).1; omega
              have hC : Chg (· = g) wr ((w10.setCell ⟨g, 3, none⟩ (.slice A10 k10 c10)).setCell ⟨g, 4, none⟩ (.int .i64 ((at_ : Int) + (ln : Int)))) :=
                (((((Chg.refl (· = g) wr).drewN q7).trans HC8.out (fun _ _ h => h)).ext HE9.out).ext HE10.out).set1 3 _ rfl |>.set1 4 _ rfl
              have hg9 : g < w9.heap.size := blk_lt HK9.out
              refine ⟨at_ + ln, at_ + ln, k10, c10, f, A10, flushF t lo own at_ ++ enc7 (2 * ln + 1) ++ enc7 fr, by go_num, hf2, by omega, by omega, h101, h102, hl10, ⟨?_⟩, ⟨?_⟩, ⟨HP2.out.far HK2.out (by decide) hC⟩, ⟨HE2.out.chg hC (fun b e => by subst e; exact HGW.out)⟩, ⟨HT2.out.off hC⟩, ⟨by have := HFU.out; omega⟩, HS⟩
              · have := blk_set (blk_set HK10.out 3 (.slice A10 k10 c10)) 4 (.int .i64 ((at_ : Int) + (ln : Int)))
                exact this
              · have := HO10.out.off (g := g) hg9
                exact this.off (((Chg.refl (· = g) w10).set1 3 _ rfl).set1 4 _ rfl)
            case measure => simp [intOf]; omega
        · obtain rfl : at_ = n := by omega
          have HGW := Hd.mk HMB.out.2
          have hR : flushF t lo own at_ = R := by rw [← HG.out, ← HN.out, makeLoop_end]
          have HRR := Hd.mk hR
          clear hR
          go_wp2_with (first
              | (go_at_call 27; refine (flush_calls g (.slice B m cb) (.map (some mb)) Ao A ko co at_ c own at_ t lo _ HK2.out HLO.out (by omega) hkc hcm HLR.out HN.out HAW.out hown (by omega) hnc (by omega) hc').mono ?_; rintro e w8 ⟨rfl, hc8, hx8⟩; obtain ⟨v8, hk8, A8, k8, c8, rfl, hl8, h81, h82, hr8⟩ := hx8; have ht8 := HT2.out.off hc8; have HC8 := Hd.mk hc8; have HK8 := Hd.mk hk8; have HL8 := Hd.mk hl8; have HR8 := Hd.mk hr8; have HT8 := Hd.mk ht8; clear hc8 hk8 hl8 hr8 ht8)
              | (go_at_call 23; refine (encnum_calls A1 k1 c1 (enc7 at_) (2 * (at_ : Int)) _ HL1.out (by omega) HT8.out.now (by omega) (by omega)).mono ?_; rintro e w9 ⟨v9, rfl, ho, he⟩; rw [show (2 * (at_ : Int)).toNat = 2 * at_ by omega] at ho; obtain ⟨A9, k9, c9, rfl, hl9, h91, h92⟩ := ho.named; have hk9 : MkS g _ _ _ _ _ _ := (HK8.out.ext he); have hkl9 : k9 ≤ 18 := (by have h := hl9.out; rw [List.length_append] at h; have := (enc7_len at_).1; have := (enc7_len (2 * at_)).1; omega); have HO9 := Hd.mk ho; have HE9 := Hd.mk he; have HK9 := Hd.mk hk9; clear ho he hk9)
              | (at_builtin; refine wpList_append_S bv_one rfl (.tmp 125) (.tmp 126) 22 5 rfl _ 1 Try.underlying22 info_u8 rfl w8.heap.size _ (enc7 at_ ++ enc7 (2 * at_)) rfl HO9.out _ _ _ t rfl HN.out ((HAW.out.off HC8.out).now.ext HE9.out) (by have := hl9.out; have := HN.out; omega) (by have := hl9.out; have := HN.out; omega) HE9.out.size ?_; intro v11 w11 ho hg hat; obtain ⟨A11, k11, c11, rfl, hl11, h111, h112⟩ := ho.named; have hg8 : g < w8.heap.size := blk_lt HK8.out; have hk11 : MkS g _ _ _ _ _ w11 := (Chg.of_grown hg).blk HK9.out (fun e => absurd (HO9.out.lt g e.symm).1 (by omega)); have e3 : w11.cell? ⟨g, 3, none⟩ = some (.slice A8 k8 c8) := blk_cell hk11 3; have hx11 : Ext w w11 := (((HE2.out.chg HC8.out (fun b e => by subst e; exact HGW.out)).trans HE9.out (fun _ _ h => h)).chg (Chg.of_grown hg) (fun b e => Nat.le_trans (Nat.le_trans HE2.out.size HC8.out.size) (HO9.out.lt b e.symm).1)); have HR11 : Hd (RowAt Ty.u8 A8 (flushF t lo own at_) w11) := ⟨HR8.out.now.ext (HE9.out.chg (Chg.of_grown hg) (fun b e => (HO9.out.lt b e.symm).1))⟩; have HO11 := Hd.mk ho; have HX11 := Hd.mk hx11; clear ho hg hat hk11 hx11))
          all_goals
            go_ret2
            have h1 := HL8.out
            have h2 := hl11.out
            rw [HRR.out] at h1
            refine ⟨HX11.out, ?_⟩
            have h3 := HF.out
            first
              | (rw [if_pos (by omega)] at h3
                 exact ⟨A11, k11, c11, rfl, by rw [h3]; exact h2, h111, h112, by rw [h3]; exact HO11.out.rowAt bv_one⟩)
              | (rw [if_neg (by omega)] at h3
                 exact ⟨A8, k8, c8, rfl, by rw [h3]; exact h1, h81, h82, by rw [h3, ← HRR.out]; exact HR11.out⟩)

/-- delta.Make -/
theorem make_calls (hn : t.length = n) (hnc : n ≤ c) (hc' : c ≤ 9223372036854775807) (hnm : n ≤ 1048576) (h : RowAt Ty.u8 A t w)
    (hm : base.length = m) (hcb : m ≤ cb) (hms : m ≤ 100000000) (hcb' : cb ≤ 9223372036854775807) (hB : RowAt Ty.u8 B base w) (hnil : B = none → cb = 0) (hx : ∃ z, w.cell? ⟨0, 0, none⟩ = some (.int .i64 z)) :
    Calls Try.prog 16 #[.slice B m cb, .slice A n c] w (MakePost w (makeF base t)) := by
  rcases Nat.eq_zero_or_pos n with h0 | h0
  · exact make_nil A B n m c cb base t w hn h0
  · rcases Int.lt_or_le (Lib.index base t) 0 with hi | hi
    · exact make_main A B n m c cb base t w hn hnc hc' hnm h h0 hm hcb hms hcb' hB hnil hx hi
    · exact make_found A B n m c cb base t w hn hnc hc' hnm h h0 hm hcb hms hcb' hB hnil hx hi
end
end Go.Proofs.Ytacpdkhbgommfaa
