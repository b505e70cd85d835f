/- The walks of the laws DeltaShort, DeltaSelf, DeltaMakes, DeltaCuts. -/
import Derived.Test.YtacpdkhbgommfaaLawMake
namespace Go.Proofs.Ytacpdkhbgommfaa
open Go.RowKit
attribute [local go_sem] eql_sl_nil neq_sl_nil
set_option linter.unusedVariables false
set_option linter.unusedSimpArgs false

section
variable {ops : Array Oper} {rest : List Oper} {o : Oper} {a : Act} {Q : Exit → Act → World → Prop}
/-- append(v, xs...) of bytes, v the call's own. -/
theorem wpList_append_B {w W : World} (hgd : o.guard = none) (s x : Operand) (ho : o.op = .call { callee := .builtin .append, args := #[s, x], argTypes := #[22, 22] })
    (hx : Ext w W) {v : Value} {l : List UInt8} (hown : OwnB w.heap.size v l W) (hs : a.eval s = v) {nl : Nat} {A : Option Addr} {n c : Nat} {m : List UInt8} (hl : l.length = nl) (hn : m.length = n) (hb : nl + n ≤ 140737488355328) (hax : a.eval x = .slice A n c) (hr : RowAt Ty.u8 A m W)
    (h : ∀ A' k c' W', nl + n ≤ k → k ≤ nl + n → k ≤ c' → c' ≤ 9223372036854775807 → (l ++ m).length = k → OwnB w.heap.size (.slice A' k c') (l ++ m) W' → Chg (fun b => some b = v.ownBlock) W W' → Ext w W' → wpList Try.prog ops Q rest (a.put o.dst (.slice A' k c')) W') : wpList Try.prog ops Q (o :: rest) a W := by
  refine wpList_append_S bv_one hgd s x 22 5 ho _ 1 Try.underlying22 info_u8 rfl w.heap.size v l hs hown A n c m hax hn hr (by omega) (by omega) hx.size ?_
  intro v' W' ho' hg hat
  have hk : (l ++ m).length = nl + n := by rw [List.length_append, hl, hn]
  obtain ⟨A', c', rfl, h1, h2⟩ := ho'.form' hk
  exact h A' _ c' W' (Nat.le_refl _) (Nat.le_refl _) h1 h2 hk ho' (Chg.of_grown hg) (hx.chg (Chg.of_grown hg) (fun b e => (OwnS.lt hown b e.symm).1))
end

theorem own_nil {e base n c : Nat} {l : List UInt8} {w : World} (h : OwnS bv e base (.slice none n c) l w) : c = 0 := by
  rcases h.2 with ⟨h1, _⟩ | ⟨g, cap, cur, h1, _⟩
  · injection h1
  · cases h1

set_option maxHeartbeats 8000000 in
set_option maxRecDepth 100000 in
theorem short_calls (A0 A1 A2 : Option Addr) (n0 n1 n2 c0 c1 c2 : Nat) (a b c : List UInt8) (w : World) (hx : IntCell w) (hn0 : a.length = n0) (h0 : RowAt Ty.u8 A0 a w) (hn1 : b.length = n1) (hc1 : n1 ≤ c1) (hm1 : c1 ≤ 9223372036854775807) (h1 : RowAt Ty.u8 A1 b w) (hn2 : c.length = n2) (h2 : RowAt Ty.u8 A2 c w)
    (hb0 : n0 ≤ 140737488351232) (hb1 : n1 ≤ 140737488351232) (hb2 : n2 ≤ 140737488351232) :
    Calls Try.prog 5 #[.slice A0 n0 c0, .slice A1 n1 c1, .slice A2 n2 c2] w fun e w' => e = .returned (.bool true) ∧ Ext w w' := by
  have HXC := Hd.mk hx
  have HN0 := Hd.mk hn0
  have HN1 := Hd.mk hn1
  have HN2 := Hd.mk hn2
  have HA0 := Hd.mk h0
  have HA1 := Hd.mk h1
  have HA2 := Hd.mk h2
  clear hx hn0 hn1 hn2 h0 h1 h2
  by_cases hl : 20000 < n0 + n1 + n2
  · go_enter Try.func5, Try.ntmps5
    go_wp2_with (first
      | (go_at_call 9; refine (applying_calls _).mono ?_; rintro e w1 ⟨rfl, he⟩; have HX1 := Hd.mk he; clear he)
      | (go_at_call 15; refine (making_calls _ (HXC.out.ext HX1.out)).mono ?_; rintro e w2 ⟨rfl, he⟩; have hx := HX1.out.then he; have HX2 := Hd.mk hx; have HE2 := Hd.mk he; clear hx he))
    go_ret
    exact ⟨rfl, HX2.out⟩
  · have hl' : n0 + n1 + n2 ≤ 20000 := by omega
    have HSH : Hd ((makeF ([] ++ a ++ b ++ c) b).length ≤ 16) := ⟨by
      rw [List.nil_append]
      exact make_short (by rw [HN1.out]; omega) (by simp only [List.length_append, HN0.out, HN1.out, HN2.out]; omega) (.inl (index_has a b c))⟩
    go_enter Try.func5, Try.ntmps5
    go_wp2_with (first
      | (go_at_call 9; refine (applying_calls _).mono ?_; rintro e w1 ⟨rfl, he⟩; have HX1 := Hd.mk he; clear he)
      | (go_at_call 15; refine (making_calls _ (HXC.out.ext HX1.out)).mono ?_; rintro e w2 ⟨rfl, he⟩; have hx := HX1.out.then he; have hol : OwnB w.heap.size (.slice (some ⟨w2.heap.size, 0, none⟩) 0 0) [] (w2.alloc (.cells #[] 5)) := OwnS.lit (enc := bv) w2 w.heap.size 5 [] hx.size (by simp); have HOL := Hd.mk hol; clear hol; have HX2 := Hd.mk hx; have HE2 := Hd.mk he; clear hx he)
      | (go_at_call 12; refine (same_true A7 A1 n1 n1 c7 c1 b _ HN1.out HN1.out (by omega) HR7.out (HA1.out.ext (HX6.out.trans HE7.out (fun _ _ h => h)))).mono ?_; rintro e w8 ⟨rfl, hd⟩; have HD8 := Hd.mk hd; clear hd)
      | (go_at_call 10; refine (apply_for HL6.out h63 h64 (by omega) HR6.out HL5.out hkc5 hcm5 ((OwnS.rowAt bv_one HO5.out).ext HE6.out) HA6.out HN1.out).mono ?_; rintro e w7 ⟨he, A7, c7, rfl, h71, h72, HR7⟩; have HE7 := Hd.mk he; clear he)
      | (go_at_call 16; refine (make_for HN1.out hc1 hm1 (by omega) (HA1.out.ext HX5.out) HL5.out hkc5 (by omega) hcm5 (OwnS.rowAt bv_one HO5.out) hnil5 (HXC.out.ext HX5.out)).mono ?_; rintro e w6 ⟨he, A6, k6, c6, rfl, h61, h62, h63, h64, HL6, HR6, HA6, HS6⟩; have hx := HX5.out.trans he (fun _ _ h => h); have hk6 : k6 ≤ 16 := (by have h := HSH.out; rw [HL6.out] at h; exact h); have hkd : decide ((k6 : Int) ≤ 16) = true := (by simp; omega); have HX6 := Hd.mk hx; have HE6 := Hd.mk he; clear hx he)
      | (at_builtin; refine wpList_append_B rfl (.tmp 31) (.tmp 32) rfl (HX4.out) (HO4.out) rfl (l := [] ++ a ++ b) (nl := k4) (m := c) (n := n2) HL4.out HN2.out (by omega) rfl (HA2.out.ext HX4.out) ?_; intro A5 k5 c5 w5 hk1 hk2 hkc hcm hl ho hc hx; have HL5 := Hd.mk hl; have HO5 := Hd.mk ho; have HC5 := Hd.mk hc; have HX5 := Hd.mk hx; clear hl ho hc hx; have hk51 := hk1; have hk52 := hk2; have hkc5 := hkc; have hcm5 := hcm; clear hk1 hk2 hkc hcm; have hnil5 : A5 = none → c5 = 0 := (fun e => by subst e; exact own_nil HO5.out))
      | (at_builtin; refine wpList_append_B rfl (.tmp 29) (.tmp 30) rfl (HX3.out) (HO3.out) rfl (l := [] ++ a) (nl := k3) (m := b) (n := n1) HL3.out HN1.out (by omega) rfl (HA1.out.ext HX3.out) ?_; intro A4 k4 c4 w4 hk1 hk2 hkc hcm hl ho hc hx; have HL4 := Hd.mk hl; have HO4 := Hd.mk ho; have HC4 := Hd.mk hc; have HX4 := Hd.mk hx; clear hl ho hc hx; have hk41 := hk1; have hk42 := hk2; clear hk1 hk2 hkc hcm)
      | (at_builtin; refine wpList_append_B rfl (.tmp 27) (.tmp 28) rfl (HX2.out.alloc _) (HOL.out) rfl (l := []) (nl := 0) (m := a) (n := n0) rfl HN0.out (by omega) rfl (HA0.out.ext (HX2.out.alloc _)) ?_; intro A3 k3 c3 w3 hk1 hk2 hkc hcm hl ho hc hx; have HL3 := Hd.mk hl; have HO3 := Hd.mk ho; have HC3 := Hd.mk hc; have HX3 := Hd.mk hx; clear hl ho hc hx; have hk31 := hk1; have hk32 := hk2; clear hk1 hk2 hkc hcm))
    go_ret
    exact ⟨rfl, (HX6.out.trans HE7.out (fun _ _ h => h)).trans HD8.out.ext (fun _ _ h => h)⟩

theorem take_eq_step {l r : List UInt8} {k : Nat} {x y : UInt8} (h : l.take k = r.take k) (hx : l[k]? = some x) (hy : r[k]? = some y) (he : x = y) : l.take (k + 1) = r.take (k + 1) := by
  rw [take_succ hx, take_succ hy, h, he]
set_option maxHeartbeats 8000000 in
/-- pollardref01.SameBytes of two that differ -/
theorem same_false (A B : Option Addr) (n m c d : Nat) (a b : List UInt8) (w : World) (hn : a.length = n) (hm : b.length = m) (hc : n ≤ 9223372036854775807) (hc2 : m ≤ 9223372036854775807) (hA : RowAt Ty.u8 A a w) (hB : RowAt Ty.u8 B b w) (hne : a ≠ b) :
    Calls Try.prog 12 #[.slice A n c, .slice B m d] w fun e w' => e = .returned (.bool false) ∧ Drawn w w' := by
  have HA := Hd.mk hA
  have HB := Hd.mk hB
  have HN := Hd.mk hn
  have HM := Hd.mk hm
  have HNE := Hd.mk hne
  clear hA hB hn hm hne
  by_cases hnm : n = m
  · subst hnm
    go_enter Try.func12, Try.ntmps12
    go_wp2
    go_loopw [5] (fun i wr => ∃ k : Nat, k ≤ n ∧ i = .int .i64 k ∧ Hd (a.take k = b.take k) ∧ Drawn w wr) (fun i _ => n - (intOf i).toNat)
    case atStart => exact ⟨0, Nat.zero_le _, rfl, ⟨rfl⟩, Drawn.refl _⟩
    case round =>
      obtain ⟨k, hk, rfl, HT, HW⟩ := hrel
      by_cases hlt : k < n
      · obtain ⟨x, hx⟩ : ∃ x, a[k]? = some x := ⟨a[k]'(by have := HN.out; omega), List.getElem?_eq_getElem _⟩
        obtain ⟨y, hy⟩ : ∃ y, b[k]? = some y := ⟨b[k]'(by have := HM.out; omega), List.getElem?_eq_getElem _⟩
        obtain ⟨g, o, rfl, hcell⟩ := (HW.row HA.out).open_ (by have := HN.out; omega)
        obtain ⟨g2, o2, rfl, hcell2⟩ := (HW.row HB.out).open_ (by have := HM.out; omega)
        have c1 := hcell k x hx
        have c2 := hcell2 k y hy
        simp only [bv] at c1 c2
        have h0 : (0 : Int) ≤ (k : Int) := by omega
        have h1 : (k : Int) < (n : Int) := by omega
        by_cases hxy : x = y
        · have HT2 := Hd.mk (take_eq_step HT.out hx hy hxy)
          subst hxy
          clear hcell hcell2 hx hy
          go_wp2_with fail
          go_quiet (fail)
          go_wp2_with fail
          go_roundw
          case rel => exact ⟨k + 1, by omega, by go_num, HT2, HW.then _⟩
          case measure => simp [intOf]; omega
        · have d3 : ((x.toNat : Int) == (y.toNat : Int)) = false := by simp; intro h; exact hxy (UInt8.toNat_inj.1 (by omega))
          have d4 : ((x.toNat : Int) != (y.toNat : Int)) = true := by simp; intro h; exact hxy (UInt8.toNat_inj.1 (by omega))
          clear hcell hcell2 hx hy hxy
          go_wp2_with fail
          go_quiet (fail)
          go_wp2_with fail
          go_ret
          exact ⟨rfl, HW.then _⟩
      · exfalso
        have h := HT.out
        rw [List.take_of_length_le (by have := HN.out; omega), List.take_of_length_le (by have := HM.out; omega)] at h
        exact HNE.out h
  · have d1 : ((n : Int) == (m : Int)) = false := by simp; omega
    have d2 : ((n : Int) != (m : Int)) = true := by simp; omega
    go_enter Try.func12, Try.ntmps12
    go_wp2
    go_ret
    exact ⟨rfl, Drawn.refl _⟩

theorem make_two {base d t : List UInt8} (h : applyF base d = .ok t) (ht : 0 < t.length) : 2 ≤ d.length := by
  unfold applyF at h
  split at h
  · cases h
  · rename_i told r hn
    obtain ⟨b, p, hp⟩ := num_drop hn
    cases r with
    | nil =>
      simp only [applyGo, if_true] at h
      split at h
      · injection h with h; subst h; simp at ht
      · cases h
    | cons x r => rw [hp]; simp; omega

set_option maxHeartbeats 8000000 in
set_option maxRecDepth 100000 in
theorem makes_calls (A0 A1 : Option Addr) (n0 n1 c0 c1 : Nat) (a b : List UInt8) (w : World) (hx : IntCell w) (hn0 : a.length = n0) (hc0 : n0 ≤ c0) (hm0 : c0 ≤ 9223372036854775807) (h0 : RowAt Ty.u8 A0 a w) (hnil : A0 = none → c0 = 0) (hn1 : b.length = n1) (hc1 : n1 ≤ c1) (hm1 : c1 ≤ 9223372036854775807) (h1 : RowAt Ty.u8 A1 b w) :
    Calls Try.prog 7 #[.slice A0 n0 c0, .slice A1 n1 c1] w fun e w' => e = .returned (.bool true) ∧ Ext w w' := by
  have HXC := Hd.mk hx
  have HN0 := Hd.mk hn0
  have HN1 := Hd.mk hn1
  have HA0 := Hd.mk h0
  have HA1 := Hd.mk h1
  clear hx hn0 hn1 h0 h1
  by_cases hl : 20000 < n0 ∨ 20000 < n1
  · by_cases hl0 : 20000 < n0
    all_goals
      have hl2 : 20000 < n0 ∨ 20000 < n1 := hl
      clear hl
      try (have hl1 : 20000 < n1 := by omega)
      clear hl2
      go_enter Try.func7, Try.ntmps7
      go_wp2_with (first
        | (go_at_call 9; refine (applying_calls _).mono ?_; rintro e w1 ⟨rfl, he⟩; have HX1 := Hd.mk he; clear he)
        | (go_at_call 15; refine (making_calls _ (HXC.out.ext HX1.out)).mono ?_; rintro e w2 ⟨rfl, he⟩; have hx := HX1.out.then he; have HX2 := Hd.mk hx; have HE2 := Hd.mk he; clear hx he))
      go_ret
      exact ⟨rfl, HX2.out⟩
  · have hl0 : n0 ≤ 20000 := by omega
    have hl1 : n1 ≤ 20000 := by omega
    clear hl
    obtain ⟨ka, hka⟩ : ∃ k : ByteArray, (⟨a.toArray⟩ : ByteArray) = k := ⟨_, rfl⟩
    obtain ⟨kb, hkb⟩ : ∃ k : ByteArray, (⟨b.toArray⟩ : ByteArray) = k := ⟨_, rfl⟩
    have hks0 : ka.size ≤ 20000 := by rw [← hka]; simp [ByteArray.size, HN0.out]; exact hl0
    have hks1 : kb.size ≤ 20000 := by rw [← hkb]; simp [ByteArray.size, HN1.out]; exact hl1
    have HKA := Hd.mk hka
    have HKB := Hd.mk hkb
    have hstr : ∀ W, Ext w W → (convert 22 9 (.slice A0 n0 c0)).run Try.prog W = .ok (.string ka) W ∧ (convert 22 9 (.slice A1 n1 c1)).run Try.prog W = .ok (.string kb) W := fun W he =>
      ⟨by rw [← hka]; exact run_string (P := Try.prog) W 22 5 9 Try.underlying22 Try.underlying5 Try.underlying9 (HA0.out.ext he) n0 c0 HN0.out, by rw [← hkb]; exact run_string (P := Try.prog) W 22 5 9 Try.underlying22 Try.underlying5 Try.underlying9 (HA1.out.ext he) n1 c1 HN1.out⟩
    have HSTR := Hd.mk hstr
    clear hka hkb hstr
    go_enter Try.func7, Try.ntmps7
    go_wp2_with (first
      | (go_at_call 9; refine (applying_calls _).mono ?_; rintro e w1 ⟨rfl, he⟩; have HX1 := Hd.mk he; clear he)
      | (go_at_call 15; refine (making_calls _ (HXC.out.ext HX1.out)).mono ?_; rintro e w2 ⟨rfl, he⟩; have hx := HX1.out.then he; obtain ⟨hs0, hs1⟩ := HSTR.out w2 hx; have HX2 := Hd.mk hx; have HE2 := Hd.mk he; clear hx he)
      | (go_at_call 12; refine (same_true A3 A7 k3 k7 c3 c7 (makeF a b) _ HL3.out HL7.out (by omega) (HR3.out.ext HX39.out) (HR7.out.ext HX79.out)).mono ?_; rintro e w10 ⟨rfl, hd⟩; have hd := HX9.out.trans hd.ext (fun _ _ h => h); obtain ⟨hs0, hs1⟩ := HSTR.out w10 hd; have HX10 := Hd.mk hd; clear hd)
      | (go_at_call 12; refine (same_true A4 A1 n1 n1 c4 c1 b _ HN1.out HN1.out (by omega) (HR4.out.ext HX48.out) (HA1.out.ext HX8.out)).mono ?_; rintro e w9 ⟨rfl, hd⟩; have hx := HX8.out.trans hd.ext (fun _ _ h => h); have h39 := HX38.out.trans hd.ext (fun _ _ h => h); have h79 := HX78.out.trans hd.ext (fun _ _ h => h); clear hd; have HX9 := Hd.mk hx; have HX39 := Hd.mk h39; have HX79 := Hd.mk h79; clear hx h39 h79)
      | (go_at_call 14; refine (size_calls A3 k3 c3 (makeF a b) _ HL3.out (by omega) (HR3.out.ext HX37.out)).mono ?_; rintro e w8 ⟨he, hp⟩; rw [HS3.out] at hp; obtain rfl := hp; have hx := HX7.out.trans he (fun _ _ h => h); have h38 := HX37.out.trans he (fun _ _ h => h); have h48 := HX47.out.trans he (fun _ _ h => h); have h78 : Ext w7 w8 := he; clear he; have HX8 := Hd.mk hx; have HX38 := Hd.mk h38; have HX48 := Hd.mk h48; have HX78 := Hd.mk h78; clear hx h38 h48 h78)
      | (go_at_call 16; refine (make_for (base := a) (t := b) HL6.out hkc6 hcm6 (by omega) (OwnS.rowAt bv_one HO6.out) HL5.out hkc5 (by omega) hcm5 (OwnS.rowAt bv_one HO56.out) hnil5 (HXC.out.ext HX6.out)).mono ?_; rintro e w7 ⟨he, A7, k7, c7, rfl, h71, h72, h73, h74, HL7, HR7, HA7, HS7⟩; have hx := HX6.out.trans he (fun _ _ h => h); have h37 := HX36.out.trans he (fun _ _ h => h); have h47 := HX46.out.trans he (fun _ _ h => h); clear he; have HX7 := Hd.mk hx; have HX37 := Hd.mk h37; have HX47 := Hd.mk h47; clear hx h37 h47)
      | (at_builtin; refine wpList_append_B rfl (.tmp 49) (.tmp 50) rfl (HX5.out.alloc _) (HOL2.out) rfl (l := []) (nl := 0) (m := b) (n := n1) rfl HN1.out (by omega) rfl (HA1.out.ext (HX5.out.alloc _)) ?_; intro A6 k6 c6 w6 hk1 hk2 hkc hcm hl ho hc hx; have HL6 := Hd.mk hl; have HO6 := Hd.mk ho; have HC6 := Hd.mk hc; have HX6 := Hd.mk hx; clear hl ho hc hx; have hk61 := hk1; have hk62 := hk2; have hkc6 := hkc; have hcm6 := hcm; clear hk1 hk2 hkc hcm; have ho56 : OwnB w.heap.size (.slice A5 k5 c5) ([] ++ a) w6 := OwnS.chg (OwnS.alloc HO5.out (.cells #[] 5)) HC6.out (fun k hk e => by have := (OwnS.lt HO5.out k hk).2; simp [Value.ownBlock] at e; omega); have HO56 := Hd.mk ho56; have h46 : Ext w4 w6 := (HX45.out.alloc _).chg HC6.out (fun b e => by simp [Value.ownBlock] at e; have := HX45.out.size; omega); have h36 : Ext w3 w6 := HX34.out.trans h46 (fun _ _ h => h); have HX46 := Hd.mk h46; have HX36 := Hd.mk h36; clear ho56 h46 h36)
      | (at_builtin; refine wpList_append_B rfl (.tmp 46) (.tmp 47) rfl (HX4.out.alloc _) (HOL.out) rfl (l := []) (nl := 0) (m := a) (n := n0) rfl HN0.out (by omega) rfl (HA0.out.ext (HX4.out.alloc _)) ?_; intro A5 k5 c5 w5 hk1 hk2 hkc hcm hl ho hc hx; have HL5 := Hd.mk hl; have HO5 := Hd.mk ho; have HC5 := Hd.mk hc; have HX5 := Hd.mk hx; clear hl ho hc hx; have hk51 := hk1; have hk52 := hk2; have hkc5 := hkc; have hcm5 := hcm; clear hk1 hk2 hkc hcm; have hnil5 : A5 = none → c5 = 0 := (fun e => by subst e; exact own_nil HO5.out); have h45 : Ext w4 w5 := ((Chg.refl _ w4).alloc (.cells #[] 5)).chg HC5.out (fun b e => by simp [Value.ownBlock] at e; omega); have HX45 := Hd.mk h45; have hol2 : OwnB w.heap.size (.slice (some ⟨w5.heap.size, 0, none⟩) 0 0) [] (w5.alloc (.cells #[] 5)) := OwnS.lit (enc := bv) w5 w.heap.size 5 [] HX5.out.size (by simp); have HOL2 := Hd.mk hol2; clear h45 hol2)
      | (go_at_call 10; refine (apply_for HL3.out h33 h34 (by omega) HR3.out HN0.out hc0 hm0 (HA0.out.ext HX3.out) HA3.out HN1.out).mono ?_; rintro e w4 ⟨he, A4, c4, rfl, h41, h42, HR4⟩; have hx := HX3.out.trans he (fun _ _ h => h); have h34x : Ext w3 w4 := he; have hol : OwnB w.heap.size (.slice (some ⟨w4.heap.size, 0, none⟩) 0 0) [] (w4.alloc (.cells #[] 5)) := OwnS.lit (enc := bv) w4 w.heap.size 5 [] hx.size (by simp); have HOL := Hd.mk hol; clear hol he; have HX4 := Hd.mk hx; have HX34 := Hd.mk h34x; clear hx h34x)
      | (go_at_call 16; refine (make_for HN1.out hc1 hm1 (by omega) (HA1.out.ext HX2.out) HN0.out hc0 (by omega) hm0 (HA0.out.ext HX2.out) hnil (HXC.out.ext HX2.out)).mono ?_; rintro e w3 ⟨he, A3, k3, c3, rfl, h31, h32, h33, h34, HL3, HR3, HA3, HS3⟩; have hx := HX2.out.trans he (fun _ _ h => h); have hkd : decide ((k3 : Int) ≤ (n1 : Int) + 16) = true := (by simp; omega); clear he; have HX3 := Hd.mk hx; clear hx))
    go_ret
    exact ⟨rfl, HX10.out⟩
end Go.Proofs.Ytacpdkhbgommfaa
