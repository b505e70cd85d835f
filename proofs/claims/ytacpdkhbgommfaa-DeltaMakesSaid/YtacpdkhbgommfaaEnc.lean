/- Package enc: what its functions compute. -/
import Derived.Test.YtacpdkhbgommfaaRows
import Derived.Test.YtacpdkhbgommfaaBase
namespace Go.Proofs.Ytacpdkhbgommfaa
open Go.RowKit
attribute [local go_sem] eql_sl_nil neq_sl_nil
set_option linter.unusedVariables false
set_option linter.unusedSimpArgs false

theorem info_u8 : (Try.prog.info? 5).map (fun i => (i.zero, i.size, i.bytes)) = some (some (.int .u8 0), 1, 1) := by kernel_rfl
abbrev Bs := Sl Ty.u8
abbrev OwnB (base : Nat) (v : Value) (l : List UInt8) (w : World) : Prop := OwnS bv 5 base v l w

/-- slices.Clone of bytes: nil stays nil; else new memory. -/
theorem clone_u8 (A : Option Addr) (n c : Nat) (l : List UInt8) (w : World) (hn : l.length = n) (hb : n ≤ 140737488355328) (h : RowAt Ty.u8 A l w) :
    Calls Try.prog 25 #[.slice A n c] w fun e w' => ∃ v, e = .returned v ∧ OwnB w.heap.size v l w' ∧ Ext w w' ∧ (v = .slice none 0 0 ↔ A = none) := by
  have HR := Hd.mk h
  have HN := Hd.mk hn
  clear h hn
  cases A with
  | none =>
    have hl : l = [] := by
      rcases Nat.eq_zero_or_pos l.length with h0 | h0
      · exact List.eq_nil_of_length_eq_zero h0
      · obtain ⟨ad, h⟩ := HR.out.some_ h0
        cases h
    subst hl
    go_enter Try.func25, Try.ntmps25
    go_wp2
    go_ret
    exact ⟨_, rfl, OwnS.nil _ _ _ _, Chg.refl _ _, by simp⟩
  | some ad =>
    go_enter Try.func25, Try.ntmps25
    go_wp2_with (at_builtin; refine wpList_append_S bv_one rfl (.tmp 5) (.tmp 6) 22 5 rfl _ 1 Try.underlying22 info_u8 rfl w.heap.size _ [] rfl ?c1 (some ad) n c l rfl HN.out ?c2 ?c3 ?c4 ?c5 ?_)
    case c1 => exact OwnS.lit (enc := bv) w w.heap.size 5 [] (Nat.le_refl _) (by simp)
    case c2 => exact HR.out.ext (Ext.alloc' _ _)
    case c3 => have := HN.out; simp only [List.length_nil]; omega
    case c4 => have := HN.out; simp only [List.length_nil]; omega
    case c5 => simp
    intro v1 w1 ho hg hat
    have HO := Hd.mk ho
    have HG := Hd.mk hg
    have HA := Hd.mk hat
    clear ho hg hat
    go_wp2
    go_ret
    refine ⟨_, rfl, HO.out, ((Chg.refl _ w).alloc _).grown HG.out (fun k hk e => ?_), ?_⟩
    · have : w.heap.size = k := by simpa [Value.ownBlock] using e
      omega
    · have := HA.out
      simp only [Value.ownBlock] at this
      refine ⟨fun e => ?_, fun e => by cases e⟩
      subst e
      simp [Value.ownBlock] at this

/-- The reader at block g, of the blocks S: what is left, has it failed; its bytes lie in another block of S. -/
def RdS (S : Nat → Prop) (g : Nat) (l : List UInt8) (bad : Bool) (w : World) : Prop :=
  S g ∧ ∃ A c, w.heap[g]? = some (.cells #[.slice A l.length c, .bool bad] 60 (0, 0)) ∧ l.length ≤ c ∧ c ≤ 9223372036854775807 ∧ At (fun k => S k ∧ k ≠ g) (RowAt Ty.u8 A l) w

theorem RdS.chg {S T : Nat → Prop} {g : Nat} {l : List UInt8} {bad : Bool} {w w1 : World} (h : RdS S g l bad w) (hc : Chg T w w1) (hd : ∀ k, S k → ¬ T k) : RdS S g l bad w1 := by
  obtain ⟨hs, A, c, hg, h1, h2, h3⟩ := h
  exact ⟨hs, A, c, hc.blk hg (hd g hs), h1, h2, (h3.chg hc (fun k _ hk => hd k hk.1)).mono (fun k _ hk => hk.1)⟩
theorem RdS.mono {S T : Nat → Prop} {g : Nat} {l : List UInt8} {bad : Bool} {w : World} (h : RdS S g l bad w) (hd : ∀ k, S k → T k) : RdS T g l bad w := by
  obtain ⟨hs, A, c, hg, h1, h2, h3⟩ := h
  exact ⟨hd g hs, A, c, hg, h1, h2, h3.mono (fun k _ hk => ⟨hd k hk.1, hk.2⟩)⟩

/-- enc.Read -/
theorem read_calls (A : Option Addr) (n c : Nat) (l : List UInt8) (w : World) (hn : l.length = n) (hb : n ≤ 140737488355328) (h : RowAt Ty.u8 A l w) :
    Calls Try.prog 17 #[.slice A n c] w fun e w' => ∃ g, e = .returned (.pointer (some ⟨g, 0, none⟩)) ∧ RdS (fun k => w.heap.size ≤ k ∧ k < w'.heap.size) g l false w' ∧ Ext w w' := by
  have HR := Hd.mk h
  have HN := Hd.mk hn
  clear h hn
  go_enter Try.func17, Try.ntmps17
  go_wp2_with (go_at_call 25; refine (clone_u8 A n c l _ HN.out hb HR.out).mono ?_; rintro e w1 ⟨v, rfl, ho, he, hv⟩; obtain ⟨A1, c1, rfl, h1, h2⟩ := ho.form; have HO := Hd.mk ho; have HE := Hd.mk he; clear ho he hv)
  go_ret
  have hr : At (fun k => w.heap.size ≤ k ∧ k < w1.heap.size) (RowAt Ty.u8 A1 l) w1 := by
    intro w' ha
    refine RowAt.of_sc (fun j x hj => ?_)
    obtain ⟨ad, rfl, hc⟩ := HO.out.cells rfl j x hj
    obtain ⟨hb1, hb2⟩ := HO.out.lt ad.block rfl
    exact ⟨ad, rfl, cell_agr ha hc (by rw [add_block]; exact ⟨hb1, hb2⟩)⟩
  have hs := HE.out.size
  refine ⟨_, rfl, ⟨⟨hs, by simp⟩, A1, c1, heap_alloc_new _ _, h1, h2, ?_⟩, HE.out.alloc _⟩
  refine (hr.chg (Ext.alloc' _ _) (fun _ _ _ h => h)).mono (fun k _ hk => ⟨⟨hk.1.1, ?_⟩, by have := hk.2; omega⟩)
  have := hk.2
  simp only [World.size_alloc]
  omega

/-- (*Reader).Fail -/
theorem fail_calls (S : Nat → Prop) (g : Nat) (l : List UInt8) (bad : Bool) (w : World) (h : RdS S g l bad w) :
    Calls Try.prog 29 #[.pointer (some ⟨g, 0, none⟩)] w fun e w' => e = .returned (.tuple #[]) ∧ RdS S g [] true w' ∧ Chg (· = g) w w' := by
  obtain ⟨hs, A, c, hg, h1, h2, h3⟩ := h
  have c0 := (blk_cell hg 0).trans rfl
  have c1 := (blk_cell hg 1).trans rfl
  have f0 := blk_free hg 0
  have f1 := blk_free hg 1
  have HG := Hd.mk hg
  clear hg h3
  go_enter Try.func29, Try.ntmps29
  go_wp2
  go_end0
  refine ⟨rfl, ⟨hs, none, 0, ?_, by simp, by omega, fun w' _ => RowAt.nil _ _ _⟩, ?_⟩
  · exact blk_set (blk_set HG.out 0 _) 1 _
  · exact ((Chg.refl (· = g) w).set1 _ _ rfl).set1 _ _ rfl

/-- (*Reader).Good -/
theorem good_calls (S : Nat → Prop) (g : Nat) (l : List UInt8) (bad : Bool) (w : World) (h : RdS S g l bad w) :
    Calls Try.prog 19 #[.pointer (some ⟨g, 0, none⟩)] w fun e w' => e = .returned (.bool !bad) ∧ w = w' := by
  obtain ⟨hs, A, c, hg, h1, h2, h3⟩ := h
  have c1 := (blk_cell hg 1).trans rfl
  clear hg h3
  go_enter Try.func19, Try.ntmps19
  go_wp2
  go_ret
  exact ⟨rfl, rfl⟩

/-- (*Reader).Left -/
theorem left_calls (S : Nat → Prop) (g : Nat) (l : List UInt8) (bad : Bool) (w : World) (h : RdS S g l bad w) :
    Calls Try.prog 20 #[.pointer (some ⟨g, 0, none⟩)] w fun e w' => e = .returned (.int .i64 l.length) ∧ w = w' := by
  obtain ⟨hs, A, c, hg, h1, h2, h3⟩ := h
  have c0 := (blk_cell hg 0).trans rfl
  clear hg h3
  go_enter Try.func20, Try.ntmps20
  go_wp2
  go_ret
  exact ⟨rfl, rfl⟩

theorem RdS.took {S : Nat → Prop} {g : Nat} {l : List UInt8} {w : World} {A : Option Addr} {c n m c' : Nat} {A' : Option Addr} (hg : w.heap[g]? = some (.cells #[.slice A l.length c, .bool false] 60 (0, 0))) (h1 : l.length ≤ c) (h2 : c ≤ 9223372036854775807)
    (hs : S g) (h3 : At (fun k => S k ∧ k ≠ g) (RowAt Ty.u8 A l) w) (hn : n ≤ l.length) (hA : A' = if c = n then A else A.map (·.add n)) (hm : m = l.length - n) (hc : c' = c - n) :
    RowAt Ty.u8 A (l.take n) (w.setCell ⟨g, 0, none⟩ (.slice A' m c')) ∧ RdS S g (l.drop n) false (w.setCell ⟨g, 0, none⟩ (.slice A' m c')) ∧ Chg (· = g) w (w.setCell ⟨g, 0, none⟩ (.slice A' m c')) := by
  have hc1 : Chg (· = g) w (w.setCell ⟨g, 0, none⟩ (.slice A' m c')) := (Chg.refl _ w).set1 _ _ rfl
  have h4 := h3.chg hc1 (fun k _ hk => hk.2)
  have h5 := h4.mono (T := fun k => S k ∧ k ≠ g) (fun k _ hk => hk.1)
  refine ⟨h5.now.take n, ⟨hs, A', c', ?_, ?_, by omega, ?_⟩, hc1⟩
  · rw [List.length_drop, ← hm]; exact blk_set hg 0 _
  · rw [List.length_drop]; omega
  · refine h5.imp (fun w' hr => ?_)
    rw [hA]
    simpa [Ty.u8, Ty.sc] using hr.drop n c h1

/-- (*Reader).take where so many are there -/
theorem take_some (S : Nat → Prop) (g : Nat) (l : List UInt8) (n : Int) (w : World) (h : RdS S g l false w) (h0 : 0 ≤ n) (hn : n ≤ l.length) :
    Calls Try.prog 28 #[.pointer (some ⟨g, 0, none⟩), .int .i64 n] w fun e w' => ∃ A, e = .returned (.slice A n.toNat n.toNat) ∧ RowAt Ty.u8 A (l.take n.toNat) w' ∧ RdS S g (l.drop n.toNat) false w' ∧ Chg (· = g) w w' := by
  obtain ⟨n, rfl⟩ := Int.eq_ofNat_of_zero_le h0
  rw [Int.toNat_natCast]
  have hn' : n ≤ l.length := by omega
  clear hn h0
  obtain ⟨hs, A, c, hg, h1, h2, h3⟩ := h
  have c0 := (blk_cell hg 0).trans rfl
  have c1 := (blk_cell hg 1).trans rfl
  have f0 := blk_free hg 0
  have f1 := blk_free hg 1
  have HG := Hd.mk hg
  have H3 := Hd.mk h3
  clear hg h3
  go_enter Try.func28, Try.ntmps28
  go_wp2
  · go_ret
    exact ⟨_, rfl, RdS.took HG.out h1 h2 hs H3.out hn' (by rw [if_pos (by assumption)]) rfl (by omega)⟩
  · go_ret
    exact ⟨_, rfl, RdS.took HG.out h1 h2 hs H3.out hn' (by rw [if_neg (by assumption)]) rfl (by omega)⟩

/-- (*Reader).take where it has failed, or so many aren't there -/
theorem take_none (S : Nat → Prop) (g : Nat) (l : List UInt8) (bad : Bool) (n : Int) (w : World) (h : RdS S g l bad w) (hn : bad = true ∨ l.length < n) :
    Calls Try.prog 28 #[.pointer (some ⟨g, 0, none⟩), .int .i64 n] w fun e w' => e = .returned (.slice none 0 0) ∧ RdS S g [] true w' ∧ Chg (· = g) w w' := by
  have HR := Hd.mk h
  obtain ⟨hs, A, c, hg, h1, h2, h3⟩ := h
  have c0 := (blk_cell hg 0).trans rfl
  have c1 := (blk_cell hg 1).trans rfl
  clear hg h3
  cases bad with
  | true =>
    clear hn
    go_enter Try.func28, Try.ntmps28
    go_wp2_with (go_at_call 29; refine (fail_calls S g _ _ _ HR.out).mono ?_; rintro e w1 ⟨rfl, hr, hc⟩; have HR1 := Hd.mk hr; have HC := Hd.mk hc; clear hr hc)
    go_ret
    exact ⟨rfl, HR1.out, HC.out⟩
  | false =>
    have hn' : (l.length : Int) < n := by simpa using hn
    clear hn
    go_enter Try.func28, Try.ntmps28
    go_wp2_with (go_at_call 29; refine (fail_calls S g _ _ _ HR.out).mono ?_; rintro e w1 ⟨rfl, hr, hc⟩; have HR1 := Hd.mk hr; have HC := Hd.mk hc; clear hr hc)
    go_ret
    exact ⟨rfl, HR1.out, HC.out⟩


/-! ### a number, as the reader reads it -/
/-- (number, what is left) of bytes: u so far, shift so far. -/
def numGo (most : Int) : Nat → Nat → Nat → List UInt8 → Option (Nat × List UInt8)
  | 0, _, _, _ => none
  | _ + 1, _, _, [] => none
  | k + 1, u, sh, b :: r =>
    let u' := u + (b.toNat % 128) * 2 ^ sh
    if 127 < b.toNat then numGo most k u' (sh + 7) r
    else if 4611686018427387904 < u' ∨ most < (u' : Int) ∨ (b.toNat = 0 ∧ 0 < sh) then none else some (u', r)
/-- What Num reads: the number, what is left; none: it fails. -/
def num (most : Int) (l : List UInt8) : Option (Nat × List UInt8) := numGo most 9 0 0 l

theorem numGo_le {most : Int} : ∀ {k u sh : Nat} {l r : List UInt8} {n : Nat}, numGo most k u sh l = some (n, r) → (n : Int) ≤ most ∧ n ≤ 4611686018427387904
  | 0, _, _, _, _, _, h => by simp [numGo] at h
  | _ + 1, _, _, [], _, _, h => by simp [numGo] at h
  | k + 1, u, sh, b :: l, r, n, h => by
    simp only [numGo] at h
    split at h
    · exact numGo_le h
    · split at h
      · cases h
      · rename_i hn
        obtain ⟨rfl, rfl⟩ : _ ∧ _ := by simpa using h
        omega

/-- How Num ends. -/
def NumPost (S : Nat → Prop) (g : Nat) (o : Option (Nat × List UInt8)) (e : Ending) (w : World) : Prop :=
  match o with
  | none => e = .returned (.int .i64 0) ∧ RdS S g [] true w
  | some (n, r) => e = .returned (.int .i64 n) ∧ RdS S g r false w

/-- (*Reader).Num of one that has failed -/
theorem num_bad (S : Nat → Prop) (g : Nat) (l : List UInt8) (most : Int) (w : World) (h : RdS S g l true w) :
    Calls Try.prog 18 #[.pointer (some ⟨g, 0, none⟩), .int .i64 most] w fun e w' => Chg (· = g) w w' ∧ NumPost S g none e w' := by
  have HR := Hd.mk h
  clear h
  go_enter Try.func18, Try.ntmps18
  go_wp2
  go_loopw [5, 6] (fun u s wr => s = .int .i64 0 ∧ wr = w) (fun _ _ _ => 0)
  case atStart => exact ⟨rfl, rfl⟩
  case round =>
    obtain ⟨rfl, rfl⟩ := hrel
    go_wp2_with (go_at_call 28; refine (take_none S g _ _ _ _ HR.out (.inl rfl)).mono ?_; rintro e w1 ⟨rfl, hr, hc⟩; have HR1 := Hd.mk hr; have HC := Hd.mk hc; clear hr hc)
    go_ret
    exact ⟨HC.out, rfl, HR1.out⟩

theorem num_bits (uu ss : Nat) (b : UInt8) (h : uu < 2 ^ ss) (hs : ss ≤ 56) :
    bits .or .u64 (uu : Int) (IntKind.u64.wrap (IntKind.u64.wrap (bits .and .u8 (b.toNat : Int) 127) * 2 ^ ss)) = ((uu + (b.toNat % 128) * 2 ^ ss : Nat) : Int) := by
  have hb := b.toNat_lt
  have e1 : bits .and .u8 (b.toNat : Int) 127 = ((b.toNat % 128 : Nat) : Int) := by
    have := u8_and_nat b.toNat 127 (by omega) (by omega)
    rw [Nat.and_two_pow_sub_one_eq_mod b.toNat 7] at this
    exact this
  have h1 : b.toNat % 128 < 128 := Nat.mod_lt _ (by decide)
  have hp : 2 ^ ss ≤ 2 ^ 56 := Nat.pow_le_pow_right (by decide) hs
  have hm : (b.toNat % 128) * 2 ^ ss ≤ 127 * 2 ^ 56 := Nat.mul_le_mul (by omega) hp
  have e2 : IntKind.u64.wrap ((b.toNat % 128 : Nat) : Int) = ((b.toNat % 128 : Nat) : Int) := by rw [IntKind.wrap_u64]; omega
  have e3 : ((b.toNat % 128 : Nat) : Int) * 2 ^ ss = (((b.toNat % 128) * 2 ^ ss : Nat) : Int) := by push_cast; rfl
  have e4 : IntKind.u64.wrap (((b.toNat % 128) * 2 ^ ss : Nat) : Int) = (((b.toNat % 128) * 2 ^ ss : Nat) : Int) := by rw [IntKind.wrap_u64]; omega
  rw [e1, e2, e3, e4, bits_or_u64_nat _ _ (by omega) (by omega)]
  congr 1
  rw [Nat.or_comm, Nat.mul_comm, ← Nat.two_pow_add_eq_or_of_lt h, Nat.add_comm]

/-- One byte of a number. -/
theorem numGo_more {most : Int} {k u sh : Nat} {b : UInt8} {r : List UInt8} (h : 127 < b.toNat) : numGo most (k + 1) u sh (b :: r) = numGo most k (u + (b.toNat % 128) * 2 ^ sh) (sh + 7) r := by
  simp only [numGo]; rw [if_pos h]
theorem numGo_fail {most : Int} {k u sh : Nat} {b : UInt8} {r : List UInt8} (h : b.toNat ≤ 127) (hc : 4611686018427387904 < u + (b.toNat % 128) * 2 ^ sh ∨ most < ((u + (b.toNat % 128) * 2 ^ sh : Nat) : Int) ∨ (b.toNat = 0 ∧ 0 < sh)) : numGo most (k + 1) u sh (b :: r) = none := by
  simp only [numGo]; rw [if_neg (by omega), if_pos hc]
theorem numGo_done {most : Int} {k u sh : Nat} {b : UInt8} {r : List UInt8} (h : b.toNat ≤ 127) (hc : ¬ (4611686018427387904 < u + (b.toNat % 128) * 2 ^ sh ∨ most < ((u + (b.toNat % 128) * 2 ^ sh : Nat) : Int) ∨ (b.toNat = 0 ∧ 0 < sh))) : numGo most (k + 1) u sh (b :: r) = some (u + (b.toNat % 128) * 2 ^ sh, r) := by
  simp only [numGo]; rw [if_neg (by omega), if_neg hc]

/-- (*Reader).Num -/
theorem num_good (S : Nat → Prop) (g : Nat) (l : List UInt8) (most : Int) (w : World) (h : RdS S g l false w) (hm0 : -9223372036854775808 ≤ most) (hm : most ≤ 9223372036854775807) :
    Calls Try.prog 18 #[.pointer (some ⟨g, 0, none⟩), .int .i64 most] w fun e w' => Chg (· = g) w w' ∧ NumPost S g (num most l) e w' := by
  have HR := Hd.mk h
  clear h
  go_enter Try.func18, Try.ntmps18
  go_wp2
  go_loopw [5, 6] (fun u s wr => ∃ (uu ss : Nat) (l' : List UInt8), u = .int .u64 uu ∧ s = .int .i64 ss ∧ ss ≤ 63 ∧ uu < 9223372036854775808 ∧ Hd (∃ i, ss = 7 * i ∧ uu < 2 ^ ss ∧ numGo most (9 - i) uu ss l' = num most l) ∧ Hd (RdS S g l' false wr) ∧ Hd (Chg (· = g) w wr)) (fun _ s _ => 63 - (intOf s).toNat)
  case atStart => exact ⟨0, 0, l, rfl, rfl, by omega, by omega, ⟨0, rfl, by decide, rfl⟩, HR, ⟨Chg.refl _ _⟩⟩
  case round =>
    obtain ⟨uu, ss, l', rfl, rfl, h63, hu, HI, HR1, HC1⟩ := hrel
    by_cases hlt : ss < 63
    · obtain ⟨k, HI⟩ : ∃ k, Hd (ss = 7 * (8 - k) ∧ k ≤ 8 ∧ uu < 2 ^ ss ∧ numGo most (k + 1) uu ss l' = num most l) := by
        obtain ⟨i, hi, h1, h2⟩ := HI.out
        exact ⟨8 - i, by omega, by omega, h1, by rw [show 8 - i + 1 = 9 - i by omega]; exact h2⟩
      cases l' with
      | nil =>
        go_wp2_with (go_at_call 28; refine (take_none S g _ _ _ _ HR1.out (.inr (by simp))).mono ?_; rintro e w1 ⟨rfl, hr, hc⟩; have HR2 := Hd.mk hr; have HC2 := Hd.mk hc; clear hr hc)
        go_ret
        refine ⟨HC1.out.trans HC2.out (fun _ _ h => h), ?_⟩
        rw [← HI.out.2.2.2]
        exact ⟨rfl, HR2.out⟩
      | cons b r =>
        have hbits := num_bits uu ss b HI.out.2.2.1 (by have := HI.out; omega)
        obtain ⟨u', hu'⟩ : ∃ u', u' = uu + (b.toNat % 128) * 2 ^ ss := ⟨_, rfl⟩
        rw [← hu'] at hbits
        have HU := Hd.mk hu'
        clear hu'
        have hlu : u' < 9223372036854775808 := by
          have h1 := HI.out.2.2.1
          have h2 : b.toNat % 128 < 128 := Nat.mod_lt _ (by decide)
          have h3 : 2 ^ ss ≤ 2 ^ 56 := Nat.pow_le_pow_right (by decide) (by have := HI.out; omega)
          have h4 : (b.toNat % 128) * 2 ^ ss ≤ 127 * 2 ^ ss := Nat.mul_le_mul_right _ (by omega)
          have := HU.out
          omega
        by_cases h127 : 127 < b.toNat
        · have h127' : (127 : Int) < (b.toNat : Int) := by omega
          go_wp2_with (go_at_call 28; refine (take_some S g _ _ _ HR1.out (by omega) (by simp; omega)).mono ?_; rintro e w1 ⟨A, rfl, hb, hr, hc⟩; obtain ⟨ad, rfl, cb⟩ := RowAt.sc hb 0 b rfl; rw [add_zero'] at cb; have HR2 := Hd.mk hr; have HC2 := Hd.mk hc; clear hb hr hc; simp only [bv] at cb)
          go_roundw
          case rel =>
            refine ⟨u', ss + 7, r, rfl, by go_num, by have := HI.out; omega, hlu, ⟨8 - k + 1, by have := HI.out; omega, ?_, ?_⟩, HR2, ⟨HC1.out.trans HC2.out (fun _ _ h => h)⟩⟩
            · have h1 := HI.out.2.2.1
              have h2 : b.toNat % 128 < 128 := Nat.mod_lt _ (by decide)
              have h4 : (b.toNat % 128) * 2 ^ ss ≤ 127 * 2 ^ ss := Nat.mul_le_mul_right _ (by omega)
              have h5 : 2 ^ (ss + 7) = 128 * 2 ^ ss := by rw [Nat.pow_add]; omega
              have := HU.out
              omega
            · rw [← HI.out.2.2.2, numGo_more h127, ← HU.out, show 9 - (8 - k + 1) = k by have := HI.out; omega]
          case measure => simp [intOf]; omega
        · have h127' : (b.toNat : Int) ≤ 127 := by omega
          go_wp2_with (first | (go_at_call 28; refine (take_some S g _ _ _ HR1.out (by omega) (by simp; omega)).mono ?_; rintro e w1 ⟨A, rfl, hb, hr, hc⟩; obtain ⟨ad, rfl, cb⟩ := RowAt.sc hb 0 b rfl; rw [add_zero'] at cb; have HR2 := Hd.mk hr; have HC2 := Hd.mk hc; clear hb hr hc; simp only [bv] at cb) | (go_at_call 29; refine (fail_calls S g _ _ _ HR2.out).mono ?_; rintro e w2 ⟨rfl, hr, hc⟩; have HR3 := Hd.mk hr; have HC3 := Hd.mk hc; clear hr hc))
          all_goals go_ret
          all_goals first
            | exact ⟨(HC1.out.trans HC2.out (fun _ _ h => h)).trans HC3.out (fun _ _ h => h), by rw [← HI.out.2.2.2, numGo_fail (by omega) (by rw [← HU.out]; omega)]; exact ⟨rfl, HR3.out⟩⟩
            | exact ⟨HC1.out.trans HC2.out (fun _ _ h => h), by rw [← HI.out.2.2.2, numGo_done (by omega) (by rw [← HU.out]; omega), ← HU.out]; exact ⟨rfl, HR2.out⟩⟩
    · go_wp2_with (go_at_call 29; refine (fail_calls S g _ _ _ HR1.out).mono ?_; rintro e w2 ⟨rfl, hr, hc⟩; have HR3 := Hd.mk hr; have HC3 := Hd.mk hc; clear hr hc)
      go_ret
      obtain ⟨i, hi, _, he⟩ := HI.out
      exact ⟨HC1.out.trans HC3.out (fun _ _ h => h), by rw [← he, show 9 - i = 0 by omega]; exact ⟨rfl, HR3.out⟩⟩

theorem num_none (S : Nat → Prop) (g : Nat) (l : List UInt8) (most : Int) (w : World) (h : RdS S g l false w) (hm0 : -9223372036854775808 ≤ most) (hm : most ≤ 9223372036854775807) (hn : num most l = none) :
    Calls Try.prog 18 #[.pointer (some ⟨g, 0, none⟩), .int .i64 most] w fun e w' => e = .returned (.int .i64 0) ∧ RdS S g [] true w' ∧ Chg (· = g) w w' :=
  (num_good S g l most w h hm0 hm).mono fun e w' h => by
    rw [hn] at h
    exact ⟨h.2.1, h.2.2, h.1⟩
theorem num_some (S : Nat → Prop) (g : Nat) (l : List UInt8) (most : Int) (w : World) (h : RdS S g l false w) (hm0 : -9223372036854775808 ≤ most) (hm : most ≤ 9223372036854775807) (n : Nat) (r : List UInt8) (hn : num most l = some (n, r)) :
    Calls Try.prog 18 #[.pointer (some ⟨g, 0, none⟩), .int .i64 most] w fun e w' => e = .returned (.int .i64 n) ∧ RdS S g r false w' ∧ Chg (· = g) w w' :=
  (num_good S g l most w h hm0 hm).mono fun e w' h => by
    rw [hn] at h
    exact ⟨h.2.1, h.2.2, h.1⟩
theorem numGo_drop {most : Int} : ∀ {k u sh : Nat} {l r : List UInt8} {n : Nat}, numGo most k u sh l = some (n, r) → ∃ b p, l = b :: p ++ r
  | 0, _, _, _, _, _, h => by simp [numGo] at h
  | _ + 1, _, _, [], _, _, h => by simp [numGo] at h
  | k + 1, u, sh, b :: l, r, n, h => by
    simp only [numGo] at h
    split at h
    · obtain ⟨c, p, hp⟩ := numGo_drop h
      exact ⟨b, c :: p, by rw [hp]; rfl⟩
    · split at h
      · cases h
      · obtain ⟨_, rfl⟩ : _ ∧ _ := by simpa using h
        exact ⟨b, [], rfl⟩
theorem num_drop {most : Int} {l r : List UInt8} {n : Nat} (h : num most l = some (n, r)) : ∃ b p, l = b :: p ++ r := numGo_drop h
theorem num_le {most : Int} {l r : List UInt8} {n : Nat} (h : num most l = some (n, r)) : (n : Int) ≤ most ∧ n ≤ 4611686018427387904 := numGo_le h
theorem num_nil (most : Int) : num most [] = none := rfl

end Go.Proofs.Ytacpdkhbgommfaa
