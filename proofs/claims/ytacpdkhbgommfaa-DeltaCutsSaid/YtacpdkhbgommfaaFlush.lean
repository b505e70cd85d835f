/- delta's flush and longest. -/
import Derived.Test.YtacpdkhbgommfaaEncNum
import Derived.Deep.RegionLaw
import Derived.Deep.DrawnRows
import Derived.Deep.AppendLies
import Derived.Maps.OwnRows
namespace Go.Proofs.Ytacpdkhbgommfaa
open Go.RowKit
attribute [local go_sem] eql_sl_nil neq_sl_nil
attribute [local go_sem ↓] Go.wp_at_zero Go.wp_at_succ
set_option linter.unusedVariables false
set_option linter.unusedSimpArgs false

/-- wpList_append_S at a step of a region that draws. -/
theorem step_append_S {P : Program} {ops : Array Oper} {o : Oper} {a : Act} {K : Act → World → Prop} {Q : Exit → Act → World → Prop} {E : Prop} {α : Type} {enc : α → Value} (h1 : ∀ x, (enc x).oneCell' = true) {w : World} (hgd : o.guard = none) (s x : Operand) (t e : TypeId)
    (ho : o.op = .call { callee := .builtin .append, args := #[s, x], argTypes := #[t, t] })
    (z : Value) (bytes : Nat) (ht : P.underlying t = some (.slice e))
    (hinfo : (P.info? e).map (fun i => (i.zero, i.size, i.bytes)) = some (some z, 1, bytes)) (hz : z.cells.size = 1)
    (base : Nat) (v : Value) (l : List α) (hs : a.eval s = v) (hown : OwnS enc e base v l w) (A : Option Addr) (n c : Nat) (m : List α) (hx : a.eval x = .slice A n c) (hn : m.length = n) (hr : RowAt (Ty.sc enc h1) A m w)
    (hbytes : (l.length + m.length) * bytes ≤ 140737488355328) (h63 : l.length + m.length ≤ 9223372036854775807) (hbase : base ≤ w.heap.size)
    (h : ∀ v' w', OwnS enc e base v' (l ++ m) w' → w.grownBy w' v.ownBlock → (v'.ownBlock = v.ownBlock ∨ v'.ownBlock = some w.heap.size) → K (a.put o.dst v') w') :
    if Region.wanted o (yielded ops a.tmps) = true then Oper.wp P o a w K Q else E := by
  have hw : Region.wanted o (yielded ops a.tmps) = true := by simp [Region.wanted, hgd]
  rw [if_pos hw]
  subst hn
  obtain ⟨v', w', hrun, hown', hg, hat⟩ := run_append_S (P := P) h1 w base t o.type e z bytes ht hinfo hz v l hown A c m hr hbytes h63 hbase
  unfold Oper.wp execOp
  simp only [ho, resolve, invoke, builtin, Sem.run_bind, Sem.run_pure, Result.andThen_ok, List.map_toArray, List.map_cons, List.map_nil, hs, hx, hrun]
  exact h v' w' hown' hg hat

/-- What a maker's block holds. -/
def MkS (g : Nat) (vb vt vm vo : Value) (own : Nat) (w : World) : Prop := w.heap[g]? = some (.cells #[vb, vt, vm, vo, .int .i64 own] 54 (0, 0))
/-- A slice of bytes that stays readable while block g is written. -/
def Off (g : Nat) (v : Value) (l : List UInt8) (w : World) : Prop := ∃ A k c, v = .slice A k c ∧ l.length = k ∧ k ≤ c ∧ c ≤ 9223372036854775807 ∧ At (· ≠ g) (RowAt Ty.u8 A l) w

theorem OwnS.off {e base n c g : Nat} {A : Option Addr} {l : List UInt8} {w : World} (h : OwnS bv e base (.slice A n c) l w) (hg : g < base) : At (· ≠ g) (RowAt Ty.u8 A l) w := fun w' ha => by
  have h' : OwnS bv e base (.slice A n c) l w' := h.move (fun k hk => ha k (by have := (h.lt k hk).1; omega) (h.lt k hk).2)
  exact h'.rowAt bv_one
theorem At.off {g : Nat} {P : World → Prop} {w w1 : World} (h : At (· ≠ g) P w) (hc : Chg (· = g) w w1) : At (· ≠ g) P w1 := (h.chg hc (fun k _ h e => h e)).mono (fun _ _ h => h.1)
theorem OwnS.Off {e base g : Nat} {v : Value} {l : List UInt8} {w : World} (h : OwnS bv e base v l w) (hg : g < base) : Off g v l w := by
  obtain ⟨A, c, rfl, h1, h2⟩ := h.form
  exact ⟨A, _, c, rfl, rfl, h1, h2, h.off hg⟩
theorem Off.off {g : Nat} {v : Value} {l : List UInt8} {w w1 : World} (h : Off g v l w) (hc : Chg (· = g) w w1) : Off g v l w1 := by
  obtain ⟨A, k, c, h0, h1, h2, h3, h4⟩ := h
  exact ⟨A, k, c, h0, h1, h2, h3, h4.off hc⟩
/-- What flush leaves told. -/
def flushF (t lo : List UInt8) (own at_ : Nat) : List UInt8 := if own < at_ then lo ++ enc7 (2 * (at_ - own)) ++ (t.drop own).take (at_ - own) else lo
def FlushPost (g : Nat) (vb vt vm : Value) (l : List UInt8) (at_ : Nat) (w w' : World) : Prop := Chg (· = g) w w' ∧ ∃ vo, MkS g vb vt vm vo at_ w' ∧ Off g vo l w'

set_option maxHeartbeats 8000000 in
set_option maxRecDepth 100000 in
/-- (*maker).flush -/
theorem flush_calls (g : Nat) (vb vm : Value) (A B : Option Addr) (k c n d own at_ : Nat) (t lo : List UInt8) (w : World) (hg : MkS g vb (.slice B n d) vm (.slice A k c) own w)
    (hk : lo.length = k) (hkm : k ≤ 100000000000) (hkc : k ≤ c) (hcm : c ≤ 9223372036854775807) (hA : At (· ≠ g) (RowAt Ty.u8 A lo) w) (hn : t.length = n) (hB : At (· ≠ g) (RowAt Ty.u8 B t) w) (h1 : own ≤ at_) (h2 : at_ ≤ n) (h3 : n ≤ d) (h4 : n ≤ 100000000) (h5 : d ≤ 9223372036854775807) :
    Calls Try.prog 27 #[.pointer (some ⟨g, 0, none⟩), .int .i64 at_] w fun e w' => e = .returned (.tuple #[]) ∧ FlushPost g vb (.slice B n d) vm (flushF t lo own at_) at_ w w' := by
  have c1 : w.cell? ⟨g, 1, none⟩ = some (.slice B n d) := blk_cell hg 1
  have c3 : w.cell? ⟨g, 3, none⟩ = some (.slice A k c) := blk_cell hg 3
  have c4 : w.cell? ⟨g, 4, none⟩ = some (.int .i64 own) := blk_cell hg 4
  have f3 := blk_free hg 3
  have f4 := blk_free hg 4
  have HG := Hd.mk hg
  have HA := Hd.mk hA
  have HB := Hd.mk hB
  have HK := Hd.mk hk
  have HN := Hd.mk hn
  clear hg hA hB hk hn
  have b1 : (0 : Int) ≤ (own : Int) := Int.natCast_nonneg _
  have b2 : (own : Int) ≤ (at_ : Int) := by omega
  have b3 : (at_ : Int) ≤ (d : Int) := by omega
  by_cases hlt : own < at_
  · obtain ⟨ad, rfl⟩ := HB.out.now.some_ (by rw [HN.out]; omega)
    have HT : Hd (At (· ≠ g) (RowAt Ty.u8 (some (ad.add own)) ((t.drop own).take (at_ - own))) w) := ⟨HB.out.imp (fun _ h => (RowAt.from_ h own).take (at_ - own))⟩
    have HTL : Hd (((t.drop own).take (at_ - own)).length = at_ - own) := ⟨by rw [List.length_take, List.length_drop, HN.out]; omega⟩
    have hgl := blk_lt HG.out
    obtain ⟨q, hq⟩ : ∃ q, at_ - own = q := ⟨_, rfl⟩
    have hw1 : IntKind.i64.wrap ((at_ : Int) - (own : Int)) = (q : Int) := by rw [IntKind.wrap_i64]; omega
    have hw2 : IntKind.i64.wrap (2 * (q : Int)) = 2 * (q : Int) := by rw [IntKind.wrap_i64]; omega
    have hdn : ¬ d = own := by omega
    have hq2 : q ≤ 100000000 := by omega
    rw [hq] at HT HTL
    go_enter Try.func27, Try.ntmps27
    go_wp2_with fail
    go_region_law (first
        | (refine step_append_S bv_one (by rfl) _ _ 22 5 (by rfl) _ 1 Try.underlying22 info_u8 (by rfl) w.heap.size v (lo ++ enc7 (2 * (q : Int)).toNat) (by rfl) ho _ _ _ ((t.drop own).take q) (by rfl) HTL.out (HT.out.now.ext he) (by have := HK.out; have := HTL.out; have := (enc7_len (2 * (q : Int)).toNat).1; simp only [List.length_append]; omega) (by have := HK.out; have := HTL.out; have := (enc7_len (2 * (q : Int)).toNat).1; simp only [List.length_append]; omega) he.size ?_; intro v1 w5 ho5 hg5 hat5; obtain ⟨z, hz⟩ : ∃ z, (lo ++ enc7 (2 * (q : Int)).toNat ++ (t.drop own).take q).length = z := ⟨_, rfl⟩; have HZ := Hd.mk hz; obtain ⟨A5, c5, rfl, h51, h52⟩ := ho5.form' hz; clear hz; have hng : ¬ (some g = v.ownBlock) := (fun e => absurd (show w.heap.size ≤ g from (ho.lt g e.symm).1) (by omega)); have hx := Chg.of_grown hg5; have c1b := hx.cell (he.cell c1 (fun h => h)) hng; have c3b := hx.cell (he.cell c3 (fun h => h)) hng; have c4b := hx.cell (he.cell c4 (fun h => h)) hng; have f3b := blk_free (hx.blk (he.blk HG.out (fun h => h)) hng) 3; have f4b := blk_free (hx.blk (he.blk HG.out (fun h => h)) hng) 4)
        | (go_simp; go_at_call 23; refine (encnum_calls A k c lo (2 * (q : Int)) w.drew HK.out (by omega) (show RowAt Ty.u8 A lo w.drew from HA.out.now) (by omega) (by omega)).mono ?_; rintro e w1 ⟨v, rfl, ho, he⟩; have he : Ext w w1 := ⟨he.os, he.tape, he.output, he.size, he.block⟩; have c1a := he.cell c1 (fun h => h); have c4a := he.cell c4 (fun h => h)))
    all_goals go_wp2
    all_goals
      go_end0
      refine ⟨rfl, ?_, .slice A5 z c5, ?_, ?_⟩
      · exact (((he.chg hx (fun b e => (ho.lt b e.symm).1)).mono (T := (· = g)) (fun _ _ h => h.elim)).set1 3 _ rfl).set1 4 _ rfl
      · exact blk_set (blk_set (hx.blk (he.blk HG.out (fun h => h)) hng) 3 _) 4 _
      · have hz : flushF t lo own at_ = lo ++ enc7 (2 * (q : Int)).toNat ++ (t.drop own).take q := by
          unfold flushF
          rw [if_pos hlt, hq, show (2 * (q : Int)).toNat = 2 * q by omega]
        rw [hz]
        have h0 : Off g (.slice A5 z c5) (lo ++ enc7 (2 * (q : Int)).toNat ++ (t.drop own).take q) w5 := ho5.Off (by omega)
        exact h0.off (((Chg.refl (· = g) _).set1 3 _ rfl).set1 4 _ rfl)
  · go_enter Try.func27, Try.ntmps27
    go_wp2
    go_end0
    obtain rfl : own = at_ := by omega
    refine ⟨rfl, (Chg.refl (· = g) _).set1 4 _ rfl, .slice A k c, blk_set HG.out 4 _, A, k, c, rfl, ?_, hkc, hcm, ?_⟩
    · unfold flushF; rw [if_neg hlt, HK.out]
    · unfold flushF; rw [if_neg hlt]; exact HA.out.off ((Chg.refl (· = g) _).set1 4 _ rfl)

end Go.Proofs.Ytacpdkhbgommfaa
