/- court.pay: an order's fee and its number; court.act of a Send. -/
import Derived.Test.YtonhmomofpeamaaGreatDoorSubmit
namespace Go.Proofs.YtonhmomofpeamaaGreatDoor
open Go.RowKit
attribute [local irreducible] Tryz.zeroCells59
/-- A court with its accounts, and an order in a block of the call's own. -/
structure PayW (w W : World) (B cb tb hb hc nb nc : Nat) (sh sn : List Value) (book : Nat) (least height : Int) (bonds pool events : Value) (has non : List Int) (kept : Int) (x : List Value) : Prop where
  court : CourtBox W cb tb book least height bonds pool events
  till : TillAt W tb hb hc nb nc sh sn has non kept
  tx : TxIn W B x
  keep : Keeps (fun k => k = tb ∨ k = hb ∨ k = nb) w W
  size : B < W.heap.size
  old : w.heap.size ≤ B
section
variable {w W : World} {B cb tb hb hc nb nc : Nat} {sh sn : List Value} {book : Nat} {least height : Int} {bonds pool events : Value} {has non : List Int} {kept : Int} {x : List Value}
theorem PayW.drew (h : PayW w W B cb tb hb hc nb nc sh sn book least height bonds pool events has non kept x) : PayW w W.drew B cb tb hb hc nb nc sh sn book least height bonds pool events has non kept x :=
  ⟨⟨h.court.box⟩, h.till.drew, h.tx, h.keep.drew, h.size, h.old⟩
theorem PayW.after {W' : World} {has' non' : List Int} {kept' : Int} (h : PayW w W B cb tb hb hc nb nc sh sn book least height bonds pool events has non kept x) (T : TillAt W' tb hb hc nb nc sh sn has' non' kept')
    (k : Keeps (fun k => k = tb ∨ k = hb ∨ k = nb) W W') (h1 : cb ≠ tb ∧ cb ≠ hb ∧ cb ≠ nb) (h2 : B ≠ tb ∧ B ≠ hb ∧ B ≠ nb) : PayW w W' B cb tb hb hc nb nc sh sn book least height bonds pool events has' non' kept' x :=
  ⟨h.court.keeps k (by rintro (h | h | h) <;> simp_all), T, (k.block B h.size (by rintro (h | h | h) <;> simp_all)).trans h.tx, h.keep.trans k, Nat.lt_of_lt_of_le h.size k.size, h.old⟩
end
set_option maxHeartbeats 1000000 in
theorem pay_ok (w : World) (cb tb hb hc nb nc : Nat) (sh sn : List Value) (book : Nat) (least height : Int) (bonds pool events : Value) (has non : List Int) (kept : Int) (x : List Value) (kind nonce fee to_ amount bond : Int) (from_ last : Nat) (y z : Int)
    (C : CourtBox w cb tb book least height bonds pool events) (T : TillAt w tb hb hc nb nc sh sn has non kept) (X : TxNil x kind from_ nonce fee to_ amount bond) (hcb : cb ≠ tb ∧ cb ≠ hb ∧ cb ≠ nb)
    (hl : has.length = last + 1) (hf : from_ < last) (hf' : from_ < has.length) (hfn : from_ < non.length) (hll : last < has.length) (hy : has[from_] = y) (hz : has[last] = z) (hno : non[from_] = nonce) (hn0 : 0 ≤ nonce) (hn1 : nonce + 1 ≤ 18446744073709551615)
    (hfee0 : 0 ≤ fee) (hfee : fee ≤ y) (hy2 : y ≤ 18446744073709551615) (hk0 : 0 ≤ kept) (hk1 : kept + fee ≤ 18446744073709551615) (hz0 : 0 ≤ z) (hz1 : z + fee ≤ 18446744073709551615) :
    Calls Tryz.prog 36 #[.pointer (some ⟨cb, 0, none⟩), .agg x.toArray] w fun e w' => e = .returned (.int .i64 0) ∧
      CourtBox w' cb tb book least height bonds pool events ∧ TillAt w' tb hb hc nb nc sh sn ((has.set from_ (y - fee)).set last (z + fee)) (non.set from_ (nonce + 1)) kept ∧ Keeps (fun k => k = tb ∨ k = hb ∨ k = nb) w w' := by
  have HH : ∀ W : World, W = w.alloc (.cells x.toArray 59) → PayW w W w.heap.size cb tb hb hc nb nc sh sn book least height bonds pool events has non kept x := fun W hW => by
    subst hW
    exact ⟨C.keeps (S := fun _ => False) ((Keeps.refl _ _).alloc _) id, T.keeps (S := fun _ => False) ((Keeps.refl _ _).alloc _) id id id, heap_alloc_new w _, (Keeps.refl _ _).alloc _, by simp, Nat.le_refl _⟩
  have hB : w.heap.size ≠ tb ∧ w.heap.size ≠ hb ∧ w.heap.size ≠ nb := by
    have h1 := lt_of_block T.box
    have h2 := lt_of_block T.bhas
    have h3 := lt_of_block T.bnon
    omega
  have KB := Lib.hid hB
  have KC := Lib.hid hcb
  have HX := Lib.hid X
  have Hy := Lib.hid hy
  have Hz := Lib.hid hz
  have HZ2 : Hid ((has.set from_ (y - fee))[last]'(by simpa using hll) = z) := by show (has.set from_ (y - fee))[last]'(by simpa using hll) = z; rw [List.getElem_set_ne (by omega)]; exact hz
  have Hno := Lib.hid hno
  have HL := Lib.hid hl
  have HHH := Lib.hid HH
  have hsm := T.small
  clear HH C T X hB hcb hy hz hno
  go_enter Tryz.func36, Tryz.ntmps36
  go_upto_region 1 with (fail)
  generalize hWd : w.alloc (.cells x.toArray 59) = W
  have hS := HHH.out W hWd.symm
  clear hWd HHH
  have HS := Lib.hid hS
  clear hS
  generalize hB0 : w.heap.size = B at *
  have HB := Lib.hid hB0
  clear hB0 hl
  (with_reducible refine region_plan (fun V => PayW w V B cb tb hb hc nb nc sh sn book least height bonds pool events has non kept x) 100 [(0, true), (1, true), (2, true), (3, true), (4, true), (5, true), (7, true), (8, true), (6, false), (9, true)] ?_ ?_ ?_ ?_ ?_ ?_ ?_)
  · kernel_rfl
  · kernel_rfl
  · exact rfl
  · kernel_rfl
  · intro c a d v w h; cases d <;> exact h
  · exact HS.out.drew
  intro W1 hW1 K0 hK0
  have hS1 : PayW w W1 B cb tb hb hc nb nc sh sn book least height bonds pool events has non kept x := hW1 ▸ HS.out.drew
  clear hW1 HS
  have HS := Lib.hid hS1
  clear hS1
  iterate 3 (refine plan_pure (v := ?_) rfl rfl (fun _ => ?_) ?_; rotate_left; (go_simp; with_reducible rfl); simp only [List.getElem_toArray, List.getElem_cons_succ, List.getElem_cons_zero, Act.put, List.setIfInBounds_toArray, List.set_cons_zero, List.set_cons_succ])
  (refine plan_load (v := ?_) rfl (by kernel_rfl) rfl (fun _ hS => ?_) ?_; rotate_left; (have c0 := hS.court.c0; go_simp; with_reducible rfl); simp only [List.getElem_toArray, List.getElem_cons_succ, List.getElem_cons_zero, Act.put, List.setIfInBounds_toArray, List.set_cons_zero, List.set_cons_succ])
  (refine plan_pure (v := ?_) rfl rfl (fun _ => ?_) ?_; rotate_left; (go_simp; with_reducible rfl); simp only [List.getElem_toArray, List.getElem_cons_succ, List.getElem_cons_zero, Act.put, List.setIfInBounds_toArray, List.set_cons_zero, List.set_cons_succ])
  (refine plan_load (v := ?_) rfl (by kernel_rfl) rfl (fun _ hS => ?_) ?_; rotate_left; (have x1 := hS.tx.cell HX.out.c1; go_simp; with_reducible rfl); simp only [List.getElem_toArray, List.getElem_cons_succ, List.getElem_cons_zero, Act.put, List.setIfInBounds_toArray, List.set_cons_zero, List.set_cons_succ])
  (refine plan_pure (v := ?_) rfl rfl (fun _ => ?_) ?_; rotate_left; (go_simp; with_reducible rfl); simp only [List.getElem_toArray, List.getElem_cons_succ, List.getElem_cons_zero, Act.put, List.setIfInBounds_toArray, List.set_cons_zero, List.set_cons_succ])
  (refine plan_load (v := ?_) rfl (by kernel_rfl) rfl (fun _ hS => ?_) ?_; rotate_left; (have x3 := hS.tx.cell HX.out.c3; go_simp; with_reducible rfl); simp only [List.getElem_toArray, List.getElem_cons_succ, List.getElem_cons_zero, Act.put, List.setIfInBounds_toArray, List.set_cons_zero, List.set_cons_succ])
  have hd1 : decide (y < fee) = false := by simp; omega
  refine plan_do rfl ?_
  intro K1 hK1
  have HK1 := Lib.hid hK1
  clear hK1
  simp only [List.getElem_toArray, List.getElem_cons_succ, List.getElem_cons_zero]
  go_wp2_with (go_at_call 30; refine (till_has HS.out.till from_ hf').mono ?_; rintro e V ⟨rfl, rfl⟩)
  rw [Hy.out]
  refine HK1.out _ _ (Or.inr (Or.inr HS.out)) ?_
  clear HK1 K1
  (refine plan_pure (v := ?_) rfl rfl (fun _ => ?_) ?_; rotate_left; (go_simp; with_reducible rfl); simp only [List.getElem_toArray, List.getElem_cons_succ, List.getElem_cons_zero, Act.put, List.setIfInBounds_toArray, List.set_cons_zero, List.set_cons_succ])
  refine plan_nil ?_
  refine hK0 _ _ ?_
  clear hK0 K0
  go_wp2_with fail
  (with_reducible refine region_plan (fun V => PayW w V B cb tb hb hc nb nc sh sn book least height bonds pool events has non kept x) 8 [(0, true), (1, true), (2, true), (3, true), (4, true), (5, true), (6, true), (7, true), (8, false), (9, true)] ?_ ?_ ?_ ?_ ?_ ?_ ?_)
  · kernel_rfl
  · kernel_rfl
  · exact rfl
  · kernel_rfl
  · intro c a d v w h; cases d <;> exact h
  · exact HS.out.drew
  intro W2 hW2 K0 hK0
  have hS2 : PayW w W2 B cb tb hb hc nb nc sh sn book least height bonds pool events has non kept x := hW2 ▸ HS.out.drew
  clear hW2 HS
  have HS := Lib.hid hS2
  clear hS2
  iterate 3 (refine plan_pure (v := ?_) rfl rfl (fun _ => ?_) ?_; rotate_left; (go_simp; with_reducible rfl); simp only [List.getElem_toArray, List.getElem_cons_succ, List.getElem_cons_zero, Act.put, List.setIfInBounds_toArray, List.set_cons_zero, List.set_cons_succ])
  (refine plan_load (v := ?_) rfl (by kernel_rfl) rfl (fun _ hS => ?_) ?_; rotate_left; (have c0 := hS.court.c0; go_simp; with_reducible rfl); simp only [List.getElem_toArray, List.getElem_cons_succ, List.getElem_cons_zero, Act.put, List.setIfInBounds_toArray, List.set_cons_zero, List.set_cons_succ])
  (refine plan_pure (v := ?_) rfl rfl (fun _ => ?_) ?_; rotate_left; (go_simp; with_reducible rfl); simp only [List.getElem_toArray, List.getElem_cons_succ, List.getElem_cons_zero, Act.put, List.setIfInBounds_toArray, List.set_cons_zero, List.set_cons_succ])
  (refine plan_load (v := ?_) rfl (by kernel_rfl) rfl (fun _ hS => ?_) ?_; rotate_left; (have x1 := hS.tx.cell HX.out.c1; go_simp; with_reducible rfl); simp only [List.getElem_toArray, List.getElem_cons_succ, List.getElem_cons_zero, Act.put, List.setIfInBounds_toArray, List.set_cons_zero, List.set_cons_succ])
  (refine plan_pure (v := ?_) rfl rfl (fun _ => ?_) ?_; rotate_left; (go_simp; with_reducible rfl); simp only [List.getElem_toArray, List.getElem_cons_succ, List.getElem_cons_zero, Act.put, List.setIfInBounds_toArray, List.set_cons_zero, List.set_cons_succ])
  (refine plan_load (v := ?_) rfl (by kernel_rfl) rfl (fun _ hS => ?_) ?_; rotate_left; (have x2 := hS.tx.cell HX.out.c2; go_simp; with_reducible rfl); simp only [List.getElem_toArray, List.getElem_cons_succ, List.getElem_cons_zero, Act.put, List.setIfInBounds_toArray, List.set_cons_zero, List.set_cons_succ])
  refine plan_do rfl ?_
  intro K1 hK1
  have HK1 := Lib.hid hK1
  clear hK1
  go_wp2_with fail
  refine (till_order HS.out.till from_ hf' hfn nonce Hno.out hn0 hn1).mono ?_
  rintro e W3 ⟨rfl, T3, k3⟩
  have hS3 : PayW w W3 B cb tb hb hc nb nc sh sn book least height bonds pool events has (non.set from_ (nonce + 1)) kept x := HS.out.after T3 (k3.mono (fun _ _ h => Or.inr (Or.inr h))) KC.out KB.out
  clear T3 k3 HS
  have HS := Lib.hid hS3
  clear hS3
  go_wp2_with fail
  refine HK1.out _ _ (by simp) ?_
  clear HK1 K1
  (refine plan_pure (v := ?_) rfl rfl (fun _ => ?_) ?_; rotate_left; (go_simp; with_reducible rfl); simp only [List.getElem_toArray, List.getElem_cons_succ, List.getElem_cons_zero, Act.put, List.setIfInBounds_toArray, List.set_cons_zero, List.set_cons_succ])
  refine plan_nil ?_
  refine hK0 _ _ ?_
  clear hK0 K0
  go_wp2_with fail
  (with_reducible refine region_plan (fun V => PayW w V B cb tb hb hc nb nc sh sn book least height bonds pool events has (non.set from_ (nonce + 1)) kept x) 14 [(0, true), (1, true), (2, true), (3, true), (4, true), (5, true), (6, true), (7, true), (8, true), (9, true), (12, true), (13, true), (10, false), (11, true), (14, false), (15, true)] ?_ ?_ ?_ ?_ ?_ ?_ ?_)
  · kernel_rfl
  · kernel_rfl
  · exact rfl
  · kernel_rfl
  · intro c a d v w h; cases d <;> exact h
  · exact HS.out.drew
  intro W4 hW4 K0 hK0
  have hS4 : PayW w W4 B cb tb hb hc nb nc sh sn book least height bonds pool events has (non.set from_ (nonce + 1)) kept x := hW4 ▸ HS.out.drew
  clear hW4 HS
  have HS := Lib.hid hS4
  clear hS4
  iterate 3 (refine plan_pure (v := ?_) rfl rfl (fun _ => ?_) ?_; rotate_left; (go_simp; with_reducible rfl); simp only [List.getElem_toArray, List.getElem_cons_succ, List.getElem_cons_zero, Act.put, List.setIfInBounds_toArray, List.set_cons_zero, List.set_cons_succ])
  (refine plan_load (v := ?_) rfl (by kernel_rfl) rfl (fun _ hS => ?_) ?_; rotate_left; (have c0 := hS.court.c0; go_simp; with_reducible rfl); simp only [List.getElem_toArray, List.getElem_cons_succ, List.getElem_cons_zero, Act.put, List.setIfInBounds_toArray, List.set_cons_zero, List.set_cons_succ])
  (refine plan_pure (v := ?_) rfl rfl (fun _ => ?_) ?_; rotate_left; (go_simp; with_reducible rfl); simp only [List.getElem_toArray, List.getElem_cons_succ, List.getElem_cons_zero, Act.put, List.setIfInBounds_toArray, List.set_cons_zero, List.set_cons_succ])
  (refine plan_load (v := ?_) rfl (by kernel_rfl) rfl (fun _ hS => ?_) ?_; rotate_left; (have x1 := hS.tx.cell HX.out.c1; go_simp; with_reducible rfl); simp only [List.getElem_toArray, List.getElem_cons_succ, List.getElem_cons_zero, Act.put, List.setIfInBounds_toArray, List.set_cons_zero, List.set_cons_succ])
  iterate 3 (refine plan_pure (v := ?_) rfl rfl (fun _ => ?_) ?_; rotate_left; (go_simp; with_reducible rfl); simp only [List.getElem_toArray, List.getElem_cons_succ, List.getElem_cons_zero, Act.put, List.setIfInBounds_toArray, List.set_cons_zero, List.set_cons_succ])
  (refine plan_load (v := ?_) rfl (by kernel_rfl) rfl (fun _ hS => ?_) ?_; rotate_left; (have c0 := hS.court.c0; go_simp; with_reducible rfl); simp only [List.getElem_toArray, List.getElem_cons_succ, List.getElem_cons_zero, Act.put, List.setIfInBounds_toArray, List.set_cons_zero, List.set_cons_succ])
  (refine plan_pure (v := ?_) rfl rfl (fun _ => ?_) ?_; rotate_left; (go_simp; with_reducible rfl); simp only [List.getElem_toArray, List.getElem_cons_succ, List.getElem_cons_zero, Act.put, List.setIfInBounds_toArray, List.set_cons_zero, List.set_cons_succ])
  (refine plan_load (v := ?_) rfl (by kernel_rfl) rfl (fun _ hS => ?_) ?_; rotate_left; (have x3 := hS.tx.cell HX.out.c3; go_simp; with_reducible rfl); simp only [List.getElem_toArray, List.getElem_cons_succ, List.getElem_cons_zero, Act.put, List.setIfInBounds_toArray, List.set_cons_zero, List.set_cons_succ])
  have hlen : Hid ((has.length : Int) - 1 = (last : Int)) := by show (has.length : Int) - 1 = (last : Int); rw [HL.out]; omega
  have hwr : IntKind.i64.wrap ((has.length : Int) - 1) = (has.length : Int) - 1 := IntWalk.i64_in _ (by omega)
  refine plan_do rfl ?_
  intro K1 hK1
  have HK1 := Lib.hid hK1
  clear hK1
  simp only [List.getElem_toArray, List.getElem_cons_succ, List.getElem_cons_zero]
  go_wp2_with (go_at_call 22; refine (till_many has.length hc hb HS.out.till.c0).mono ?_; rintro e V ⟨rfl, rfl⟩)
  refine HK1.out _ _ (Or.inr (Or.inr HS.out)) ?_
  clear HK1 K1
  (refine plan_pure (v := ?_) rfl rfl (fun _ => ?_) ?_; rotate_left; (go_simp; with_reducible rfl); simp only [List.getElem_toArray, List.getElem_cons_succ, List.getElem_cons_zero, Act.put, List.setIfInBounds_toArray, List.set_cons_zero, List.set_cons_succ])
  clear hwr
  refine plan_do rfl ?_
  intro K1 hK1
  have HK1 := Lib.hid hK1
  clear hK1
  go_wp2_with fail
  rw [hlen.out]
  refine (till_move HS.out.till from_ last hf' hll y z fee Hy.out HZ2.out hfee0 hfee hy2 hk0 hk1 hz0 hz1).mono ?_
  rintro e W5 ⟨rfl, T5, k5⟩
  have HT5 := Lib.hid T5
  have HK5 := Lib.hid k5
  clear T5 k5
  go_wp2_with fail
  refine HK1.out _ _ (by simp) ?_
  clear HK1 K1
  (refine plan_pure (v := ?_) rfl rfl (fun _ => ?_) ?_; rotate_left; (go_simp; with_reducible rfl); simp only [List.getElem_toArray, List.getElem_cons_succ, List.getElem_cons_zero, Act.put, List.setIfInBounds_toArray, List.set_cons_zero, List.set_cons_succ])
  refine plan_nil ?_
  refine hK0 _ _ ?_
  clear hK0 K0
  go_wp2_with fail
  go_ret
  have k5 : Keeps (fun k => k = tb ∨ k = hb ∨ k = nb) W4 W5 := HK5.out.mono (fun _ _ h => by rcases h with h | h; exact Or.inr (Or.inl h); exact Or.inl h)
  have P5 := HS.out.after HT5.out k5 KC.out KB.out
  exact ⟨rfl, P5.court, P5.till, P5.keep⟩
end Go.Proofs.YtonhmomofpeamaaGreatDoor
