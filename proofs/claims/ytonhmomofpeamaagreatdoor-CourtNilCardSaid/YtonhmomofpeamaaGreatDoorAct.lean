/- court.act of a Send. -/
import Derived.Test.YtonhmomofpeamaaGreatDoorPay
namespace Go.Proofs.YtonhmomofpeamaaGreatDoor
open Go.RowKit
attribute [local irreducible] Tryz.zeroCells59
set_option maxHeartbeats 1000000 in
theorem act_send (w : World) (cb tb hb hc nb nc : Nat) (sh sn : List Value) (book : Nat) (least height : Int) (bonds pool events : Value) (has non : List Int) (kept : Int) (x : List Value) (nonce fee amount bond : Int) (from_ to_ : Nat) (y z : Int)
    (C : CourtBox w cb tb book least height bonds pool events) (T : TillAt w tb hb hc nb nc sh sn has non kept) (X : TxNil x 0 from_ nonce fee to_ amount bond) (hcb : cb ≠ tb ∧ cb ≠ hb ∧ cb ≠ nb)
    (hf' : from_ < has.length) (hll : to_ < has.length) (hy : has[from_] = y) (hz : (has.set from_ (y - amount))[to_]'(by simpa using hll) = z)
    (h0 : 0 ≤ amount) (h1 : amount ≤ y) (hy2 : y ≤ 18446744073709551615) (hk0 : 0 ≤ kept) (hk1 : kept + amount ≤ 18446744073709551615) (hz0 : 0 ≤ z) (hz1 : z + amount ≤ 18446744073709551615) :
    Calls Tryz.prog 37 #[.pointer (some ⟨cb, 0, none⟩), .agg x.toArray] w fun e w' => e = .returned (.int .i64 0) ∧
      CourtBox w' cb tb book least height bonds pool events ∧ TillAt w' tb hb hc nb nc sh sn ((has.set from_ (y - amount)).set to_ (z + amount)) non kept ∧ Keeps (fun k => k = tb ∨ k = hb ∨ k = nb) w w' := by
  have HH : ∀ W : World, W = w.alloc (.cells x.toArray 59) → PayW w W w.heap.size cb tb hb hc nb nc sh sn book least height bonds pool events has non kept x := fun W hW => by
    subst hW
    exact ⟨C.keeps (S := fun _ => False) ((Keeps.refl _ _).alloc _) id, T.keeps (S := fun _ => False) ((Keeps.refl _ _).alloc _) id id id, heap_alloc_new w _, (Keeps.refl _ _).alloc _, by simp, Nat.le_refl _⟩
  have hB : w.heap.size ≠ tb ∧ w.heap.size ≠ hb ∧ w.heap.size ≠ nb := by
    have h1 := lt_of_block T.box
    have h2 := lt_of_block T.bhas
    have h3 := lt_of_block T.bnon
    omega
  have KB := Lib.hid hB
  have KC := Lib.hid hcb
  have HX := Lib.hid X
  have Hy := Lib.hid hy
  have Hz := Lib.hid hz
  have HHH := Lib.hid HH
  have hsm := T.small
  clear HH C T X hB hcb hy hz
  go_enter Tryz.func37, Tryz.ntmps37
  go_upto_region 1 with (fail)
  generalize hWd : w.alloc (.cells x.toArray 59) = W
  have hS := HHH.out W hWd.symm
  clear hWd HHH
  have HS := Lib.hid hS
  clear hS
  generalize hB0 : w.heap.size = B at *
  have HB := Lib.hid hB0
  clear hB0
  have x0 := HS.out.tx.cell HX.out.c0
  go_wp2_with fail
  (with_reducible refine region_plan (fun V => PayW w V B cb tb hb hc nb nc sh sn book least height bonds pool events has non kept x) 10 [(0, true), (1, true), (2, true), (3, true), (4, true), (5, true), (6, true), (7, true), (8, true), (9, true), (10, false), (11, true)] ?_ ?_ ?_ ?_ ?_ ?_ ?_)
  · kernel_rfl
  · kernel_rfl
  · exact rfl
  · kernel_rfl
  · intro c a d v w h; cases d <;> exact h
  · exact HS.out.drew
  intro W4 hW4 K0 hK0
  have hS4 : PayW w W4 B cb tb hb hc nb nc sh sn book least height bonds pool events has non kept x := hW4 ▸ HS.out.drew
  clear hW4 HS x0
  have HS := Lib.hid hS4
  clear hS4
  iterate 3 (refine plan_pure (v := ?_) rfl rfl (fun _ => ?_) ?_; rotate_left; (go_simp; with_reducible rfl); simp only [List.getElem_toArray, List.getElem_cons_succ, List.getElem_cons_zero, Act.put, List.setIfInBounds_toArray, List.set_cons_zero, List.set_cons_succ])
  (refine plan_load (v := ?_) rfl (by kernel_rfl) rfl (fun _ hS => ?_) ?_; rotate_left; (have c0 := hS.court.c0; go_simp; with_reducible rfl); simp only [List.getElem_toArray, List.getElem_cons_succ, List.getElem_cons_zero, Act.put, List.setIfInBounds_toArray, List.set_cons_zero, List.set_cons_succ])
  (refine plan_pure (v := ?_) rfl rfl (fun _ => ?_) ?_; rotate_left; (go_simp; with_reducible rfl); simp only [List.getElem_toArray, List.getElem_cons_succ, List.getElem_cons_zero, Act.put, List.setIfInBounds_toArray, List.set_cons_zero, List.set_cons_succ])
  (refine plan_load (v := ?_) rfl (by kernel_rfl) rfl (fun _ hS => ?_) ?_; rotate_left; (have x1 := hS.tx.cell HX.out.c1; go_simp; with_reducible rfl); simp only [List.getElem_toArray, List.getElem_cons_succ, List.getElem_cons_zero, Act.put, List.setIfInBounds_toArray, List.set_cons_zero, List.set_cons_succ])
  (refine plan_pure (v := ?_) rfl rfl (fun _ => ?_) ?_; rotate_left; (go_simp; with_reducible rfl); simp only [List.getElem_toArray, List.getElem_cons_succ, List.getElem_cons_zero, Act.put, List.setIfInBounds_toArray, List.set_cons_zero, List.set_cons_succ])
  (refine plan_load (v := ?_) rfl (by kernel_rfl) rfl (fun _ hS => ?_) ?_; rotate_left; (have x1 := hS.tx.cell HX.out.c4; go_simp; with_reducible rfl); simp only [List.getElem_toArray, List.getElem_cons_succ, List.getElem_cons_zero, Act.put, List.setIfInBounds_toArray, List.set_cons_zero, List.set_cons_succ])
  (refine plan_pure (v := ?_) rfl rfl (fun _ => ?_) ?_; rotate_left; (go_simp; with_reducible rfl); simp only [List.getElem_toArray, List.getElem_cons_succ, List.getElem_cons_zero, Act.put, List.setIfInBounds_toArray, List.set_cons_zero, List.set_cons_succ])
  (refine plan_load (v := ?_) rfl (by kernel_rfl) rfl (fun _ hS => ?_) ?_; rotate_left; (have x1 := hS.tx.cell HX.out.c5; go_simp; with_reducible rfl); simp only [List.getElem_toArray, List.getElem_cons_succ, List.getElem_cons_zero, Act.put, List.setIfInBounds_toArray, List.set_cons_zero, List.set_cons_succ])
  refine plan_do rfl ?_
  intro K1 hK1
  have HK1 := Lib.hid hK1
  clear hK1
  go_wp2_with fail
  refine (till_move HS.out.till from_ to_ hf' hll y z amount Hy.out Hz.out h0 h1 hy2 hk0 hk1 hz0 hz1).mono ?_
  rintro e W5 ⟨rfl, T5, k5⟩
  have HT5 := Lib.hid T5
  have HK5 := Lib.hid k5
  clear T5 k5
  go_wp2_with fail
  refine HK1.out _ _ (by simp) ?_
  clear HK1 K1
  (refine plan_pure (v := ?_) rfl rfl (fun _ => ?_) ?_; rotate_left; (go_simp; with_reducible rfl); simp only [List.getElem_toArray, List.getElem_cons_succ, List.getElem_cons_zero, Act.put, List.setIfInBounds_toArray, List.set_cons_zero, List.set_cons_succ])
  refine plan_nil ?_
  refine hK0 _ _ ?_
  clear hK0 K0
  go_wp2_with fail
  go_ret
  have k5 : Keeps (fun k => k = tb ∨ k = hb ∨ k = nb) W4 W5 := HK5.out.mono (fun _ _ h => by rcases h with h | h; exact Or.inr (Or.inl h); exact Or.inl h)
  have P5 := HS.out.after HT5.out k5 KC.out KB.out
  exact ⟨rfl, P5.court, P5.till, P5.keep⟩
end Go.Proofs.YtonhmomofpeamaaGreatDoor
