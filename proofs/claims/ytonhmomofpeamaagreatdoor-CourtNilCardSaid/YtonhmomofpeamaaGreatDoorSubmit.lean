/- court.Submit of an order without a rule, whose deed's lists are nil. -/
import Derived.Test.YtonhmomofpeamaaGreatDoorCourt
import Derived.Deep.CutBlock
namespace Go.Proofs.YtonhmomofpeamaaGreatDoor
open Go.RowKit
attribute [local irreducible] Tryz.zeroCells59
theorem tx_info : (Tryz.prog.info? 59).map (·.size) = some 2164 := by kernel_rfl
theorem tx_row : (Tryz.prog.info? 59).map (fun i => (i.zero, i.size, i.bytes)) = some (some (.agg Tryz.zeroCells59), 2164, 2368) := by kernel_rfl
theorem tx_zero : (Value.agg Tryz.zeroCells59).cells.size = 2164 := by kernel_rfl
structure TxNil (x : List Value) (kind from_ nonce fee to_ amount bond : Int) : Prop where
  len : x.length = 2164
  one : ∀ v ∈ x, v.oneCell' = true
  c0 : x[0]? = some (.int .i64 kind)
  c1 : x[1]? = some (.int .i64 from_)
  c2 : x[2]? = some (.int .u64 nonce)
  c3 : x[3]? = some (.int .u64 fee)
  c4 : x[4]? = some (.int .i64 to_)
  c5 : x[5]? = some (.int .u64 amount)
  c6 : x[6]? = some (.int .u32 bond)
  rule : x[104]? = some (.slice none 0 0)
  deed : DeedNil (x.drop 105)
theorem TxNil.deed_row {x : List Value} {kind from_ nonce fee to_ amount bond : Int} (h : TxNil x kind from_ nonce fee to_ amount bond) : Value.agg (x.drop 105).toArray = .agg (x.toArray.extract 105 (105 + 2059)) := by
  rw [List.extract_toArray, List.extract_eq_take_drop]
  rw [show 105 + 2059 - 105 = 2059 from rfl, List.take_of_length_le (by rw [List.length_drop, h.len]; decide)]
/-- An order lies whole in block b. -/
def TxIn (w : World) (b : Nat) (x : List Value) : Prop := w.heap[b]? = some (.cells x.toArray 59 (0, 0))
theorem TxIn.cell {w : World} {b : Nat} {x : List Value} (h : TxIn w b x) {i : Nat} {v : Value} (hv : x[i]? = some v) : w.cell? ⟨b, i, none⟩ = some v := by
  rw [cell_of_row w b i _ _ _ h, List.getElem?_toArray]; exact hv
theorem TxIn.fz {w : World} {b : Nat} {x : List Value} (h : TxIn w b x) (i : Nat) : w.frozen? ⟨b, i, none⟩ = false := frozen_of_row w b i _ _ h
/-- What holds while an order is taken in. -/
structure SubW (w W : World) (B cb tb nb : Nat) (least height : Int) (bonds events pool : Value) (n m hc hb : Nat) (xs x : List Value) : Prop where
  court : CourtBox W cb tb nb least height bonds pool events
  tx : TxIn W B x
  till : W.cell? ⟨tb, 0, none⟩ = some (.slice (some ⟨hb, 0, none⟩) m hc)
  own : W.ownsRow 0 59 2164 pool n xs
  below : Below B w W
  size : B < W.heap.size
section
variable {w W : World} {B cb tb nb : Nat} {least height : Int} {bonds events pool : Value} {n m hc hb : Nat} {xs x : List Value}
theorem SubW.drew (h : SubW w W B cb tb nb least height bonds events pool n m hc hb xs x) : SubW w W.drew B cb tb nb least height bonds events pool n m hc hb xs x := ⟨⟨h.court.box⟩, h.tx, h.till, h.own, h.below.drew, h.size⟩
theorem SubW.after {W' : World} (h : SubW w W B cb tb nb least height bonds events pool n m hc hb xs x) (k : Below W.heap.size W W') : SubW w W' B cb tb nb least height bonds events pool n m hc hb xs x :=
  ⟨h.court.keeps (Keeps.of_below k) (S := fun _ => False) id, (k.block B h.size).trans h.tx, by
    have hl : tb < W.heap.size := World.block_lt_of_cell? W _ h.till
    rw [World.cell?_of_block (w := W) (k.block tb hl)]; exact h.till, h.own.kept (row := none) ⟨k.os, k.tape, k.output, k.size, fun i hi _ => k.block i hi⟩ (by cases pool.ownBlock <;> simp), h.below.trans (k.mono (Nat.le_of_lt h.size)), Nat.lt_of_lt_of_le h.size k.size⟩
/-- A value is written again where it lies. -/
theorem below_again {W : World} {b i : Nat} {t : TypeId} {x : List Value} {v : Value} (h : W.heap[b]? = some (.cells x.toArray t (0, 0))) (hv : x[i]? = some v) : Below W.heap.size W (W.setCell ⟨b, i, none⟩ v) :=
  ⟨rfl, rfl, rfl, by simp [World.setCell], fun j hj => by
    by_cases hjb : j = b
    · subst hjb; rw [heap_setCell_same W j i _ _ _ h, set_same hv]; exact h.symm
    · exact heap_setCell_other _ _ _ _ hjb⟩
theorem SubW.setTx (h : SubW w W B cb tb nb least height bonds events pool n m hc hb xs x) {i : Nat} {v : Value} (hv : x[i]? = some v) : SubW w (W.setCell ⟨B, i, none⟩ v) B cb tb nb least height bonds events pool n m hc hb xs x :=
  h.after (below_again h.tx hv)
end
set_option maxHeartbeats 1000000 in
theorem submit_ok (w : World) (cb tb nb : Nat) (least height : Int) (bonds events : Value) (pa : Option Addr) (n pc m hc hb : Nat) (xs x : List Value) (kind nonce fee to_ amount bond : Int) (from_ : Nat)
    (C : CourtBox w cb tb nb least height bonds (.slice pa n pc) events) (ht : w.cell? ⟨tb, 0, none⟩ = some (.slice (some ⟨hb, 0, none⟩) m hc))
    (P : w.ownsRow 0 59 2164 (.slice pa n pc) n xs) (X : TxNil x kind from_ nonce fee to_ amount bond) (hn : n < 64) (hm : m ≤ 16) (hf : from_ + 1 < m) (hfee : least ≤ fee)
    (hpc : ∀ a, pa = some a → a.block ≠ cb) (htl : tb < w.heap.size) :
    Calls Tryz.prog 7 #[.pointer (some ⟨cb, 0, none⟩), .agg x.toArray] w fun e w' => ∃ v, e = .returned (.int .i64 0) ∧
      CourtBox w' cb tb nb least height bonds v events ∧ w'.ownsRow 0 59 2164 v (n + 1) (xs ++ x) ∧ (∀ k, v.ownBlock = some k → w.heap.size ≤ k ∨ (Value.slice pa n pc).ownBlock = some k) ∧ Keeps (fun k => k = cb ∨ (Value.slice pa n pc).ownBlock = some k) w w' := by
  have HW : ∀ W : World, W = w.alloc (.cells x.toArray 59) → SubW w W w.heap.size cb tb nb least height bonds events (.slice pa n pc) n m hc hb xs x := fun W hW => by
    subst hW
    exact ⟨C.keeps (S := fun _ => False) ((Keeps.refl _ _).alloc _) id, heap_alloc_new w _, by rw [World.cell?_of_block (w := w)]; exact ht; exact Below.heap_alloc _ _ _ htl, P.alloc _, (Below.refl _ _).alloc (Nat.le_refl _) _, by simp⟩
  have HPB : Hid (∀ k, (Value.slice pa n pc).ownBlock = some k → k < w.heap.size) := fun k hk => (P.lt k hk).2
  have HCB : Hid (cb < w.heap.size) := C.lt
  have HX := Lib.hid X
  have HH := Lib.hid HW
  clear HW C P X ht
  go_enter Tryz.func7, Tryz.ntmps7
  go_upto_block 0 with (fail)
  generalize hWd : w.alloc (.cells x.toArray 59) = W
  have hSub := HH.out W hWd.symm
  clear hWd HH
  generalize hB : w.heap.size = B at *
  have HB := Lib.hid hB
  clear hB
  have c0 := hSub.court.c0
  have c2 := hSub.court.c2
  have c5 := hSub.court.c5
  have x1 := hSub.tx.cell HX.out.c1
  have x3 := hSub.tx.cell HX.out.c3
  have HS := Lib.hid hSub
  clear hSub
  go_wp2_with fail
  (with_reducible refine region_plan (fun V => SubW w V B cb tb nb least height bonds events (.slice pa n pc) n m hc hb xs x) 100 [(0, true), (1, true), (2, true), (3, true), (4, true), (5, true), (6, true), (7, true), (8, true), (9, true), (10, false), (11, true), (12, true), (13, true), (14, true)] ?_ ?_ ?_ ?_ ?_ ?_ ?_)
  · kernel_rfl
  · kernel_rfl
  · exact rfl
  · kernel_rfl
  · intro c a d v w h; cases d <;> exact h
  · exact HS.out.drew
  intro W1 hW1 K0 hK0
  have hS1 : SubW w W1 B cb tb nb least height bonds events (.slice pa n pc) n m hc hb xs x := hW1 ▸ HS.out.drew
  clear hW1 c0 c2 c5 x1 x3 HS
  have HS := Lib.hid hS1
  have ht := hS1.till
  clear hS1
  have hwr : IntKind.i64.wrap ((m : Int) - 1) = m - 1 := IntWalk.i64_in _ (by omega)
  have hd0 : decide ((from_ : Int) < 0) = false := by simp
  have hd1 : decide ((m : Int) - 1 ≤ from_) = false := by simp; omega
  have hd2 : decide (fee < least) = false := by simp; omega
  (refine plan_pure (v := ?_) rfl rfl (fun _ => ?_) ?_; rotate_left; (go_simp; with_reducible rfl); simp only [List.getElem_toArray, List.getElem_cons_succ, List.getElem_cons_zero, Act.put, List.setIfInBounds_toArray, List.set_cons_zero, List.set_cons_succ])
  (refine plan_load (v := ?_) rfl (by kernel_rfl) rfl (fun _ hS => ?_) ?_; rotate_left; (have x1 := hS.tx.cell HX.out.c1; go_simp; with_reducible rfl); simp only [List.getElem_toArray, List.getElem_cons_succ, List.getElem_cons_zero, Act.put, List.setIfInBounds_toArray, List.set_cons_zero, List.set_cons_succ])
  iterate 3 (refine plan_pure (v := ?_) rfl rfl (fun _ => ?_) ?_; rotate_left; (go_simp; with_reducible rfl); simp only [List.getElem_toArray, List.getElem_cons_succ, List.getElem_cons_zero, Act.put, List.setIfInBounds_toArray, List.set_cons_zero, List.set_cons_succ])
  (refine plan_load (v := ?_) rfl (by kernel_rfl) rfl (fun _ hS => ?_) ?_; rotate_left; (have x1 := hS.tx.cell HX.out.c1; go_simp; with_reducible rfl); simp only [List.getElem_toArray, List.getElem_cons_succ, List.getElem_cons_zero, Act.put, List.setIfInBounds_toArray, List.set_cons_zero, List.set_cons_succ])
  iterate 3 (refine plan_pure (v := ?_) rfl rfl (fun _ => ?_) ?_; rotate_left; (go_simp; with_reducible rfl); simp only [List.getElem_toArray, List.getElem_cons_succ, List.getElem_cons_zero, Act.put, List.setIfInBounds_toArray, List.set_cons_zero, List.set_cons_succ])
  (refine plan_load (v := ?_) rfl (by kernel_rfl) rfl (fun _ hS => ?_) ?_; rotate_left; (have c0 := hS.court.c0; go_simp; with_reducible rfl); simp only [List.getElem_toArray, List.getElem_cons_succ, List.getElem_cons_zero, Act.put, List.setIfInBounds_toArray, List.set_cons_zero, List.set_cons_succ])
  refine plan_do rfl ?_
  intro K1 hK1
  have HK1 := Lib.hid hK1
  clear hK1
  simp only [List.getElem_toArray, List.getElem_cons_succ, List.getElem_cons_zero]
  go_wp2_with (go_at_call 22; refine (till_many m hc hb ht).mono ?_; rintro e V ⟨rfl, rfl⟩)
  refine HK1.out _ _ (Or.inr (Or.inr HS.out)) ?_
  clear HK1 K1
  iterate 4 (refine plan_pure (v := ?_) rfl rfl (fun _ => ?_) ?_; rotate_left; (go_simp; with_reducible rfl); simp only [List.getElem_toArray, List.getElem_cons_succ, List.getElem_cons_zero, Act.put, List.setIfInBounds_toArray, List.set_cons_zero, List.set_cons_succ])
  refine plan_nil ?_
  refine hK0 _ _ ?_
  clear hK0 K0 ht hwr hd0 hd1
  go_wp2_with fail
  (with_reducible refine region_plan (fun V => SubW w V B cb tb nb least height bonds events (.slice pa n pc) n m hc hb xs x) 100 [(0, true), (1, true), (2, true), (3, true), (4, true), (5, true), (6, true), (7, true)] ?_ ?_ ?_ ?_ ?_ ?_ ?_)
  · kernel_rfl
  · kernel_rfl
  · exact rfl
  · kernel_rfl
  · intro c a d v w h; cases d <;> exact h
  · exact HS.out.drew
  intro W2 hW2 K0 hK0
  have hS2 : SubW w W2 B cb tb nb least height bonds events (.slice pa n pc) n m hc hb xs x := hW2 ▸ HS.out.drew
  clear hW2 HS
  have HS := Lib.hid hS2
  clear hS2
  (refine plan_pure (v := ?_) rfl rfl (fun _ => ?_) ?_; rotate_left; (go_simp; with_reducible rfl); simp only [List.getElem_toArray, List.getElem_cons_succ, List.getElem_cons_zero, Act.put, List.setIfInBounds_toArray, List.set_cons_zero, List.set_cons_succ])
  (refine plan_load (v := ?_) rfl (by kernel_rfl) rfl (fun _ hS => ?_) ?_; rotate_left; (have x3 := hS.tx.cell HX.out.c3; go_simp; with_reducible rfl); simp only [List.getElem_toArray, List.getElem_cons_succ, List.getElem_cons_zero, Act.put, List.setIfInBounds_toArray, List.set_cons_zero, List.set_cons_succ])
  iterate 3 (refine plan_pure (v := ?_) rfl rfl (fun _ => ?_) ?_; rotate_left; (go_simp; with_reducible rfl); simp only [List.getElem_toArray, List.getElem_cons_succ, List.getElem_cons_zero, Act.put, List.setIfInBounds_toArray, List.set_cons_zero, List.set_cons_succ])
  (refine plan_load (v := ?_) rfl (by kernel_rfl) rfl (fun _ hS => ?_) ?_; rotate_left; (have c2 := hS.court.c2; go_simp; with_reducible rfl); simp only [List.getElem_toArray, List.getElem_cons_succ, List.getElem_cons_zero, Act.put, List.setIfInBounds_toArray, List.set_cons_zero, List.set_cons_succ])
  iterate 2 (refine plan_pure (v := ?_) rfl rfl (fun _ => ?_) ?_; rotate_left; (go_simp; with_reducible rfl); simp only [List.getElem_toArray, List.getElem_cons_succ, List.getElem_cons_zero, Act.put, List.setIfInBounds_toArray, List.set_cons_zero, List.set_cons_succ])
  refine plan_nil ?_
  refine hK0 _ _ ?_
  clear hK0 K0
  go_wp2_with fail
  (with_reducible refine region_plan (fun V => SubW w V B cb tb nb least height bonds events (.slice pa n pc) n m hc hb xs x) 7 [(0, true), (1, true), (3, true), (4, true), (2, false), (6, true), (5, false), (7, false), (8, true), (9, false)] ?_ ?_ ?_ ?_ ?_ ?_ ?_)
  · kernel_rfl
  · kernel_rfl
  · exact rfl
  · kernel_rfl
  · intro c a d v w h; cases d <;> exact h
  · exact HS.out.drew
  intro W3 hW3 K0 hK0
  have hS3 : SubW w W3 B cb tb nb least height bonds events (.slice pa n pc) n m hc hb xs x := hW3 ▸ HS.out.drew
  clear hW3 HS
  have HS := Lib.hid hS3
  clear hS3
  have HE : Hid (Value.agg (x.drop 105).toArray = .agg (x.toArray.extract 105 (105 + 2059))) := HX.out.deed_row
  have HLD : Hid (105 + (x.drop 105).length ≤ x.length) := by show 105 + (x.drop 105).length ≤ x.length; rw [List.length_drop, HX.out.len]; decide
  have HID : Hid ((Tryz.prog.info? 57).map (·.size) = some (x.drop 105).length) := by show _ = some (x.drop 105).length; rw [HX.out.deed.len]; exact deed_info
  have HLE : Hid (105 + 2059 ≤ x.toArray.size) := by show 105 + 2059 ≤ x.toArray.size; rw [List.size_toArray, HX.out.len]; decide
  (refine plan_pure (v := ?_) rfl rfl (fun _ => ?_) ?_; rotate_left; (go_simp; with_reducible rfl); simp only [List.getElem_toArray, List.getElem_cons_succ, List.getElem_cons_zero, Act.put, List.setIfInBounds_toArray, List.set_cons_zero, List.set_cons_succ])
  (refine plan_load (v := ?_) rfl (by kernel_rfl) rfl (fun _ hS => ?_) ?_; rotate_left; (have x104 := hS.tx.cell HX.out.rule; go_simp; with_reducible rfl); simp only [List.getElem_toArray, List.getElem_cons_succ, List.getElem_cons_zero, Act.put, List.setIfInBounds_toArray, List.set_cons_zero, List.set_cons_succ])
  (refine plan_pure (v := ?_) rfl rfl (fun _ => ?_) ?_; rotate_left; (go_simp; with_reducible rfl); simp only [List.getElem_toArray, List.getElem_cons_succ, List.getElem_cons_zero, Act.put, List.setIfInBounds_toArray, List.set_cons_zero, List.set_cons_succ])
  (refine plan_load_sub (op := _) rfl (by kernel_rfl) rfl 57 _ rfl B 105 2059 rfl 59 x.toArray (0, 0) _ (fun _ hS => hS.tx) HLE.out Tryz.underlying57 rfl deed_info (.agg (x.drop 105).toArray) HE.out ?_; simp only [List.getElem_toArray, List.getElem_cons_succ, List.getElem_cons_zero, Act.put, List.setIfInBounds_toArray, List.set_cons_zero, List.set_cons_succ])
  refine plan_do rfl ?_
  intro K1 hK1
  have HK1 := Lib.hid hK1
  clear hK1
  simp only [List.getElem_toArray, List.getElem_cons_succ, List.getElem_cons_zero]
  go_wp2_with (go_at_call 23; refine (clone_nil_u8 _).mono ?_; rintro e V ⟨rfl, rfl⟩)
  refine HK1.out _ _ (Or.inr (Or.inr HS.out)) ?_
  clear HK1 K1
  (refine plan_pure (v := ?_) rfl rfl (fun _ => ?_) ?_; rotate_left; (go_simp; with_reducible rfl); simp only [List.getElem_toArray, List.getElem_cons_succ, List.getElem_cons_zero, Act.put, List.setIfInBounds_toArray, List.set_cons_zero, List.set_cons_succ])
  refine plan_do rfl ?_
  intro K1 hK1
  have HK1 := Lib.hid hK1
  clear hK1
  go_wp2_with fail
  refine (deed_twin_nil _ _ HX.out.deed).mono ?_
  rintro e W4 ⟨rfl, hb4⟩
  have HS4 := Lib.hid (HS.out.after hb4)
  clear hb4 HS
  go_wp2_with fail
  refine HK1.out _ _ (Or.inr (Or.inr HS4.out)) ?_
  clear HK1 K1
  have y104 := HS4.out.tx.cell HX.out.rule
  have f104 := HS4.out.tx.fz 104
  refine plan_do rfl ?_
  intro K1 hK1
  have HK1 := Lib.hid hK1
  clear hK1
  simp only [List.getElem_toArray, List.getElem_cons_succ, List.getElem_cons_zero]
  go_wp2_with fail
  refine HK1.out _ _ (by simp) ?_
  clear HK1 K1 y104 f104
  have HS5 := Lib.hid (HS4.out.setTx HX.out.rule)
  clear HS4
  generalize W4.setCell ⟨B, 104, none⟩ (.slice none 0 0) = W5 at *
  (refine plan_pure (v := ?_) rfl rfl (fun _ => ?_) ?_; rotate_left; (go_simp; with_reducible rfl); simp only [List.getElem_toArray, List.getElem_cons_succ, List.getElem_cons_zero, Act.put, List.setIfInBounds_toArray, List.set_cons_zero, List.set_cons_succ])
  refine plan_do rfl ?_
  intro K1 hK1
  have HK1 := Lib.hid hK1
  clear hK1
  simp only [List.getElem_toArray, List.getElem_cons_succ, List.getElem_cons_zero]
  go_wp2_with ((with_reducible refine wpList_store_sub (op := ⟨none, .store 57 _ _, _, _, _, _⟩) rfl 57 _ _ rfl B 105 (x.drop 105) ?_ ?_ 59 x ?_ ?_ ?_ ?_ ?_); rfl; rfl; exact HS5.out.tx; exact HLD.out; exact HID.out; exact HX.out.deed.one)
  refine HK1.out _ _ (by simp) ?_
  clear HK1 K1
  have hsame : W5.setRow B (patch x 105 (x.drop 105)).toArray = W5 := by
    have h := patch_same x 105 2059
    rw [List.take_of_length_le (by rw [HX.out.deed.len]; decide)] at h
    rw [h]
    exact setRow_same HS5.out.tx
  rw [hsame]
  clear hsame
  refine plan_nil ?_
  refine hK0 _ _ ?_
  clear hK0 K0
  go_wp2_with fail
  (with_reducible refine region_plan (fun V => CourtBox V cb tb nb least height bonds (.slice pa n pc) events ∧ TxIn V B x) 10 [(0, true), (1, true), (2, true), (3, true), (4, true), (5, true), (6, false), (7, false), (8, true), (9, true), (10, false)] ?_ ?_ ?_ ?_ ?_ ?_ ?_)
  · kernel_rfl
  · kernel_rfl
  · exact rfl
  · kernel_rfl
  · intro c a d v w h; cases d <;> exact h
  · exact ⟨HS5.out.drew.court, HS5.out.drew.tx⟩
  intro W6 hW6 K0 hK0
  have hS6 : SubW w W6 B cb tb nb least height bonds events (.slice pa n pc) n m hc hb xs x := hW6 ▸ HS5.out.drew
  clear hW6 HS5
  have HS := Lib.hid hS6
  clear hS6
  have HE2 : Hid (Value.agg x.toArray = .agg (x.toArray.extract 0 (0 + 2164))) := by show Value.agg x.toArray = _; rw [List.extract_toArray, List.extract_eq_take_drop, List.drop_zero, List.take_of_length_le (by rw [HX.out.len]; decide)]
  have HLE2 : Hid (0 + 2164 ≤ x.toArray.size) := by show 0 + 2164 ≤ x.toArray.size; rw [List.size_toArray, HX.out.len]; decide
  iterate 4 (refine plan_pure (v := ?_) rfl rfl (fun _ => ?_) ?_; rotate_left; (go_simp; with_reducible rfl); simp only [List.getElem_toArray, List.getElem_cons_succ, List.getElem_cons_zero, Act.put, List.setIfInBounds_toArray, List.set_cons_zero, List.set_cons_succ])
  (refine plan_load (v := ?_) rfl (by kernel_rfl) rfl (fun _ hS => ?_) ?_; rotate_left; (have c5 := hS.1.c5; go_simp; with_reducible rfl); simp only [List.getElem_toArray, List.getElem_cons_succ, List.getElem_cons_zero, Act.put, List.setIfInBounds_toArray, List.set_cons_zero, List.set_cons_succ])
  (refine plan_load_sub (op := _) rfl (by kernel_rfl) rfl 59 _ rfl B 0 2164 rfl 59 x.toArray (0, 0) _ (fun _ hS => hS.2) HLE2.out Tryz.underlying59 rfl tx_info (.agg x.toArray) HE2.out ?_; simp only [List.getElem_toArray, List.getElem_cons_succ, List.getElem_cons_zero, Act.put, List.setIfInBounds_toArray, List.set_cons_zero, List.set_cons_succ])
  obtain ⟨ie, hie, hz0, hz1, hz2⟩ := info_parts tx_row
  have KI : Hid (Tryz.prog.info? 59 = some ie) := hie
  have KZ : Hid (ie.zero = some (.agg Tryz.zeroCells59)) := hz0
  have KS : Hid (ie.size = 2164) := hz1
  have KB : Hid (ie.bytes = 2368) := hz2
  have KX : Hid (ie.size = x.toArray.size) := by show ie.size = _; rw [hz1, List.size_toArray, HX.out.len]
  have K0' : Hid (0 < x.toArray.size) := by show 0 < _; rw [List.size_toArray, HX.out.len]; decide
  have KM : Hid (x.toArray.size ≤ 16777216) := by show _ ≤ 16777216; rw [List.size_toArray, HX.out.len]; decide
  have KN : Hid (x.length = 1 * 2164) := by show x.length = 1 * 2164; rw [HX.out.len]
  clear hie hz0 hz1 hz2
  refine plan_do rfl ?_
  intro K1 hK1
  have HK1 := Lib.hid hK1
  clear hK1
  simp only [List.getElem_toArray, List.getElem_cons_succ, List.getElem_cons_zero]
  go_wp2_with ((with_reducible refine wpList_buildOne (op := ⟨some _, .buildSlice 61 1 _, _, _, _, _⟩) rfl 61 59 _ rfl Tryz.underlying61 x.toArray ?_ ie (.agg Tryz.zeroCells59) KI.out KZ.out KX.out K0'.out KM.out ?_); rfl)
  have HS7 := Lib.hid (HS.out.after ((Below.refl _ _).alloc (Nat.le_refl _) (.cells x.toArray 59)))
  have HN7 : Hid (∀ j u, x[j]? = some u → (W6.alloc (.cells x.toArray 59)).cell? ((⟨W6.heap.size, 0, none⟩ : Addr).add j) = some u) := fun j u hu => by
    rw [Addr.add_mid, Nat.zero_add]
    exact cells_new _ _ _ _ _ (by rw [List.getElem?_toArray]; exact hu)
  refine HK1.out _ _ (Or.inr (Or.inr ⟨HS7.out.court, HS7.out.tx⟩)) ?_
  clear HK1 K1 HS
  have hW7 : ∃ W7, W7 = W6.alloc (.cells x.toArray 59) := ⟨_, rfl⟩
  obtain ⟨W7, hW7⟩ := hW7
  rw [← hW7] at HS7 HN7 ⊢
  clear hW7
  refine plan_do rfl ?_
  intro K1 hK1
  have HK1 := Lib.hid hK1
  clear hK1
  simp only [List.getElem_toArray, List.getElem_cons_succ, List.getElem_cons_zero]
  refine wpList_append_more (w := W7) rfl _ _ 61 rfl 0 59 ie (.agg Tryz.zeroCells59) 2164 2368 Tryz.underlying61 KI.out KZ.out KS.out KB.out tx_zero (by decide) (.slice pa n pc) n xs rfl HS7.out.own ⟨W6.heap.size, 0, none⟩ 1 1 x rfl KN.out HN7.out HX.out.one (by unfold maxLen; omega) (by omega) (Nat.zero_le _) (by decide) ?_
  intro v' W8 hown hg hblk
  obtain ⟨pa', pc', rfl⟩ : ∃ pa' pc', v' = .slice pa' (n + 1) pc' := by
    obtain ⟨_, h | ⟨g, cap, cur, h, _⟩⟩ := hown
    · exact absurd h.2 (by omega)
    · exact ⟨_, _, h⟩
  have k7 := HS7.out
  have ncb : ∀ k, (Value.slice pa n pc).ownBlock = some k → k ≠ cb := fun k hk => by
    cases pa with
    | none => cases hk
    | some ad => injection hk with hk; subst hk; exact hpc ad rfl
  have hC8 : CourtBox W8 cb tb nb least height bonds (.slice pa n pc) events := ⟨(hg.block cb k7.court.lt (fun e => ncb cb e.symm rfl)).trans k7.court.box⟩
  have hT8 : TxIn W8 B x := (hg.block B k7.size (fun e => absurd (HPB.out B e.symm) (by have := HB.out; omega))).trans k7.tx
  have HC8 := Lib.hid hC8
  have HT8 := Lib.hid hT8
  have HO8 := Lib.hid hown
  have HG8 := Lib.hid hg
  have HV8 := Lib.hid hblk
  have HNC := Lib.hid ncb
  clear hown hg hblk hC8 hT8 k7 ncb
  go_wp2_with fail
  refine HK1.out _ _ (Or.inr (Or.inr ⟨HC8.out, HT8.out⟩)) ?_
  clear HK1 K1
  iterate 2 (refine plan_pure (v := ?_) rfl rfl (fun _ => ?_) ?_; rotate_left; (go_simp; with_reducible rfl); simp only [List.getElem_toArray, List.getElem_cons_succ, List.getElem_cons_zero, Act.put, List.setIfInBounds_toArray, List.set_cons_zero, List.set_cons_succ])
  have z5 := HC8.out.c5
  have zf := HC8.out.fz 5
  refine plan_do rfl ?_
  intro K1 hK1
  have HK1 := Lib.hid hK1
  clear hK1
  simp only [List.getElem_toArray, List.getElem_cons_succ, List.getElem_cons_zero]
  go_wp2_with fail
  refine HK1.out _ _ (by simp) ?_
  clear HK1 K1
  refine plan_nil ?_
  refine hK0 _ _ ?_
  clear hK0 K0 z5 zf
  go_wp2_with fail
  go_ret
  have g8 := HG8.out
  have o8 := HO8.out
  have k8 : Keeps (fun k => k = cb ∨ (Value.slice pa n pc).ownBlock = some k) w (W8.setCell ⟨cb, 5, none⟩ (.slice pa' (n + 1) pc')) := by
    have b7 : Below w.heap.size w W7 := by rw [HB.out]; exact HS7.out.below
    refine Keeps.setCell (S := fun k => k = cb ∨ (Value.slice pa n pc).ownBlock = some k) ?_ ⟨cb, 5, none⟩ (fun _ => Or.inl rfl) _
    exact (Keeps.of_below b7).grown g8 (fun k hk _ => Or.inr hk)
  have hblk : ∀ k, (Value.slice pa' (n + 1) pc').ownBlock = some k → w.heap.size ≤ k ∨ (Value.slice pa n pc).ownBlock = some k := fun k hk => by
    rcases HV8.out with h | h
    · exact .inr (h ▸ hk)
    · rw [h] at hk
      injection hk with hk
      subst hk
      have := HS7.out.size
      have := HB.out
      exact .inl (by omega)
  refine ⟨_, rfl, HC8.out.setPool _, ?_, hblk, k8⟩
  have e8 : (.slice pa' (n + 1) pc' : Value).ownBlock ≠ some cb := fun h => by
    rcases HV8.out with h' | h'
    · rw [h'] at h; exact HNC.out cb h rfl
    · rw [h'] at h
      injection h with h
      have h1 := HCB.out
      have h2 := HS7.out.size
      have h3 := HB.out
      omega
  exact o8.kept (row := some cb) ⟨rfl, rfl, rfl, by simp [World.setCell], fun k _ hk => heap_setCell_other _ _ _ _ (fun e => hk (by rw [e]))⟩ (.inr e8)
end Go.Proofs.YtonhmomofpeamaaGreatDoor
