/- court.do of a Send. -/
import Derived.Test.YtonhmomofpeamaaGreatDoorAct
namespace Go.Proofs.YtonhmomofpeamaaGreatDoor
open Go.RowKit
attribute [local irreducible] Tryz.zeroCells59
theorem event_row : (Tryz.prog.info? 89).map (fun i => (i.zero, i.size, i.bytes)) = some (some (.agg #[.int .u64 0, .int .i64 0, .int .i64 0, .int .u32 0, .int .i64 0]), 5, 40) := by kernel_rfl
set_option maxHeartbeats 1000000 in
theorem do_send (w : World) (cb tb hb hc nb nc : Nat) (sh sn : List Value) (book : Nat) (least height : Int) (bonds pool : Value) (ea : Option Addr) (n ec : Nat) (evs : List Value) (has non : List Int) (kept : Int) (x : List Value) (nonce fee amount bond : Int) (from_ to_ last : Nat) (y z y' z' : Int)
    (C : CourtBox w cb tb book least height bonds pool (.slice ea n ec)) (E : w.ownsRow 0 89 5 (.slice ea n ec) n evs) (T : TillAt w tb hb hc nb nc sh sn has non kept) (X : TxNil x 0 from_ nonce fee to_ amount bond) (hcb : cb ≠ tb ∧ cb ≠ hb ∧ cb ≠ nb)
    (heb : ∀ k, (Value.slice ea n ec).ownBlock = some k → k ≠ tb ∧ k ≠ hb ∧ k ≠ nb ∧ k ≠ cb) (hn : n < 1024)
    (hl : has.length = last + 1) (hf : from_ < last) (hf' : from_ < has.length) (hfn : from_ < non.length) (hll : last < has.length) (hy : has[from_] = y) (hz : has[last] = z) (hno : non[from_] = nonce) (hn0 : 0 ≤ nonce) (hn1 : nonce + 1 ≤ 18446744073709551615)
    (hfee0 : 0 ≤ fee) (hfee : fee ≤ y) (hy2 : y ≤ 18446744073709551615) (hk0 : 0 ≤ kept) (hk1 : kept + fee ≤ 18446744073709551615) (hz0 : 0 ≤ z) (hz1 : z + fee ≤ 18446744073709551615)
    (htt : to_ < has.length) (has' : List Int) (hhas : (has.set from_ (y - fee)).set last (z + fee) = has') (hf2 : from_ < has'.length) (ht2 : to_ < has'.length) (hy' : has'[from_] = y') (hz' : (has'.set from_ (y' - amount))[to_]'(by simpa using ht2) = z')
    (a0 : 0 ≤ amount) (a1 : amount ≤ y') (a2 : y' ≤ 18446744073709551615) (a3 : kept + amount ≤ 18446744073709551615) (a4 : 0 ≤ z') (a5 : z' + amount ≤ 18446744073709551615) :
    Calls Tryz.prog 19 #[.pointer (some ⟨cb, 0, none⟩), .agg x.toArray] w fun e w' => ∃ v, e = .returned (.int .i64 0) ∧
      CourtBox w' cb tb book least height bonds pool v ∧ TillAt w' tb hb hc nb nc sh sn ((has'.set from_ (y' - amount)).set to_ (z' + amount)) (non.set from_ (nonce + 1)) kept ∧
      Keeps (fun k => k = tb ∨ k = hb ∨ k = nb ∨ k = cb ∨ (Value.slice ea n ec).ownBlock = some k) w w' := by
  have hcl := C.lt
  have HHH : Hid (∀ W : World, W = w.alloc (.cells x.toArray 59) → PayW w W w.heap.size cb tb hb hc nb nc sh sn book least height bonds pool (.slice ea n ec) has non kept x ∧ W.ownsRow 0 89 5 (.slice ea n ec) n evs) := fun W hW => by
    subst hW
    exact ⟨⟨C.keeps (S := fun _ => False) ((Keeps.refl _ _).alloc _) id, T.keeps (S := fun _ => False) ((Keeps.refl _ _).alloc _) id id id, heap_alloc_new w _, (Keeps.refl _ _).alloc _, by simp, Nat.le_refl _⟩, E.alloc _⟩
  have KB : Hid (w.heap.size ≠ tb ∧ w.heap.size ≠ hb ∧ w.heap.size ≠ nb) := by
    have h1 := lt_of_block T.box
    have h2 := lt_of_block T.bhas
    have h3 := lt_of_block T.bnon
    show w.heap.size ≠ tb ∧ w.heap.size ≠ hb ∧ w.heap.size ≠ nb
    omega
  have KE : Hid (∀ k, (Value.slice ea n ec).ownBlock = some k → k < w.heap.size) := fun k hk => (E.lt k hk).2
  have KC := Lib.hid hcb
  have HX := Lib.hid X
  have HEB := Lib.hid heb
  have HPAY : Hid (∀ W, CourtBox W cb tb book least height bonds pool (.slice ea n ec) → TillAt W tb hb hc nb nc sh sn has non kept → Calls Tryz.prog 36 #[.pointer (some ⟨cb, 0, none⟩), .agg x.toArray] W fun e w' => e = .returned (.int .i64 0) ∧
      CourtBox w' cb tb book least height bonds pool (.slice ea n ec) ∧ TillAt w' tb hb hc nb nc sh sn has' (non.set from_ (nonce + 1)) kept ∧ Keeps (fun k => k = tb ∨ k = hb ∨ k = nb) W w') := fun W hC hT => by
    rw [← hhas]
    exact pay_ok W cb tb hb hc nb nc sh sn book least height bonds pool _ has non kept x 0 nonce fee to_ amount bond from_ last y z hC hT X hcb hl hf hf' hfn hll hy hz hno hn0 hn1 hfee0 hfee hy2 hk0 hk1 hz0 hz1
  have HACT : Hid (∀ W, CourtBox W cb tb book least height bonds pool (.slice ea n ec) → TillAt W tb hb hc nb nc sh sn has' (non.set from_ (nonce + 1)) kept → Calls Tryz.prog 37 #[.pointer (some ⟨cb, 0, none⟩), .agg x.toArray] W fun e w' => e = .returned (.int .i64 0) ∧
      CourtBox w' cb tb book least height bonds pool (.slice ea n ec) ∧ TillAt w' tb hb hc nb nc sh sn ((has'.set from_ (y' - amount)).set to_ (z' + amount)) (non.set from_ (nonce + 1)) kept ∧ Keeps (fun k => k = tb ∨ k = hb ∨ k = nb) W w') := fun W hC hT =>
    act_send W cb tb hb hc nb nc sh sn book least height bonds pool _ has' (non.set from_ (nonce + 1)) kept x nonce fee amount bond from_ to_ y' z' hC hT X hcb hf2 ht2 hy' hz' a0 a1 a2 hk0 a3 a4 a5
  clear C E T X hcb heb hhas hy hz hno hy' hz' hl
  have HE2 : Hid (Value.agg x.toArray = .agg (x.toArray.extract 0 (0 + 2164))) := by show Value.agg x.toArray = _; rw [List.extract_toArray, List.extract_eq_take_drop, List.drop_zero, List.take_of_length_le (by rw [HX.out.len]; decide)]
  have HLE2 : Hid (0 + 2164 ≤ x.toArray.size) := by show 0 + 2164 ≤ x.toArray.size; rw [List.size_toArray, HX.out.len]; decide
  go_enter Tryz.func19, Tryz.ntmps19
  go_upto_region 1 with (fail)
  generalize hWd : w.alloc (.cells x.toArray 59) = W
  obtain ⟨hS, hE⟩ := HHH.out W hWd.symm
  clear hWd HHH
  have HS := Lib.hid hS
  have KO := Lib.hid hE
  clear hS hE
  generalize hB0 : w.heap.size = B at *
  have HB := Lib.hid hB0
  clear hB0
  go_wp2_with ((with_reducible refine wpList_load_sub (op := ⟨some _, .load 59 _, _, _, _, _⟩) rfl 59 _ rfl B 0 2164 ?_ 59 x.toArray (0, 0) _ ?_ ?_ Tryz.underlying59 ?_ ?_ (.agg x.toArray) ?_ ?_); rfl; exact HS.out.tx; exact HLE2.out; rfl; exact tx_info; exact HE2.out)
  refine (HPAY.out W HS.out.court HS.out.till).mono ?_
  rintro e W1 ⟨rfl, C1, T1, k1⟩
  have hS1 : PayW w W1 B cb tb hb hc nb nc sh sn book least height bonds pool (.slice ea n ec) has' (non.set from_ (nonce + 1)) kept x := HS.out.after T1 k1 KC.out KB.out
  have KO1 : Hid (W1.ownsRow 0 89 5 (.slice ea n ec) n evs) := owns_keeps KO.out k1 (fun k hk => by have := HEB.out k hk; simp; omega)
  clear C1 T1 k1 HS KO HPAY
  have HS := Lib.hid hS1
  clear hS1
  go_wp2_with ((with_reducible refine wpList_load_sub (op := ⟨some _, .load 59 _, _, _, _, _⟩) rfl 59 _ rfl B 0 2164 ?_ 59 x.toArray (0, 0) _ ?_ ?_ Tryz.underlying59 ?_ ?_ (.agg x.toArray) ?_ ?_); rfl; exact HS.out.tx; exact HLE2.out; rfl; exact tx_info; exact HE2.out)
  refine (HACT.out W1 HS.out.court HS.out.till).mono ?_
  rintro e W2 ⟨rfl, C2, T2, k2⟩
  have hS2 : PayW w W2 B cb tb hb hc nb nc sh sn book least height bonds pool (.slice ea n ec) ((has'.set from_ (y' - amount)).set to_ (z' + amount)) (non.set from_ (nonce + 1)) kept x := HS.out.after T2 k2 KC.out KB.out
  have KO : Hid (W2.ownsRow 0 89 5 (.slice ea n ec) n evs) := owns_keeps KO1.out k2 (fun k hk => by have := HEB.out k hk; simp; omega)
  clear C2 T2 k2 HS KO1 HACT
  have HS := Lib.hid hS2
  clear hS2
  generalize hF : ((has'.set from_ (y' - amount)).set to_ (z' + amount)) = hasF at *
  have HF := Lib.hid hF
  clear hF
  generalize hN : (non.set from_ (nonce + 1)) = nonF at *
  have HNF := Lib.hid hN
  clear hN
  go_wp2_with fail
  (with_reducible refine region_plan (fun V => CourtBox V cb tb book least height bonds pool (.slice ea n ec) ∧ TxIn V B x) 21 [(0, true), (1, true), (2, true), (3, true), (4, true), (5, true), (6, true), (7, true), (8, true), (9, true), (10, true), (11, true), (12, true), (13, true), (14, true), (15, true), (16, true), (17, false), (18, false), (19, true), (20, true), (21, false)] ?_ ?_ ?_ ?_ ?_ ?_ ?_)
  · kernel_rfl
  · kernel_rfl
  · exact rfl
  · kernel_rfl
  · intro c a d v w h; cases d <;> exact h
  · exact ⟨HS.out.drew.court, HS.out.drew.tx⟩
  intro W3 hW3 K0 hK0
  have hS3 : PayW w W3 B cb tb hb hc nb nc sh sn book least height bonds pool (.slice ea n ec) hasF nonF kept x := hW3 ▸ HS.out.drew
  have KO3 : Hid (W3.ownsRow 0 89 5 (.slice ea n ec) n evs) := hW3 ▸ World.ownsRow.drew KO.out
  clear hW3 HS KO
  have HS := Lib.hid hS3
  clear hS3
  iterate 4 (refine plan_pure (v := ?_) rfl rfl (fun _ => ?_) ?_; rotate_left; (go_simp; with_reducible rfl); simp only [List.getElem_toArray, List.getElem_cons_succ, List.getElem_cons_zero, Act.put, List.setIfInBounds_toArray, List.set_cons_zero, List.set_cons_succ])
  (refine plan_load (v := ?_) rfl (by kernel_rfl) rfl (fun _ hS => ?_) ?_; rotate_left; (have c6 := hS.1.c6; go_simp; with_reducible rfl); simp only [List.getElem_toArray, List.getElem_cons_succ, List.getElem_cons_zero, Act.put, List.setIfInBounds_toArray, List.set_cons_zero, List.set_cons_succ])
  iterate 3 (refine plan_pure (v := ?_) rfl rfl (fun _ => ?_) ?_; rotate_left; (go_simp; with_reducible rfl); simp only [List.getElem_toArray, List.getElem_cons_succ, List.getElem_cons_zero, Act.put, List.setIfInBounds_toArray, List.set_cons_zero, List.set_cons_succ])
  (refine plan_load (v := ?_) rfl (by kernel_rfl) rfl (fun _ hS => ?_) ?_; rotate_left; (have c6 := hS.1.c3; go_simp; with_reducible rfl); simp only [List.getElem_toArray, List.getElem_cons_succ, List.getElem_cons_zero, Act.put, List.setIfInBounds_toArray, List.set_cons_zero, List.set_cons_succ])
  (refine plan_pure (v := ?_) rfl rfl (fun _ => ?_) ?_; rotate_left; (go_simp; with_reducible rfl); simp only [List.getElem_toArray, List.getElem_cons_succ, List.getElem_cons_zero, Act.put, List.setIfInBounds_toArray, List.set_cons_zero, List.set_cons_succ])
  (refine plan_load (v := ?_) rfl (by kernel_rfl) rfl (fun _ hS => ?_) ?_; rotate_left; (have c6 := hS.2.cell HX.out.c0; go_simp; with_reducible rfl); simp only [List.getElem_toArray, List.getElem_cons_succ, List.getElem_cons_zero, Act.put, List.setIfInBounds_toArray, List.set_cons_zero, List.set_cons_succ])
  (refine plan_pure (v := ?_) rfl rfl (fun _ => ?_) ?_; rotate_left; (go_simp; with_reducible rfl); simp only [List.getElem_toArray, List.getElem_cons_succ, List.getElem_cons_zero, Act.put, List.setIfInBounds_toArray, List.set_cons_zero, List.set_cons_succ])
  (refine plan_load (v := ?_) rfl (by kernel_rfl) rfl (fun _ hS => ?_) ?_; rotate_left; (have c6 := hS.2.cell HX.out.c1; go_simp; with_reducible rfl); simp only [List.getElem_toArray, List.getElem_cons_succ, List.getElem_cons_zero, Act.put, List.setIfInBounds_toArray, List.set_cons_zero, List.set_cons_succ])
  (refine plan_pure (v := ?_) rfl rfl (fun _ => ?_) ?_; rotate_left; (go_simp; with_reducible rfl); simp only [List.getElem_toArray, List.getElem_cons_succ, List.getElem_cons_zero, Act.put, List.setIfInBounds_toArray, List.set_cons_zero, List.set_cons_succ])
  (refine plan_load (v := ?_) rfl (by kernel_rfl) rfl (fun _ hS => ?_) ?_; rotate_left; (have c6 := hS.2.cell HX.out.c6; go_simp; with_reducible rfl); simp only [List.getElem_toArray, List.getElem_cons_succ, List.getElem_cons_zero, Act.put, List.setIfInBounds_toArray, List.set_cons_zero, List.set_cons_succ])
  iterate 2 (refine plan_pure (v := ?_) rfl rfl (fun _ => ?_) ?_; rotate_left; (go_simp; with_reducible rfl); simp only [List.getElem_toArray, List.getElem_cons_succ, List.getElem_cons_zero, Act.put, List.setIfInBounds_toArray, List.set_cons_zero, List.set_cons_succ])
  obtain ⟨ie, hie, hz0, hz1, hz2⟩ := info_parts event_row
  have KI : Hid (Tryz.prog.info? 89 = some ie) := hie
  have KZ : Hid (ie.zero = some (.agg #[.int .u64 0, .int .i64 0, .int .i64 0, .int .u32 0, .int .i64 0])) := hz0
  have KS : Hid (ie.size = 5) := hz1
  have KY : Hid (ie.bytes = 40) := hz2
  clear hie hz0 hz1 hz2
  refine plan_do rfl ?_
  intro K1 hK1
  have HK1 := Lib.hid hK1
  clear hK1
  simp only [List.getElem_toArray, List.getElem_cons_succ, List.getElem_cons_zero]
  go_wp2_with ((with_reducible refine wpList_buildOne (op := ⟨some _, .buildSlice 63 1 _, _, _, _, _⟩) rfl 63 89 _ rfl Tryz.underlying63 _ ?_ ie _ KI.out KZ.out ?_ ?_ ?_ ?_); rfl; exact KS.out; decide; decide)
  have hEv : ∃ ev : List Value, ev = [.int .u64 height, .int .i64 0, .int .i64 from_, .int .u32 bond, .int .i64 0] := ⟨_, rfl⟩
  obtain ⟨ev, hev⟩ := hEv
  have P4 : PayW w (W3.alloc (.cells ev.toArray 89)) B cb tb hb hc nb nc sh sn book least height bonds pool (.slice ea n ec) hasF nonF kept x := by
    have h := HS.out
    exact ⟨h.court.keeps (S := fun _ => False) ((Keeps.refl _ _).alloc _) id, h.till.keeps (S := fun _ => False) ((Keeps.refl _ _).alloc _) id id id, (Below.heap_alloc _ _ _ h.size).trans h.tx, h.keep.alloc _, by rw [size_alloc']; have := h.size; omega, h.old⟩
  have KO4 : Hid ((W3.alloc (.cells ev.toArray 89)).ownsRow 0 89 5 (.slice ea n ec) n evs) := KO3.out.alloc _
  have HN4 : Hid (∀ j u, ev[j]? = some u → (W3.alloc (.cells ev.toArray 89)).cell? ((⟨W3.heap.size, 0, none⟩ : Addr).add j) = some u) := fun j u hu => by
    rw [Addr.add_mid, Nat.zero_add]
    exact cells_new _ _ _ _ _ (by rw [List.getElem?_toArray]; exact hu)
  have HL4 : Hid (ev.length = 1 * 5) := by show ev.length = 1 * 5; rw [hev]; rfl
  have H14 : Hid (∀ u ∈ ev, u.oneCell' = true) := fun u hu => by
    rw [hev] at hu
    have := List.all_eq_true.1 (show [Value.int .u64 height, .int .i64 0, .int .i64 from_, .int .u32 bond, .int .i64 0].all (·.oneCell') = true from rfl) u hu
    exact this
  have HEV := Lib.hid hev
  have e4 : W3.alloc (.cells #[.int .u64 height, .int .i64 0, .int .i64 from_, .int .u32 bond, .int .i64 0] 89) = W3.alloc (.cells ev.toArray 89) := by rw [hev]
  rw [e4]
  clear e4 hev
  refine HK1.out _ _ (Or.inr (Or.inr ⟨P4.court, P4.tx⟩)) ?_
  clear HK1 K1 HS KO3
  generalize W3.alloc (.cells ev.toArray 89) = W4 at *
  have HS := Lib.hid P4
  clear P4
  refine plan_do rfl ?_
  intro K1 hK1
  have HK1 := Lib.hid hK1
  clear hK1
  simp only [List.getElem_toArray, List.getElem_cons_succ, List.getElem_cons_zero]
  refine wpList_append_more (w := W4) rfl _ _ 63 rfl 0 89 ie (.agg #[.int .u64 0, .int .i64 0, .int .i64 0, .int .u32 0, .int .i64 0]) 5 40 Tryz.underlying63 KI.out KZ.out KS.out KY.out rfl (by decide) (.slice ea n ec) n evs rfl KO4.out ⟨W3.heap.size, 0, none⟩ 1 1 ev rfl HL4.out HN4.out H14.out (by unfold maxLen; omega) (by omega) (Nat.zero_le _) (by decide) ?_
  intro v' W5 hown hg hblk
  obtain ⟨ea', ec', rfl⟩ : ∃ ea' ec', v' = .slice ea' (n + 1) ec' := by
    obtain ⟨_, h | ⟨g, cap, cur, h, _⟩⟩ := hown
    · exact absurd h.2 (by omega)
    · exact ⟨_, _, h⟩
  have k5 : Keeps (fun k => (Value.slice ea n ec).ownBlock = some k) W4 W5 := (Keeps.refl _ _).grown hg (fun k hk _ => hk)
  have p4 := HS.out
  have nb5 : ∀ k, (Value.slice ea n ec).ownBlock = some k → k ≠ tb ∧ k ≠ hb ∧ k ≠ nb ∧ k ≠ cb := HEB.out
  have C5 := Lib.hid (p4.court.keeps k5 (fun h => (nb5 cb h).2.2.2 rfl))
  have T5 := Lib.hid (p4.till.keeps k5 (fun h => (nb5 tb h).1 rfl) (fun h => (nb5 hb h).2.1 rfl) (fun h => (nb5 nb h).2.2.1 rfl))
  have X5 : Hid (TxIn W5 B x) := (k5.block B p4.size (fun h => absurd (KE.out B h) (by have := HB.out; omega))).trans p4.tx
  have K5 : Hid (Keeps (fun k => k = tb ∨ k = hb ∨ k = nb ∨ k = cb ∨ (Value.slice ea n ec).ownBlock = some k) w W5) :=
    (p4.keep.mono (fun _ _ h => by rcases h with h | h | h; exact Or.inl h; exact Or.inr (Or.inl h); exact Or.inr (Or.inr (Or.inl h)))).trans' k5 (fun _ _ h => Or.inr (Or.inr (Or.inr (Or.inr h))))
  clear hown hg hblk k5 p4 nb5
  go_wp2_with fail
  refine HK1.out _ _ (Or.inr (Or.inr ⟨C5.out, X5.out⟩)) ?_
  clear HK1 K1
  iterate 2 (refine plan_pure (v := ?_) rfl rfl (fun _ => ?_) ?_; rotate_left; (go_simp; with_reducible rfl); simp only [List.getElem_toArray, List.getElem_cons_succ, List.getElem_cons_zero, Act.put, List.setIfInBounds_toArray, List.set_cons_zero, List.set_cons_succ])
  have z5 := C5.out.c6
  have zf := C5.out.fz 6
  refine plan_do rfl ?_
  intro K1 hK1
  have HK1 := Lib.hid hK1
  clear hK1
  simp only [List.getElem_toArray, List.getElem_cons_succ, List.getElem_cons_zero]
  go_wp2_with fail
  refine HK1.out _ _ (by simp) ?_
  clear HK1 K1
  refine plan_nil ?_
  refine hK0 _ _ ?_
  clear hK0 K0 z5 zf
  have C6 := Lib.hid (C5.out.setEvents (.slice ea' (n + 1) ec'))
  have T6 : Hid (TillAt (W5.setCell ⟨cb, 6, none⟩ (.slice ea' (n + 1) ec')) tb hb hc nb nc sh sn hasF nonF kept) :=
    T5.out.keeps (S := fun k => k = cb) ((Keeps.refl (fun k => k = cb) _).setCell ⟨cb, 6, none⟩ (fun _ => rfl) _) (fun h => KC.out.1 h.symm) (fun h => KC.out.2.1 h.symm) (fun h => KC.out.2.2 h.symm)
  have K6 : Hid (Keeps (fun k => k = tb ∨ k = hb ∨ k = nb ∨ k = cb ∨ (Value.slice ea n ec).ownBlock = some k) w (W5.setCell ⟨cb, 6, none⟩ (.slice ea' (n + 1) ec'))) :=
    K5.out.setCell ⟨cb, 6, none⟩ (fun _ => Or.inr (Or.inr (Or.inr (Or.inl rfl)))) _
  clear C5 T5 K5 X5
  generalize W5.setCell ⟨cb, 6, none⟩ (.slice ea' (n + 1) ec') = W6 at *
  have y6 := C6.out.c6
  go_upto_region 6 with (fail)
  clear y6
  have hd : decide (0 < (n : Int) + 1 - 1024) = false := by simp; omega
  generalize (n : Int) + 1 - 1024 = nn at *
  go_wp2_with fail
  go_ret
  refine ⟨_, rfl, C6.out, ?_, K6.out⟩
  rw [HF.out, HNF.out]
  exact T6.out
end Go.Proofs.YtonhmomofpeamaaGreatDoor
