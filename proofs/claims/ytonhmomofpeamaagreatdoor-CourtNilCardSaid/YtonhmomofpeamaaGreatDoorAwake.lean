/- awake: a court of its own makes a block. -/
import Derived.Test.YtonhmomofpeamaaGreatDoorBlock
import Derived.Great.BuildSlice
namespace Go.Proofs.YtonhmomofpeamaaGreatDoor
open Go.RowKit
attribute [local irreducible] Tryz.zeroCells59
noncomputable def awakeTx : List Value := ((Tryz.prog.built 59 [(1, .int .i64 0), (4, .int .i64 1), (5, .int .u64 5), (3, .int .u64 2)]).getD #[]).toList
theorem awakeTx_built : Tryz.prog.built 59 [(1, .int .i64 0), (4, .int .i64 1), (5, .int .u64 5), (3, .int .u64 2)] = some awakeTx.toArray := by kernel_rfl
theorem awakeTx_all : awakeTx.all (·.oneCell') = true := by kernel_rfl
theorem awakeTx_len : awakeTx.length = 2164 := by kernel_rfl
theorem awakeTx_nil : TxNil awakeTx 0 0 0 2 1 5 0 where
  len := awakeTx_len
  one := fun v hv => List.all_eq_true.1 awakeTx_all v hv
  c0 := by kernel_rfl
  c1 := by kernel_rfl
  c2 := by kernel_rfl
  c3 := by kernel_rfl
  c4 := by kernel_rfl
  c5 := by kernel_rfl
  c6 := by kernel_rfl
  rule := by kernel_rfl
  deed := { len := by rw [List.length_drop, awakeTx_len], one := fun v hv => List.all_eq_true.1 awakeTx_all v (List.mem_of_mem_drop hv), conds := by kernel_rfl, way0 := by kernel_rfl, way1 := by kernel_rfl }
theorem awake_tx : ∃ x : List Value, Tryz.prog.built 59 [(1, .int .i64 0), (4, .int .i64 1), (5, .int .u64 5), (3, .int .u64 2)] = some x.toArray ∧ TxNil x 0 0 0 2 1 5 0 := ⟨awakeTx, awakeTx_built, awakeTx_nil⟩
theorem row_one {w : World} {base e s : Nat} {v : Value} {xs : List Value} (h : w.ownsRow base e s v 1 xs) :
    ∃ g cap cur, v = .slice (some ⟨g, 0, none⟩) 1 cap ∧ base ≤ g ∧ w.heap[g]? = some (.cells cur e (0, 0)) ∧ s ≤ cur.size ∧ cur.extract 0 (0 + s) = xs.toArray := by
  obtain ⟨hl, h | ⟨g, cap, cur, h1, h2, h3, h4, h5, h6, h7⟩⟩ := h
  · exact absurd h.2 (by decide)
  · exact ⟨g, cap, cur, h1, h2, h3, by rw [h6]; exact Nat.le_mul_of_pos_left s h4, by
      apply Array.toList_inj.1
      rw [Array.toList_extract, List.extract_eq_take_drop, List.drop_zero, List.toList_toArray, ← h7]
      simp⟩
theorem accounts_ok {w : World} {cb tb nb : Nat} {least height : Int} {bonds pool events : Value} (C : CourtBox w cb tb nb least height bonds pool events) :
    Calls Tryz.prog 29 #[.pointer (some ⟨cb, 0, none⟩)] w fun e w' => e = .returned (.pointer (some ⟨tb, 0, none⟩)) ∧ w = w' := by
  have c0 := C.c0
  clear C
  go_enter Tryz.func29, Tryz.ntmps29
  go_wp2_with fail
  go_ret
  exact ⟨rfl, rfl⟩
theorem has_ok {w : World} {cb tb nb : Nat} {least height : Int} {bonds pool events : Value} {hb hc nn nc : Nat} {sh sn : List Value} {has non : List Int} {kept : Int} (C : CourtBox w cb tb nb least height bonds pool events) (T : TillAt w tb hb hc nn nc sh sn has non kept) (who : Nat) (h : who < has.length) (v : Int) (hv : has[who] = v) :
    Calls Tryz.prog 14 #[.pointer (some ⟨cb, 0, none⟩), .int .i64 who] w fun e w' => e = .returned (.int .u64 v) ∧ w = w' := by
  subst hv
  have K1 := Lib.hid (accounts_ok C)
  have K2 := Lib.hid (till_has T who h)
  clear C T
  go_enter Tryz.func14, Tryz.ntmps14
  go_wp2_with fail
  refine K1.out.mono ?_
  rintro e w' ⟨rfl, rfl⟩
  go_wp2_with fail
  refine K2.out.mono ?_
  rintro e w' ⟨rfl, rfl⟩
  go_wp2_with fail
  go_ret
  exact ⟨rfl, rfl⟩
set_option maxHeartbeats 1000000 in
theorem awake_ok (w : World) : Calls Tryz.prog 6 #[] w fun e w' => e = .returned (.bool true) ∧ Below w.heap.size w w' := by
  go_enter Tryz.func6, Tryz.ntmps6
  go_wp2_with fail
  refine (court_new (w.alloc (.cells #[.int .u64 9, .int .u64 0, .int .u64 0] 35)) 1 [9, 0, 0] w.heap.size 3 (by simp) (fun j h => cells_new _ _ _ _ _ (by match j, h with | 0, _ => rfl | 1, _ => rfl | 2, _ => rfl)) (by simp) (by decide) (by decide) (by decide)).mono ?_
  rintro e W1 ⟨cb, tb, book, mb, hb, hc, nb, nc, sp, rfl, C1, T1, _, k1, k2, k3, k4, k5, k6, k7, k8, k9, k10, k11, k12, k13, kb⟩
  rw [size_alloc'] at k1 k2 k3 k4
  have HC : Hid (cb ≠ tb ∧ cb ≠ hb ∧ cb ≠ nb) := by show cb ≠ tb ∧ cb ≠ hb ∧ cb ≠ nb; omega
  have HM : Hid (∀ k, Mine cb tb hb nb k → w.heap.size ≤ k) := fun k hk => by unfold Mine at hk; omega
  have hb1 : Below w.heap.size w W1 := ((Below.refl w.heap.size w).alloc (Nat.le_refl _) _).trans (kb.mono (by simp))
  have HC1 := Lib.hid C1
  have HT1 := Lib.hid T1
  have HB1 := Lib.hid hb1
  have HS1 : Hid (tb < W1.heap.size ∧ hb < W1.heap.size ∧ nb < W1.heap.size ∧ cb < W1.heap.size) := ⟨lt_of_block T1.box, lt_of_block T1.bhas, lt_of_block T1.bnon, C1.lt⟩
  clear C1 T1 k1 k2 k3 k4 k5 k6 k7 k8 k9 k10 k11 k12 k13 kb hb1
  obtain ⟨x, hx, X⟩ := awake_tx
  have KX := Lib.hid hx
  have HX := Lib.hid X
  clear hx X
  go_wp2_with ((with_reducible refine wpList_buildTo (o := ⟨some _, .build 59 _, _, _, _, _⟩) rfl 59 _ rfl _ rfl x.toArray ?_ ?_); exact Eq.trans (show Tryz.prog.built 59 _ = Tryz.prog.built 59 [(1, .int .i64 0), (4, .int .i64 1), (5, .int .u64 5), (3, .int .u64 2)] by kernel_rfl) KX.out)
  refine (submit_ok W1 cb tb book 1 0 (.slice none 0 0) (.slice none 0 0) none 0 0 3 hc hb [] x 0 0 2 1 5 0 0 HC1.out HT1.out.c0 (World.ownsRow_nil _ _ _ _) HX.out (by decide) (by decide) (by decide) (by decide) (by simp) HS1.out.1).mono ?_
  rintro e W2 ⟨v, rfl, C2, P2, ho2, k2⟩
  obtain ⟨pb, pc, cur, rfl, _, hrow, hsz, hext⟩ := row_one P2
  have hpb : W1.heap.size ≤ pb := by
    rcases ho2 pb rfl with h | h
    · exact h
    · cases h
  have KP : Hid (¬ Mine cb tb hb nb pb) := fun h => by
    have := HS1.out
    unfold Mine at h
    omega
  have KR := Lib.hid hrow
  have KZ := Lib.hid hsz
  have KE : Hid (cur.extract 0 (0 + 2164) = x.toArray) := hext
  have HC2 := Lib.hid C2
  have HT2 : Hid (TillAt W2 tb hb hc nb nc sp [] [9, 0, 0] (List.replicate 3 0) 0) := HT1.out.keeps k2 (fun h => by rcases h with h | h; exact HC.out.1 h.symm; cases h) (fun h => by rcases h with h | h; exact HC.out.2.1 h.symm; cases h) (fun h => by rcases h with h | h; exact HC.out.2.2 h.symm; cases h)
  have HP2 : Hid (pb < W2.heap.size) := lt_of_block hrow
  have HS2 : Hid (w.heap.size ≤ W1.heap.size ∧ W1.heap.size ≤ W2.heap.size) := ⟨HB1.out.size, k2.size⟩
  have HB2 : Hid (Below w.heap.size w W2) := (Keeps.trans' (Keeps.of_below (S := fun _ => False) HB1.out) k2 (fun i hi h => by
    rcases h with rfl | h
    · exact absurd (HM.out _ (Or.inr (Or.inr (Or.inr rfl)))) (by omega)
    · cases h)).below
  clear C2 P2 ho2 k2 hpb hrow hsz hext HC1 HT1 HB1
  go_wp2_with fail
  have HS3 : Hid (BlkW (W2.alloc (.cells #[.int .i64 0] 3)) (W2.alloc (.cells #[.int .i64 0] 3)) cb tb hb hc nb nc sp [] book 1 0 (.slice none 0 0) (.slice (some ⟨pb, 0, none⟩) 1 pc) (.slice none 0 0) [9, 0, 0] (List.replicate 3 0) pb W2.heap.size cur) :=
    ⟨HC2.out.keeps (S := fun _ => False) ((Keeps.refl _ _).alloc _) id, HT2.out.keeps (S := fun _ => False) ((Keeps.refl _ _).alloc _) id id id, (Below.heap_alloc _ _ _ HP2.out).trans KR.out, cells_new _ _ _ _ _ rfl, Keeps.refl _ _⟩
  have HB3 : Hid (Below w.heap.size w (W2.alloc (.cells #[.int .i64 0] 3))) := HB2.out.alloc HB2.out.size _
  have KK : Hid (¬ Mine cb tb hb nb W2.heap.size) := fun h => by
    have := HS1.out
    have := HS2.out
    unfold Mine at h
    omega
  clear HC2 HT2 HP2 KR HB2
  generalize W2.alloc (.cells #[.int .i64 0] 3) = W3 at *
  refine (block_one W3 cb tb hb hc nb nc sp [] book 1 0 (.slice none 0 0) [9, 0, 0] (List.replicate 3 0) [2, 5, 2] [1, 0, 0] pb pc W2.heap.size 1 cur x HS3.out HC.out KP.out KK.out KE.out KZ.out HX.out.len HX.out.one (by decide) (by decide) (fun W C T =>
    (do_send W cb tb hb hc nb nc sp [] book 1 (0 + 1) (.slice none 0 0) (.slice (some ⟨pb, 0, none⟩) 1 pc) none 0 0 [] [9, 0, 0] (List.replicate 3 0) 0 x 0 2 5 0 0 1 2 9 0 7 0 C (World.ownsRow_nil _ _ _ _) T HX.out HC.out (by simp [Value.ownBlock]) (by decide)
      rfl (by decide) (by decide) (by decide) (by decide) rfl rfl rfl (by decide) (by decide) (by decide) (by decide) (by decide) (by decide) (by decide) (by decide) (by decide) (by decide) [7, 0, 2] rfl (by decide) (by decide) rfl rfl (by decide) (by decide) (by decide) (by decide) (by decide) (by decide)).mono
      (fun e w' ⟨v, h1, h2, h3, h4⟩ => ⟨v, h1, h2, h3, h4.mono (fun k _ hk => by rcases hk with h | h | h | h | h; exact Or.inl h; exact Or.inr (Or.inl h); exact Or.inr (Or.inr (Or.inl h)); exact Or.inr (Or.inr (Or.inr h)); cases h)⟩))).mono ?_
  rintro e W4 ⟨ob, oc, v4, rfl, hcell, C4, T4, k4⟩
  have HC4 := Lib.hid C4
  have HT4 := Lib.hid T4
  have HB4 : Hid (Below w.heap.size w W4) := (Keeps.trans' (Keeps.of_below (S := fun _ => False) HB3.out) k4 (fun i hi h => absurd (HM.out i h) (by omega))).below
  clear C4 T4 k4 HB3 HS3
  go_wp2_with fail
  refine (has_ok HC4.out HT4.out 0 (by decide) 2 rfl).mono ?_
  rintro e w' ⟨rfl, rfl⟩
  go_wp2_with fail
  refine (has_ok HC4.out HT4.out 1 (by decide) 5 rfl).mono ?_
  rintro e w' ⟨rfl, rfl⟩
  go_wp2_with fail
  refine (has_ok HC4.out HT4.out 2 (by decide) 2 rfl).mono ?_
  rintro e w' ⟨rfl, rfl⟩
  go_wp2_with fail
  go_ret
  exact ⟨rfl, HB4.out⟩
end Go.Proofs.YtonhmomofpeamaaGreatDoor
