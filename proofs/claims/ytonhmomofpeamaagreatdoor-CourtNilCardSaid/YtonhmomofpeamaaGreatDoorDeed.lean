/- pact.Twin, deed.Deed.Twin where no payment and no way is there. -/
import Derived.Test.YtonhmomofpeamaaGreatDoorNew
import Derived.Test.YtonhmomofpeamaaGreatDoorPlan
import Derived.Deep.DeepCutAuto
import Derived.LoopTactic
namespace Go.Proofs.YtonhmomofpeamaaGreatDoor
open Go.RowKit
theorem state_info : (Tryz.prog.info? 39).map (·.size) = some 7 := by kernel_rfl
set_option maxHeartbeats 1000000 in
theorem pact_twin_nil (w : World) (c0 c1 c2 c3 c4 c5 : Value) (h : ∀ v ∈ [c0, c1, c2, c3, c4, c5], v.oneCell' = true) :
    Calls Tryz.prog 38 #[.agg #[c0, c1, c2, c3, c4, c5, .slice none 0 0]] w fun e w' => e = .returned (.agg #[c0, c1, c2, c3, c4, c5, .slice none 0 0]) ∧ Below w.heap.size w w' := by
  have hone : ∀ v ∈ [c0, c1, c2, c3, c4, c5, .slice none 0 0], v.oneCell' = true := fun v hv => by
    rcases List.mem_append.1 (show v ∈ [c0, c1, c2, c3, c4, c5] ++ [.slice none 0 0] from hv) with hv | hv
    · exact h v hv
    · obtain rfl := List.mem_singleton.1 hv; rfl
  have H := Lib.hid hone
  have HL : Hid (0 + [c0, c1, c2, c3, c4, c5, .slice none 0 0].length ≤ [Value.int .u32 0, .int .u64 0, .int .u64 0, .int .u64 0, .int .u64 0, .int .u64 0, .slice none 0 0].length) := Nat.le_refl 7
  clear h hone
  go_enter Tryz.func38, Tryz.ntmps38
  go_wp2_with (first | (go_at_call 51; refine (clone_nil_cond _).mono ?_; rintro e w' ⟨rfl, rfl⟩) | ((with_reducible refine wpList_store_sub (op := ⟨none, .store 39 _ _, _, _, _, _⟩) rfl 39 _ _ rfl (w.heap.size + 1) 0 [c0, c1, c2, c3, c4, c5, .slice none 0 0] ?_ ?_ 39 [.int .u32 0, .int .u64 0, .int .u64 0, .int .u64 0, .int .u64 0, .int .u64 0, .slice none 0 0] ?_ ?_ ?_ ?_ ?_); rfl; rfl; exact heap_alloc2_new w _ _; exact HL.out; exact state_info; exact H.out))

  refine bodyPost_ret (v := .agg #[c0, c1, c2, c3, c4, c5, .slice none 0 0]) ?_ rfl ⟨rfl, ?_⟩
  · exact results_row (p := 2) (ty := 39) rfl _ _ (w.heap.size + 1) 39 _ (0, 0) _ rfl (setRow_row _ _ _ _ _ _ (heap_alloc2_new w _ _)) Tryz.underlying39 rfl (by kernel_rfl)
  · exact below_setRow (((Below.refl _ _).alloc (Nat.le_refl _) _).alloc (by simp) _) _ (by omega) _

attribute [local irreducible] Tryz.zeroCells57
theorem deed_info : (Tryz.prog.info? 57).map (·.size) = some 2059 := by kernel_rfl
theorem zdeed : ∃ l : List Value, Tryz.zeroCells57 = l.toArray ∧ l.length = 2059 := ⟨Tryz.zeroCells57.toList, by simp, by kernel_rfl⟩
/-- A deed whose lists are nil. -/
structure DeedNil (d : List Value) : Prop where
  len : d.length = 2059
  one : ∀ v ∈ d, v.oneCell' = true
  conds : d[6]? = some (.slice none 0 0)
  way0 : d[1032]? = some (.slice none 0 0)
  way1 : d[2058]? = some (.slice none 0 0)
theorem set_same {l : List Value} {i : Nat} {v : Value} (h : l[i]? = some v) : l.toArray.setIfInBounds i v = l.toArray := by
  rw [List.setIfInBounds_toArray]
  congr 1
  apply List.ext_getElem?
  intro j
  rw [List.getElem?_set]
  split
  · next hij => subst hij; split
                · exact h.symm
                · next hn => rw [List.getElem?_eq_none (by omega)]
  · rfl
/-- The two variables of the call. -/
structure DeedWorld (w W : World) (B : Nat) (d z : List Value) : Prop where
  blk : W.heap[B]? = some (.cells d.toArray 57 (0, 0))
  zero : W.heap[B + 1]? = some (.cells z.toArray 57 (0, 0))
  size : B + 2 ≤ W.heap.size
  below : Below B w W
section
variable {w W : World} {B : Nat} {d z : List Value}
theorem DeedWorld.way0 (h : DeedWorld w W B d z) (D : DeedNil d) : W.cell? ⟨B, 1032, none⟩ = some (.slice none 0 0) := by rw [cell_of_row W B 1032 _ _ _ h.blk, List.getElem?_toArray]; exact D.way0
theorem DeedWorld.way1 (h : DeedWorld w W B d z) (D : DeedNil d) : W.cell? ⟨B, 2058, none⟩ = some (.slice none 0 0) := by rw [cell_of_row W B 2058 _ _ _ h.blk, List.getElem?_toArray]; exact D.way1
theorem DeedWorld.fz (h : DeedWorld w W B d z) (i : Nat) : W.frozen? ⟨B, i, none⟩ = false := frozen_of_row W B i _ _ h.blk
theorem DeedWorld.set (h : DeedWorld w W B d z) {i : Nat} {v : Value} (hv : d[i]? = some v) : DeedWorld w (W.setCell ⟨B, i, none⟩ v) B d z :=
  ⟨by rw [heap_setCell_same W B i _ _ _ h.blk, set_same hv], by rw [heap_setCell_other _ _ _ _ (by simp)]; exact h.zero, by simpa [World.setCell] using h.size, h.below.setCell (Nat.le_refl _) _⟩
end
set_option maxHeartbeats 2000000 in
theorem deed_twin_nil (w : World) (d : List Value) (D : DeedNil d) :
    Calls Tryz.prog 24 #[.agg d.toArray] w fun e w' => e = .returned (.agg d.toArray) ∧ Below w.heap.size w w' := by
  obtain ⟨z, hz, hzl⟩ := zdeed
  have h6 : ∃ c0 c1 c2 c3 c4 c5, d.take 7 = [c0, c1, c2, c3, c4, c5, .slice none 0 0] := by
    have hl : 7 ≤ d.length := by rw [D.len]; omega
    have hc := D.conds
    match d, hl with
    | c0 :: c1 :: c2 :: c3 :: c4 :: c5 :: c6 :: r, _ =>
      simp at hc
      exact ⟨c0, c1, c2, c3, c4, c5, by simp [hc]⟩
  obtain ⟨c0, c1, c2, c3, c4, c5, h7⟩ := h6
  have hst : Value.agg #[c0, c1, c2, c3, c4, c5, .slice none 0 0] = .agg (d.toArray.extract 0 (0 + 7)) := by
    rw [List.extract_toArray]; simp [h7, List.extract]
  have hpatch : patch d 0 [c0, c1, c2, c3, c4, c5, .slice none 0 0] = d := by
    have := patch_same d 0 7
    rw [List.drop_zero, h7] at this
    exact this
  have hone : ∀ v ∈ [c0, c1, c2, c3, c4, c5, .slice none 0 0], v.oneCell' = true := fun v hv => D.one v (List.mem_of_mem_take (h7 ▸ hv))
  have hle1 : 0 + 7 ≤ d.toArray.size := by simp [D.len]
  have H3 : Hid (0 + 2059 ≤ d.toArray.size) := by show 0 + 2059 ≤ d.toArray.size; simp [D.len]
  have H4 : Hid (0 + d.length ≤ z.length) := by show 0 + d.length ≤ z.length; rw [D.len, hzl]; exact (by decide : 2059 ≤ 2059)
  have H5 : Hid ((Tryz.prog.info? 57).map (·.size) = some d.length) := by show _ = some d.length; rw [D.len]; exact deed_info
  have H6 : Hid (patch z 0 d = d) := patch_whole z d (by rw [D.len, hzl])
  have hwh : Value.agg d.toArray = .agg (d.toArray.extract 0 (0 + 2059)) := by rw [List.extract_toArray]; simp [List.extract, D.len, List.take_of_length_le]
  have HW := Lib.hid hwh
  clear hwh
  have hle2 : 0 + [c0, c1, c2, c3, c4, c5, .slice none 0 0].length ≤ d.length := by rw [D.len]; exact (by decide : 7 ≤ 2059)
  have HS := Lib.hid hst
  have HP := Lib.hid hpatch
  have HO := Lib.hid hone
  have HZ := Lib.hid hz
  have T1 := Lib.hid (pact_twin_nil)
  have hone6 : ∀ v ∈ [c0, c1, c2, c3, c4, c5], v.oneCell' = true := fun v hv => hone v (show v ∈ [c0, c1, c2, c3, c4, c5] ++ [Value.slice none 0 0] from List.mem_append_left _ hv)
  have HO6 := Lib.hid hone6
  have H1 := Lib.hid hle1
  have H2 := Lib.hid hle2
  have HD := Lib.hid D
  have HZL := Lib.hid hzl
  clear hst hpatch hone hone6 hle1 hle2 h7 hz D hzl
  go_enter Tryz.func24, Tryz.ntmps24
  go_upto_region 1 with (fail)
  have HW0 : ∀ W : World, W = (w.alloc (.cells d.toArray 57)).alloc (.cells Tryz.zeroCells57 57) → W.heap[w.heap.size]? = some (.cells d.toArray 57 (0, 0)) ∧ W.heap[w.heap.size + 1]? = some (.cells z.toArray 57 (0, 0)) ∧ Below w.heap.size w W ∧ w.heap.size + 2 ≤ W.heap.size := fun W hW => by
    subst hW
    exact ⟨heap_alloc2_old w _ _, by rw [← HZ.out]; exact heap_alloc2_new w _ _, ((Below.refl _ _).alloc (Nat.le_refl _) _).alloc (by simp) _, by simp⟩
  generalize hWd : (w.alloc (.cells d.toArray 57)).alloc (.cells Tryz.zeroCells57 57) = W
  obtain ⟨hB, hZ, hbel, hsz⟩ := HW0 W hWd.symm
  clear HW0 hWd
  have KB := Lib.hid hB
  have KZ := Lib.hid hZ
  have KW := Lib.hid hbel
  clear hB hZ hbel
  generalize hb : w.heap.size = B at *
  have HB0 := Lib.hid hb
  clear hb
  go_wp2_with ((with_reducible refine wpList_load_sub (op := ⟨some _, .load 39 _, _, _, _, _⟩) rfl 39 _ rfl B 0 7 ?_ 57 d.toArray (0, 0) _ ?_ ?_ Tryz.underlying39 ?_ ?_ (.agg #[c0, c1, c2, c3, c4, c5, .slice none 0 0]) ?_ ?_); rfl; exact KB.out; exact H1.out; rfl; exact state_info; exact HS.out)
  refine (T1.out _ _ _ _ _ _ _ HO6.out).mono ?_
  rintro e w1 ⟨rfl, hb1⟩
  have KB1 : Hid (w1.heap[B]? = some (.cells d.toArray 57 (0, 0))) := (hb1.block B (by omega)).trans KB.out
  have KZ1 : Hid (w1.heap[B + 1]? = some (.cells z.toArray 57 (0, 0))) := (hb1.block (B + 1) (by omega)).trans KZ.out
  have hsz1 : B + 2 ≤ w1.heap.size := by have := hb1.size; omega
  have KW1 := Lib.hid (KW.out.trans (hb1.mono (by omega)))
  clear hb1 KB KZ KW hsz
  go_upto_region 2 with ((with_reducible refine wpList_store_sub (op := ⟨none, .store 39 _ _, _, _, _, _⟩) rfl 39 _ _ rfl B 0 [c0, c1, c2, c3, c4, c5, .slice none 0 0] ?_ ?_ 57 d ?_ ?_ ?_ ?_ ?_); rfl; rfl; exact KB1.out; exact H2.out; exact state_info; exact HO.out)
  rw [HP.out, setRow_same KB1.out]
  have DW0 : DeedWorld w w1 B d z := ⟨KB1.out, KZ1.out, hsz1, KW1.out⟩
  have KD := Lib.hid DW0
  clear DW0 KB1 KZ1 hsz1 KW1
  go_wp2_with fail
  go_loopw [8] (fun i W => ∃ k : Nat, k ≤ 2 ∧ i = .int .i64 k ∧ DeedWorld w W B d z) (fun i _ => 2 - (intOf i).toNat)
  case atStart => exact ⟨0, by omega, rfl, KD.out⟩
  case round =>
    obtain ⟨k, hk, rfl, DW⟩ := hrel
    have c0 := DW.way0 HD.out
    have c1 := DW.way1 HD.out
    have f0 := DW.fz 1032
    have f1 := DW.fz 2058
    have KDW := Lib.hid DW
    clear DW
    rcases (show k = 0 ∨ k = 1 ∨ k = 2 by omega) with rfl | rfl | rfl
    · go_wp2_with (go_at_call 41; refine (clone_nil_digest _).mono ?_; rintro e w' ⟨rfl, rfl⟩)
      go_roundw
      case rel => exact ⟨1, by omega, rfl, KDW.out.set HD.out.way0⟩
      case measure => simp [intOf]
    · go_wp2_with (go_at_call 41; refine (clone_nil_digest _).mono ?_; rintro e w' ⟨rfl, rfl⟩)
      go_roundw
      case rel => exact ⟨2, by omega, rfl, KDW.out.set HD.out.way1⟩
      case measure => simp [intOf]
    · go_wp2_with (first | ((with_reducible refine wpList_load_sub (op := ⟨some _, .load 57 _, _, _, _, _⟩) rfl 57 _ rfl B 0 2059 ?_ 57 d.toArray (0, 0) _ ?_ ?_ Tryz.underlying57 ?_ ?_ (.agg d.toArray) ?_ ?_); rfl; exact KDW.out.blk; exact H3.out; rfl; exact deed_info; exact HW.out) | ((with_reducible refine wpList_store_sub (op := ⟨none, .store 57 _ _, _, _, _, _⟩) rfl 57 _ _ rfl (B + 1) 0 d ?_ ?_ 57 z ?_ ?_ ?_ ?_ ?_); rfl; rfl; exact KDW.out.zero; exact H4.out; exact H5.out; exact HD.out.one))
      refine bodyPost_ret (v := .agg d.toArray) ?_ rfl ⟨rfl, ?_⟩
      · rw [H6.out]
        exact results_row (p := 2) (ty := 57) rfl _ _ (B + 1) 57 _ (0, 0) _ rfl (setRow_row _ _ _ _ _ _ KDW.out.zero) Tryz.underlying57 rfl (by rw [List.size_toArray]; exact H5.out)
      · rw [HB0.out]
        exact below_setRow KDW.out.below (B + 1) (Nat.le_succ B) _
end Go.Proofs.YtonhmomofpeamaaGreatDoor
