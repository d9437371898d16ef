/- A nil court: what its methods answer. -/
import Derived.Test.YtonhmomofpeamaaGreatDoorLib
namespace Go.Proofs.YtonhmomofpeamaaGreatDoor
open Go.RowKit
noncomputable def aggOf (t : TypeId) : Array Value := match (Tryz.prog.info? t).bind (·.zero) with | some (.agg c) => c | _ => #[]
attribute [irreducible] aggOf
noncomputable def tx0 : Array Value := aggOf 59
theorem build59 (w : World) : (Instr.build 59 #[]).run Tryz.prog w = .ok (.agg tx0) w := by kernel_rfl
noncomputable def cond0 : Array Value := aggOf 72
theorem build72 (w : World) : (Instr.build 72 #[]).run Tryz.prog w = .ok (.agg cond0) w := by kernel_rfl
set_option maxHeartbeats 400000 in
theorem submit_nil (c : Array Value) (w : World) :
    Calls Tryz.prog 7 #[.pointer none, .agg c] w fun e w' => e = .returned (.int .i64 2) ∧ Below w.heap.size w w' := by
  go_enter Tryz.func7, Tryz.ntmps7
  go_wp2
  go_ret
  exact ⟨rfl, by repeat (first | exact Below.refl _ _ | apply Below.drew | (refine Below.alloc ?_ (by simp) _))⟩
set_option maxHeartbeats 400000 in
theorem block_nil (s : Value) (w : World) :
    Calls Tryz.prog 4 #[.pointer none, s] w fun e w' => e = .returned (.tuple #[.slice none 0 0, .int .i64 2]) ∧ w = w' := by
  go_enter Tryz.func4, Tryz.ntmps4
  go_wp2
  go_ret2
  exact ⟨rfl, rfl⟩
theorem height_nil (w : World) : Calls Tryz.prog 8 #[.pointer none] w fun e w' => e = .returned (.int .u64 0) ∧ w = w' := by
  go_enter Tryz.func8, Tryz.ntmps8
  go_wp2
  go_ret
  exact ⟨rfl, rfl⟩
theorem least_nil (w : World) : Calls Tryz.prog 9 #[.pointer none] w fun e w' => e = .returned (.int .u64 0) ∧ w = w' := by
  go_enter Tryz.func9, Tryz.ntmps9
  go_wp2
  go_ret
  exact ⟨rfl, rfl⟩
theorem pool_nil (w : World) : Calls Tryz.prog 10 #[.pointer none] w fun e w' => e = .returned (.slice none 0 0) ∧ w = w' := by
  go_enter Tryz.func10, Tryz.ntmps10
  go_wp2
  go_ret
  exact ⟨rfl, rfl⟩
theorem events_nil (w : World) : Calls Tryz.prog 11 #[.pointer none] w fun e w' => e = .returned (.slice none 0 0) ∧ w = w' := by
  go_enter Tryz.func11, Tryz.ntmps11
  go_wp2
  go_ret
  exact ⟨rfl, rfl⟩
theorem bonds_nil (w : World) : Calls Tryz.prog 12 #[.pointer none] w fun e w' => e = .returned (.int .i64 0) ∧ w = w' := by
  go_enter Tryz.func12, Tryz.ntmps12
  go_wp2
  go_ret
  exact ⟨rfl, rfl⟩
theorem locked_nil (w : World) : Calls Tryz.prog 13 #[.pointer none] w fun e w' => e = .returned (.int .u64 0) ∧ w = w' := by
  go_enter Tryz.func13, Tryz.ntmps13
  go_wp2
  go_ret
  exact ⟨rfl, rfl⟩
theorem has_nil (p : Int) (w : World) : Calls Tryz.prog 14 #[.pointer none, .int .i64 p] w fun e w' => e = .returned (.int .u64 0) ∧ w = w' := by
  go_enter Tryz.func14, Tryz.ntmps14
  go_wp2
  go_ret
  exact ⟨rfl, rfl⟩
theorem all_nil (w : World) : Calls Tryz.prog 15 #[.pointer none] w fun e w' => e = .returned (.int .u64 0) ∧ w = w' := by
  go_enter Tryz.func15, Tryz.ntmps15
  go_wp2
  go_ret
  exact ⟨rfl, rfl⟩
theorem told_nil (w : World) : Calls Tryz.prog 16 #[.pointer none] w fun e w' => e = .returned (.int .i64 0) ∧ w = w' := by
  go_enter Tryz.func16, Tryz.ntmps16
  go_wp2
  go_ret
  exact ⟨rfl, rfl⟩
theorem book_nil (w : World) : Calls Tryz.prog 32 #[.pointer none] w fun e w' => e = .returned (.pointer none) ∧ w = w' := by
  go_enter Tryz.func32, Tryz.ntmps32
  go_wp2
  go_ret
  exact ⟨rfl, rfl⟩
set_option maxHeartbeats 400000 in
theorem when_nil (h : Array Value) (w : World) : Calls Tryz.prog 53 #[.pointer none, .agg h] w fun e w' => e = .returned (.tuple #[.int .u64 0, .bool false]) ∧ Below w.heap.size w w' := by
  go_enter Tryz.func53, Tryz.ntmps53
  go_wp2
  go_ret2
  exact ⟨rfl, by repeat (first | exact Below.refl _ _ | apply Below.drew | (refine Below.alloc ?_ (by simp) _))⟩
noncomputable def hash0 : Array Value := aggOf 70
set_option maxHeartbeats 400000 in
theorem in_nil (x : Int) (w : World) : Calls Tryz.prog 45 #[.pointer none, .agg hash0, .int .u64 x] w fun e w' => e = .returned (.bool false) ∧ Below w.heap.size w w' := by
  go_enter Tryz.func45, Tryz.ntmps45
  go_wp2_with (first | (go_at_call 53; refine (when_nil _ _).mono ?_; rintro e w' ⟨rfl, hg⟩) | (refine wpList_load_row rfl 70 _ rfl _ rfl 70 hash0 (0, 0) _ (heap_alloc_new _ _) Tryz.underlying70 rfl (by kernel_rfl) ?_))
  go_ret
  exact ⟨rfl, bl ((Below.refl _ _).alloc (by simp) _) hg⟩

theorem cond0_hash : cond0.extract 3 (3 + 32) = hash0 := by kernel_rfl
theorem cond0_whole : Value.agg cond0 = .agg (cond0.extract 0 (0 + 36)) := by kernel_rfl
theorem cond0_size : cond0.size = 36 := by kernel_rfl
set_option maxHeartbeats 400000 in
theorem of_nil (w : World) : Calls Tryz.prog 34 #[.pointer none, .agg cond0, .int .u64 0] w fun e w' => e = .returned (.int .i64 0) ∧ Below w.heap.size w w' := by
  have h35 : (w.alloc (.cells cond0 72)).cell? ⟨w.heap.size, 35, none⟩ = some (.int .u64 0) := cells_new _ _ _ _ _ (by kernel_rfl)
  have hsz : 3 + 32 ≤ cond0.size := by rw [cond0_size]; decide
  go_enter Tryz.func34, Tryz.ntmps34
  go_wp2_with (refine wpList_load_sub rfl 70 _ rfl _ 3 32 rfl 72 cond0 (0, 0) _ (heap_alloc_new _ _) hsz Tryz.underlying70 rfl (by kernel_rfl) (.agg hash0) (congrArg Value.agg cond0_hash.symm) ?_)
  refine (in_nil _ _).mono ?_
  rintro e w' ⟨rfl, hg⟩
  have h35' := (hg.cell (p := ⟨w.heap.size, 35, none⟩) (by simp)).trans h35
  go_wp2_with fail
  go_ret
  exact ⟨rfl, bl ((Below.refl _ _).alloc (by simp) _) hg⟩
attribute [local irreducible] wpStill
set_option maxHeartbeats 400000 in
theorem verdict_nil (w : World) : Calls Tryz.prog 17 #[.pointer none, .agg cond0] w fun e w' => e = .returned (.int .i64 0) ∧ Below w.heap.size w w' := by
  have hsz : 0 + 36 ≤ cond0.size := by rw [cond0_size]; decide
  go_enter Tryz.func17, Tryz.ntmps17
  go_wp2_with fail
  refine region_tail 5 (by kernel_rfl) (by kernel_rfl) ?_
  intro W hW K0 hK0
  have HW : Below w.heap.size w W ∧ W.heap[w.heap.size]? = some (.cells cond0 72) := by
    subst hW
    exact ⟨(Below.refl _ _).alloc (Nat.le_refl _) _ |>.drew, heap_alloc_new _ _⟩
  clear hW
  obtain ⟨hW1, hW2⟩ := HW
  simp only [List.take_succ_cons, List.take_zero, List.drop_succ_cons, List.drop_zero] at hK0 ⊢
  still_step
  refine wpStill_step (fun K hK => ?_)
  go_simp
  refine ⟨_, (book_nil _).mono fun e w' h => ⟨h.1, h.2.symm⟩, hK _ ?_⟩
  clear hK K
  refine wpStill_load_sub rfl 72 _ rfl w.heap.size 0 36 rfl 72 cond0 (0, 0) _ hW2 hsz Tryz.underlying72 rfl (by kernel_rfl) (.agg cond0) cond0_whole ?_
  still_step
  refine wpStill_step (fun K hK => ?_)
  go_simp
  refine ⟨_, (height_nil _).mono fun e w' h => ⟨h.1, h.2.symm⟩, hK _ ?_⟩
  clear hK K
  refine wpStill_nil ?_
  refine hK0 _ ?_
  go_wp2_with fail
  refine (of_nil _).mono ?_
  rintro e w' ⟨rfl, hg⟩
  go_wp2_with fail
  go_ret
  exact ⟨rfl, bl hW1 hg⟩

attribute [local irreducible] Tryz.zeroCells41 Tryz.zeroCells59
theorem bond0_info : (Tryz.prog.info? 41).map (·.size) = some Tryz.zeroCells41.size := by kernel_rfl
theorem bond0_one : Tryz.zeroCells41.all (·.oneCell') = true := by kernel_rfl
set_option maxHeartbeats 400000 in
theorem bond_nil (w : World) : Calls Tryz.prog 5 #[.pointer none, .int .u32 0] w fun e w' => e = .returned (.tuple #[.agg Tryz.zeroCells41, .bool false]) ∧ Below w.heap.size w w' := by
  go_enter Tryz.func5, Tryz.ntmps5
  go_wp2_with (with_reducible refine wpList_store_row (o := ⟨none, .store 41 _ _, _, _, _, _⟩) rfl 41 _ _ rfl w.heap.size Tryz.zeroCells41 rfl rfl 41 Tryz.zeroCells41 (heap_alloc_new _ _) bond0_info rfl bond0_one ?_)
  refine bodyPost_ret (v := .tuple #[.agg Tryz.zeroCells41, .bool false]) ?_ rfl ⟨rfl, ?_⟩
  · exact results_row_tmp (p := 4) (u := 5) (ty := 41) rfl _ _ w.heap.size 41 _ (0, 0) _ rfl _ rfl (setRow_row _ _ _ _ _ _ (heap_alloc_new _ _)) Tryz.underlying41 rfl bond0_info
  · exact below_setRow ((Below.refl _ _).alloc (Nat.le_refl _) _) _ (Nat.le_refl _) _
end Go.Proofs.YtonhmomofpeamaaGreatDoor
