/- The walk of CourtNil, for every p and every world, without further condition: it answers true and lays only new blocks. -/
import Derived.Test.YtonhmomofpeamaaGreatDoorAwake
import Derived.Test.YtonhmomofpeamaaGreatDoorNil
namespace Go.Proofs.YtonhmomofpeamaaGreatDoor
open Go.RowKit
attribute [local irreducible] Tryz.zeroCells59 Tryz.zeroCells41
theorem verdict_nil' (c : Array Value) (h : c = cond0) (w : World) : Calls Tryz.prog 17 #[.pointer none, .agg c] w fun e w' => e = .returned (.int .i64 0) ∧ Below w.heap.size w w' := h ▸ verdict_nil w
set_option maxHeartbeats 1000000 in
theorem court_nil (p : Int) (w : World) : Calls Tryz.prog 3 #[.int .i64 p] w fun e w' => e = .returned (.bool true) ∧ Below w.heap.size w w' := by
  go_enter Tryz.func3, Tryz.ntmps3
  go_wp2_with fail
  refine (block_nil _ _).mono ?_
  rintro e w' ⟨rfl, rfl⟩
  go_wp2_with fail
  refine (bond_nil _).mono ?_
  rintro e W1 ⟨rfl, hb⟩
  have HB1 : Hid (Below w.heap.size w W1) := ((Below.refl _ _).alloc (Nat.le_refl _) _).trans (hb.mono (by simp))
  clear hb
  go_wp2_with ((with_reducible refine wpList_store_row (o := ⟨none, .store 41 _ _, _, _, _, _⟩) rfl 41 _ _ rfl W1.heap.size Tryz.zeroCells41 ?_ ?_ 41 Tryz.zeroCells41 (heap_alloc_new _ _) bond0_info ?_ bond0_one ?_); rfl; rfl; rfl)
  have HB2 : Hid (Below w.heap.size w ((W1.alloc (.cells Tryz.zeroCells41 41)).setRow W1.heap.size Tryz.zeroCells41)) := below_setRow (HB1.out.alloc HB1.out.size _) _ HB1.out.size _
  clear HB1
  generalize (W1.alloc (.cells Tryz.zeroCells41 41)).setRow W1.heap.size Tryz.zeroCells41 = W2 at *
  refine (awake_ok W2).mono ?_
  rintro e W3 ⟨rfl, hb⟩
  have HB3 : Hid (Below w.heap.size w W3) := HB2.out.trans (hb.mono HB2.out.size)
  clear hb HB2
  go_wp2_with fail
  refine (submit_nil Tryz.zeroCells59 W3).mono ?_
  rintro e W4 ⟨rfl, hb⟩
  have HB4 : Hid (Below w.heap.size w W4) := HB3.out.trans (hb.mono HB3.out.size)
  clear hb HB3
  go_wp2_with fail
  refine (height_nil _).mono ?_
  rintro e w' ⟨rfl, rfl⟩
  go_wp2_with fail
  refine (least_nil _).mono ?_
  rintro e w' ⟨rfl, rfl⟩
  go_wp2_with fail
  refine (pool_nil _).mono ?_
  rintro e w' ⟨rfl, rfl⟩
  go_wp2_with fail
  refine (events_nil _).mono ?_
  rintro e w' ⟨rfl, rfl⟩
  go_wp2_with fail
  refine (bonds_nil _).mono ?_
  rintro e w' ⟨rfl, rfl⟩
  go_wp2_with fail
  refine (locked_nil _).mono ?_
  rintro e w' ⟨rfl, rfl⟩
  go_wp2_with fail
  refine (has_nil _ _).mono ?_
  rintro e w' ⟨rfl, rfl⟩
  go_wp2_with fail
  refine (all_nil _).mono ?_
  rintro e w' ⟨rfl, rfl⟩
  go_wp2_with fail
  refine (told_nil _).mono ?_
  rintro e w' ⟨rfl, rfl⟩
  go_wp2_with fail
  refine (verdict_nil' _ (by kernel_rfl) _).mono ?_
  rintro e W5 ⟨rfl, hb⟩
  have HB5 : Hid (Below w.heap.size w W5) := HB4.out.trans (hb.mono HB4.out.size)
  clear hb HB4
  go_wp2_with fail
  go_ret
  exact ⟨rfl, HB5.out⟩
end Go.Proofs.YtonhmomofpeamaaGreatDoor
