/- court.New; what its other calls do to a court. -/
import Derived.Test.YtonhmomofpeamaaGreatDoorDeed
namespace Go.Proofs.YtonhmomofpeamaaGreatDoor
open Go.RowKit
/-- A court lies in block cb. -/
structure CourtBox (w : World) (cb tb nb : Nat) (least height : Int) (bonds pool events : Value) : Prop where
  box : w.heap[cb]? = some (.cells #[.pointer (some ⟨tb, 0, none⟩), .pointer (some ⟨nb, 0, none⟩), .int .u64 least, .int .u64 height, bonds, pool, events] 79 (0, 0))
section
variable {w w' : World} {cb tb nb : Nat} {least height : Int} {bonds pool events : Value}
theorem CourtBox.c0 (h : CourtBox w cb tb nb least height bonds pool events) : w.cell? ⟨cb, 0, none⟩ = some (.pointer (some ⟨tb, 0, none⟩)) := by rw [cell_of_row w cb 0 _ _ _ h.box]; rfl
theorem CourtBox.c1 (h : CourtBox w cb tb nb least height bonds pool events) : w.cell? ⟨cb, 1, none⟩ = some (.pointer (some ⟨nb, 0, none⟩)) := by rw [cell_of_row w cb 1 _ _ _ h.box]; rfl
theorem CourtBox.c2 (h : CourtBox w cb tb nb least height bonds pool events) : w.cell? ⟨cb, 2, none⟩ = some (.int .u64 least) := by rw [cell_of_row w cb 2 _ _ _ h.box]; rfl
theorem CourtBox.c3 (h : CourtBox w cb tb nb least height bonds pool events) : w.cell? ⟨cb, 3, none⟩ = some (.int .u64 height) := by rw [cell_of_row w cb 3 _ _ _ h.box]; rfl
theorem CourtBox.c4 (h : CourtBox w cb tb nb least height bonds pool events) : w.cell? ⟨cb, 4, none⟩ = some bonds := by rw [cell_of_row w cb 4 _ _ _ h.box]; rfl
theorem CourtBox.c5 (h : CourtBox w cb tb nb least height bonds pool events) : w.cell? ⟨cb, 5, none⟩ = some pool := by rw [cell_of_row w cb 5 _ _ _ h.box]; rfl
theorem CourtBox.c6 (h : CourtBox w cb tb nb least height bonds pool events) : w.cell? ⟨cb, 6, none⟩ = some events := by rw [cell_of_row w cb 6 _ _ _ h.box]; rfl
theorem CourtBox.fz (h : CourtBox w cb tb nb least height bonds pool events) (i : Nat) : w.frozen? ⟨cb, i, none⟩ = false := frozen_of_row w cb i _ _ h.box
theorem lt_of_block {w : World} {b : Nat} {o : Obj} (h : w.heap[b]? = some o) : b < w.heap.size := by
  rcases Nat.lt_or_ge b w.heap.size with h' | h'
  · exact h'
  · rw [Array.getElem?_eq_none h'] at h; cases h
theorem CourtBox.lt (h : CourtBox w cb tb nb least height bonds pool events) : cb < w.heap.size := lt_of_block h.box
theorem CourtBox.keeps (h : CourtBox w cb tb nb least height bonds pool events) {S : Nat → Prop} (k : Keeps S w w') (hs : ¬ S cb) : CourtBox w' cb tb nb least height bonds pool events := ⟨(k.block _ h.lt hs).trans h.box⟩
theorem CourtBox.setHeight (h : CourtBox w cb tb nb least height bonds pool events) (x : Int) : CourtBox (w.setCell ⟨cb, 3, none⟩ (.int .u64 x)) cb tb nb least x bonds pool events := ⟨by rw [heap_setCell_same w cb 3 _ _ _ h.box]; rfl⟩
theorem CourtBox.setBonds (h : CourtBox w cb tb nb least height bonds pool events) (x : Value) : CourtBox (w.setCell ⟨cb, 4, none⟩ x) cb tb nb least height x pool events := ⟨by rw [heap_setCell_same w cb 4 _ _ _ h.box]; rfl⟩
theorem CourtBox.setPool (h : CourtBox w cb tb nb least height bonds pool events) (x : Value) : CourtBox (w.setCell ⟨cb, 5, none⟩ x) cb tb nb least height bonds x events := ⟨by rw [heap_setCell_same w cb 5 _ _ _ h.box]; rfl⟩
theorem CourtBox.setEvents (h : CourtBox w cb tb nb least height bonds pool events) (x : Value) : CourtBox (w.setCell ⟨cb, 6, none⟩ x) cb tb nb least height bonds pool x := ⟨by rw [heap_setCell_same w cb 6 _ _ _ h.box]; rfl⟩
end
set_option maxHeartbeats 1000000 in
theorem court_new (w : World) (least : Int) (has : List Int) (b c : Nat) (hb : b < w.heap.size) (hc : ∀ (j : Nat) (h : j < has.length), w.cell? ⟨b, j, none⟩ = some (.int .u64 has[j])) (h0 : ∀ x ∈ has, 0 ≤ x) (h : has.sum ≤ 18446744073709551615) (hn : has.length ≤ 16) (h2 : 2 ≤ has.length) :
    Calls Tryz.prog 21 #[.int .u64 least, .slice (some ⟨b, 0, none⟩) has.length c] w fun e w' => ∃ cb tb nb mb g1 c1 g2 c2 sp, e = .returned (.tuple #[.pointer (some ⟨cb, 0, none⟩), .int .i64 0]) ∧
      CourtBox w' cb tb nb least 0 (.slice none 0 0) (.slice none 0 0) (.slice none 0 0) ∧ TillAt w' tb g1 c1 g2 c2 sp [] has (List.replicate has.length 0) 0 ∧ NotaryNew w' nb mb ∧
      w.heap.size ≤ tb ∧ w.heap.size ≤ g1 ∧ w.heap.size ≤ g2 ∧ w.heap.size ≤ nb ∧ w.heap.size ≤ mb ∧ tb < nb ∧ g1 < nb ∧ g2 < nb ∧ tb < mb ∧ g1 < mb ∧ g2 < mb ∧ nb < cb ∧ mb < cb ∧ Below w.heap.size w w' := by
  have C := Lib.hid (till_new w has b c hb hc h0 h hn)
  clear hc h0
  go_enter Tryz.func21, Tryz.ntmps21
  go_wp2_with fail
  refine C.out.mono ?_
  rintro e w1 ⟨tb, g1, c1, g2, c2, sp, rfl, T1, k1, k2, k3, kb⟩
  have HT := Lib.hid T1
  have HB := Lib.hid kb
  clear T1 kb
  go_wp2_with fail
  refine (notary_new w1).mono ?_
  rintro e w2 ⟨nb, mb, rfl, N1, k4, k5, kb2⟩
  have HN := Lib.hid N1
  have HB2 := Lib.hid kb2
  clear N1 kb2
  go_wp2_with fail
  go_ret2
  have b1 := HB.out
  have b2 := HB2.out
  have s1 := b1.size
  have s2 := b2.size
  have t1 := lt_of_block HT.out.box
  have t2 := lt_of_block HT.out.bhas
  have t3 := lt_of_block HT.out.bnon
  have n1 := lt_of_block HN.out.box
  have n2 := lt_of_block HN.out.book
  have K : Keeps (fun _ => False) w1 (w2.alloc (.cells #[.pointer (some ⟨tb, 0, none⟩), .pointer (some ⟨nb, 0, none⟩), .int .u64 least, .int .u64 0, .slice none 0 0, .slice none 0 0, .slice none 0 0] 79)) := (Keeps.of_below b2).alloc _
  refine ⟨w2.heap.size, tb, nb, mb, g1, c1, g2, c2, sp, rfl, ⟨heap_alloc_new w2 _⟩, HT.out.keeps K id id id, ⟨(Below.heap_alloc _ _ _ n1).trans HN.out.box, (Below.heap_alloc _ _ _ n2).trans HN.out.book⟩, k1, k2, k3, ?_, ?_, ?_, ?_, ?_, ?_, ?_, ?_, ?_, ?_, ?_⟩
  all_goals first | omega | exact (bl b1 b2).alloc (by omega) _
end Go.Proofs.YtonhmomofpeamaaGreatDoor
