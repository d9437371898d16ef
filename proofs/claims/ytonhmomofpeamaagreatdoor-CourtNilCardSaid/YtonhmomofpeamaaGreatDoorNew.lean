/- slices.Clone, till.New, notary.New, court.New. -/
import Derived.Test.YtonhmomofpeamaaGreatDoorTill
import Derived.Deep.RegionWith
namespace Go.Proofs.YtonhmomofpeamaaGreatDoor
open Go.RowKit

theorem info35 : (Tryz.prog.info? 35).map (fun i => (i.zero, i.size, i.bytes)) = some (some (.int .u64 0), 1, 8) := by kernel_rfl
theorem ownsRow_form {w : World} {base e n : Nat} {v : Value} {xs : List Value} (h : w.ownsRow base e 1 v n xs) (hv : v ≠ .slice none 0 0) :
    ∃ g cap sp, v = .slice (some ⟨g, 0, none⟩) n cap ∧ base ≤ g ∧ n ≤ cap ∧ cap ≤ maxLen ∧ w.heap[g]? = some (.cells (xs ++ sp).toArray e (0, 0)) ∧ sp.length = cap - n := by
  obtain ⟨hl, h | ⟨g, cap, cur, h1, h2, h3, h4, h5, h6, h7⟩⟩ := h
  · exact absurd h.1 hv
  · refine ⟨g, cap, cur.toList.drop n, h1, h2, h4, h5, ?_, by simp; omega⟩
    rw [h3, ← h7]
    simp
/-- A row of the elements xs, and what is spare behind them, lies whole in block g. -/
structure RowAt (w : World) (g : Nat) (e : TypeId) (xs sp : List Value) : Prop where
  at_ : w.heap[g]? = some (.cells (xs ++ sp).toArray e (0, 0))
theorem clone_nil_u8 (w : World) : Calls Tryz.prog 23 #[.slice none 0 0] w fun e w' => e = .returned (.slice none 0 0) ∧ w = w' := by
  have hnil := fun (w : World) a l c => Lib.run_eql_slice_nil (P := Tryz.prog) w 34 5 a l c 0 0 Tryz.underlying34
  go_enter Tryz.func23, Tryz.ntmps23
  go_wp2
  go_ret
  exact ⟨rfl, rfl⟩
theorem clone_nil_digest (w : World) : Calls Tryz.prog 41 #[.slice none 0 0] w fun e w' => e = .returned (.slice none 0 0) ∧ w = w' := by
  have hnil := fun (w : World) a l c => Lib.run_eql_slice_nil (P := Tryz.prog) w 52 30 a l c 0 0 Tryz.underlying52
  go_enter Tryz.func41, Tryz.ntmps41
  go_wp2
  go_ret
  exact ⟨rfl, rfl⟩
theorem clone_nil_cond (w : World) : Calls Tryz.prog 51 #[.slice none 0 0] w fun e w' => e = .returned (.slice none 0 0) ∧ w = w' := by
  have hnil := fun (w : World) a l c => Lib.run_eql_slice_nil (P := Tryz.prog) w 37 72 a l c 0 0 Tryz.underlying37
  go_enter Tryz.func51, Tryz.ntmps51
  go_wp2
  go_ret
  exact ⟨rfl, rfl⟩
theorem clone_u64 (w : World) (xs : List Value) (b o n c : Nat) (hn : xs.length = n) (hc : ∀ j u, xs[j]? = some u → w.cell? ((⟨b, o, none⟩ : Addr).add j) = some u) (h1 : ∀ u ∈ xs, u.oneCell' = true) (hm : n ≤ 100000) (hb : b < w.heap.size) :
    Calls Tryz.prog 44 #[.slice (some ⟨b, o, none⟩) n c] w fun e w' => ∃ g cap sp, e = .returned (.slice (some ⟨g, 0, none⟩) n cap) ∧ w.heap.size ≤ g ∧ RowAt w' g 35 xs sp ∧ Below w.heap.size w w' := by
  obtain ⟨i0, hi, hz0, hz1, hz2⟩ := info_parts info35
  have hnil := fun (w : World) a l c => Lib.run_eql_slice_nil (P := Tryz.prog) w 90 35 a l c 0 0 Tryz.underlying90
  have hc' : ∀ j u, xs[j]? = some u → (w.alloc (.cells #[] 35)).cell? ((⟨b, o, none⟩ : Addr).add j) = some u := fun j u hu => by
    rw [World.cell?_of_block (w := w)]
    · exact hc j u hu
    · unfold Addr.add; split <;> exact Below.heap_alloc _ _ _ hb
  have HC := Lib.hid hc'
  have H1 := Lib.hid h1
  have HN := Lib.hid hn
  clear hc hc' h1 hn
  go_enter Tryz.func44, Tryz.ntmps44
  go_wp2_with (at_builtin; refine wpList_append_own _ rfl _ _ 90 rfl w.heap.size 35 i0 (.int .u64 0) 1 8 Tryz.underlying90 hi hz0 hz1 hz2 rfl (by decide) _ 0 [] rfl (World.ownsRow_made w #[] 0 (Nat.le_refl _) (Nat.zero_le _) rfl) _ n c xs rfl (by rw [HN.out]; omega) HC.out H1.out ?c1 ?c2 (by simp) ?_)
  case c1 => unfold maxLen; omega
  case c2 => omega
  intro v' w1 hown hg hne
  have HO := Lib.hid hown
  have HE := Lib.hid hne
  clear hown hne
  go_wp2_with fail
  go_ret
  have ho : w1.ownsRow w.heap.size 35 1 v' n xs := by simpa using HO.out
  obtain ⟨g, cap, sp, rfl, hg1, hg2, hg3, hg4, hg5⟩ := ownsRow_form ho HE.out
  refine ⟨g, cap, sp, rfl, hg1, ⟨hg4⟩, ?_⟩
  · exact ((Below.refl _ _).alloc (Nat.le_refl _) _).grown hg (by simp) (fun k hk => by simp [Value.ownBlock] at hk; omega)

theorem madeCells_one (z : Value) (n : Nat) : madeCells #[z] n = (List.replicate n z).toArray := by
  apply Array.ext
  · simp [madeCells]
  · intro i h1 h2
    simp [madeCells, Nat.mod_one]
theorem make_u64 (n : Nat) (hn : n ≤ 16) (w : World) : (Instr.makeSlice 90 (.int .i64 n) (.int .i64 n)).run Tryz.prog w = .ok (.slice (some ⟨w.heap.size, 0, none⟩) n n) (w.alloc (.cells (u64s (List.replicate n 0) []) 35)) := by
  obtain ⟨i0, hi, hz0, hz1, hz2⟩ := info_parts info35
  rw [run_make w 90 35 i0 (.int .u64 0) Tryz.underlying90 hi hz0 .i64 .i64 n n (by omega) (by omega) (by rw [hz2]; omega) (by omega)]
  simp only [Int.toNat_natCast, hz1, Nat.mul_one, Value.cells, madeCells_one, u64s, List.map_replicate, List.append_nil]
theorem TillAt.mk' {w : World} {tb hb hc nb nc : Nat} {sp : List Value} {has : List Int} (hbox : w.heap[tb]? = some (.cells #[.slice (some ⟨hb, 0, none⟩) has.length hc, .slice (some ⟨nb, 0, none⟩) has.length nc, .int .u64 0] 101 (0, 0)))
    (hrow : RowAt w hb 35 (has.map (Value.int .u64)) sp) (hnon : w.heap[nb]? = some (.cells (u64s (List.replicate has.length 0) []) 35 (0, 0))) (h1 : tb ≠ hb) (h2 : tb ≠ nb) (h3 : hb ≠ nb) (hn : has.length ≤ 16) :
    TillAt w tb hb hc nb nc sp [] has (List.replicate has.length 0) 0 :=
  ⟨by simpa using hbox, hrow.at_, hnon, h1, h2, h3, by simp, hn⟩
theorem RowAt.lt {w : World} {g e : Nat} {xs sp : List Value} (h : RowAt w g e xs sp) : g < w.heap.size := by
  rcases Nat.lt_or_ge g w.heap.size with h' | h'
  · exact h'
  · have := h.at_; rw [Array.getElem?_eq_none h'] at this; cases this
theorem RowAt.alloc {w : World} {g e : Nat} {xs sp : List Value} (h : RowAt w g e xs sp) (o : Obj) : RowAt (w.alloc o) g e xs sp := ⟨by rw [Below.heap_alloc _ _ _ h.lt]; exact h.at_⟩
theorem size_alloc' (w : World) (o : Obj) : (w.alloc o).heap.size = w.heap.size + 1 := by show (w.heap.push o).size = _; simp
set_option maxHeartbeats 1000000 in
theorem till_new (w : World) (has : List Int) (b c : Nat) (hb : b < w.heap.size) (hc : ∀ (j : Nat) (h : j < has.length), w.cell? ⟨b, j, none⟩ = some (.int .u64 has[j])) (h0 : ∀ x ∈ has, 0 ≤ x) (h : has.sum ≤ 18446744073709551615) (hn : has.length ≤ 16) :
    Calls Tryz.prog 39 #[.slice (some ⟨b, 0, none⟩) has.length c] w fun e w' => ∃ tb g1 c1 g2 c2 sp, e = .returned (.tuple #[.pointer (some ⟨tb, 0, none⟩), .int .i64 0]) ∧
      TillAt w' tb g1 c1 g2 c2 sp [] has (List.replicate has.length 0) 0 ∧ w.heap.size ≤ tb ∧ w.heap.size ≤ g1 ∧ w.heap.size ≤ g2 ∧ Below w.heap.size w w' := by
  have hmk := fun w => make_u64 has.length hn w
  have hc' : ∀ W : World, Below w.heap.size w W → ∀ j u, (has.map (Value.int .u64))[j]? = some u → W.cell? ((⟨b, 0, none⟩ : Addr).add j) = some u := fun W hW j u hu => by
    have hj : j < has.length := by have := (List.getElem?_eq_some_iff.1 hu).1; simpa using this
    have hu' : u = .int .u64 has[j] := by simp [hj] at hu; exact hu.symm
    subst hu'
    rw [Addr.add_mid, hW.cell (p := ⟨b, 0 + j, none⟩) hb, Nat.zero_add]
    exact hc j hj
  have C1 := Lib.hid (clone_u64 w.drew (has.map (Value.int .u64)) b 0 has.length c (by simp) (hc' _ (Below.refl _ _).drew) (fun u hu => by obtain ⟨x, _, rfl⟩ := List.mem_map.1 hu; rfl) (by omega) hb)
  have C2 := Lib.hid (clone_u64 (w.alloc (.cells (u64s (List.replicate has.length 0) []) 35)).drew (has.map (Value.int .u64)) b 0 has.length c (by simp) (hc' _ ((Below.refl _ _).alloc (Nat.le_refl _) _).drew) (fun u hu => by obtain ⟨x, _, rfl⟩ := List.mem_map.1 hu; rfl) (by omega) (by show b < (w.heap.push _).size; simp; omega))
  have HC := Lib.hid hc
  have H0 := Lib.hid h0
  clear hc h0 hc'
  go_enter Tryz.func39, Tryz.ntmps39
  go_wp2_with (go_at_call 28; refine (sum_ok has b 0 c _ (fun j hj => by simpa using HC.out j hj) H0.out h (by omega)).mono ?_; rintro e w' ⟨rfl, rfl⟩)
  go_region_with (go_at_call 44; (first | (with_reducible refine C1.out.mono ?_) | (with_reducible refine C2.out.mono ?_)); rintro e w1 ⟨g, cap, sp, rfl, hge, hrow, hbel⟩)
  all_goals
    go_wp2_with fail
    go_ret2
  · refine ⟨w1.heap.size + 1, g, cap, w1.heap.size, has.length, sp, rfl, ?_, ?_, hge, ?_, ?_⟩
    · refine TillAt.mk' ?_ ((hrow.alloc _).alloc _) ?_ ?_ ?_ ?_ hn
      · exact heap_alloc2_new w1 _ _
      · exact heap_alloc2_old w1 _ _
      · have := hrow.lt; omega
      · omega
      · have := hrow.lt; omega
    · have := hbel.size; simp at this; omega
    · have := hbel.size; simpa using this
    · exact ((((Below.refl _ _).drew).trans hbel).alloc (by have := hbel.size; simpa using this) _).alloc (by have := hbel.size; simp at this; simp; omega) _
  · have hs := hbel.size
    simp at hs
    simp at hge
    refine ⟨w1.heap.size, g, cap, w.heap.size, has.length, sp, rfl, ?_, by omega, by omega, Nat.le_refl _, ?_⟩
    · refine TillAt.mk' (heap_alloc_new w1 _) (hrow.alloc _) ?_ ?_ ?_ ?_ hn
      · rw [Below.heap_alloc _ _ _ (by omega), hbel.block w.heap.size (by simp)]
        exact heap_alloc_new w _
      · have := hrow.lt; omega
      · omega
      · omega
    · exact (((Below.refl _ _).alloc (Nat.le_refl _) _).drew.trans (hbel.mono (by simp))).alloc (by omega) _
/-- A notary without an entry. -/
structure NotaryNew (w : World) (nb mb : Nat) : Prop where
  box : w.heap[nb]? = some (.cells #[.map (some mb)] 108 (0, 0))
  book : w.heap[mb]? = some (.map #[] 0)
theorem notary_new (w : World) : Calls Tryz.prog 40 #[] w fun e w' => ∃ nb mb, e = .returned (.pointer (some ⟨nb, 0, none⟩)) ∧ NotaryNew w' nb mb ∧ w.heap.size ≤ nb ∧ w.heap.size ≤ mb ∧ Below w.heap.size w w' := by
  have hmm := @run_makeMap Tryz.prog
  go_enter Tryz.func40, Tryz.ntmps40
  go_wp2
  go_ret
  exact ⟨w.heap.size + 1, w.heap.size, rfl, ⟨heap_alloc2_new w _ _, heap_alloc2_old w _ _⟩, by omega, by omega, ((Below.refl _ _).alloc (Nat.le_refl _) _).alloc (by simp) _⟩
end Go.Proofs.YtonhmomofpeamaaGreatDoor
