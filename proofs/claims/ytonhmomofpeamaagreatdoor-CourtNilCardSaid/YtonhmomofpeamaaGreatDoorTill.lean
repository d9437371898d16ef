/- money.Add, money.Sub, money.Sum; the accounts (till.Till): what their calls answer, and what they write. -/
import Derived.Test.YtonhmomofpeamaaGreatDoorLib
import Derived.Lib.Hide
import Derived.Deep.QuietTactic
import Derived.BigQuiet
import Derived.RegionTactic
import Derived.BigRegion
namespace Go.Proofs.YtonhmomofpeamaaGreatDoor
open Go.RowKit

theorem add64_run (x y : Int) (hx : 0 ≤ x) (hy : 0 ≤ y) (w : World) :
    (callFunc 52 #[.int .u64 x, .int .u64 y, .int .u64 0]).run Tryz.prog w = .ok (.value (.tuple #[.int .u64 ((x + y + 0) % 18446744073709551616), .int .u64 ((x + y + 0) / 18446744073709551616)])) w := by
  rw [run_callFunc_extern (e := add64Entry) Tryz.func52 (by kernel_rfl) (by kernel_rfl) (by kernel_rfl) (by kernel_rfl), run_add64 x y 0 hx hy (by omega) (by omega)]
  rfl
theorem add64_fits (x y : Int) (hx : 0 ≤ x) (hy : 0 ≤ y) (h : x + y ≤ 18446744073709551615) (w : World) :
    (callFunc 52 #[.int .u64 x, .int .u64 y, .int .u64 0]).run Tryz.prog w = .ok (.value (.tuple #[.int .u64 (x + y), .int .u64 0])) w := by
  rw [add64_run x y hx hy w, show (x + y + 0) % 18446744073709551616 = x + y by omega, show (x + y + 0) / 18446744073709551616 = 0 by omega]
theorem add64_over (x y : Int) (hx : 0 ≤ x) (hy : 0 ≤ y) (hx2 : x ≤ 18446744073709551615) (hy2 : y ≤ 18446744073709551615) (h : 18446744073709551615 < x + y) (w : World) :
    (callFunc 52 #[.int .u64 x, .int .u64 y, .int .u64 0]).run Tryz.prog w = .ok (.value (.tuple #[.int .u64 (x + y - 18446744073709551616), .int .u64 1])) w := by
  rw [add64_run x y hx hy w, show (x + y + 0) % 18446744073709551616 = x + y - 18446744073709551616 by omega, show (x + y + 0) / 18446744073709551616 = 1 by omega]
theorem add_ok (a b : Int) (w : World) (ha : 0 ≤ a) (hb : 0 ≤ b) (h : a + b ≤ 18446744073709551615) :
    Calls Tryz.prog 42 #[.int .u64 a, .int .u64 b] w fun e w' => e = .returned (.tuple #[.int .u64 (a + b), .int .i64 0]) ∧ w = w' := by
  have hadd := add64_fits a b ha hb h w
  go_enter Tryz.func42, Tryz.ntmps42
  go_wp2
  go_ret2
  exact ⟨rfl, rfl⟩
theorem add_no (a b : Int) (w : World) (ha : 0 ≤ a) (hb : 0 ≤ b) (ha2 : a ≤ 18446744073709551615) (hb2 : b ≤ 18446744073709551615) (h : 18446744073709551615 < a + b) :
    Calls Tryz.prog 42 #[.int .u64 a, .int .u64 b] w fun e w' => e = .returned (.tuple #[.int .u64 0, .int .i64 11]) ∧ w = w' := by
  have hadd := add64_over a b ha hb ha2 hb2 h w
  go_enter Tryz.func42, Tryz.ntmps42
  go_wp2
  go_ret2
  exact ⟨rfl, rfl⟩
theorem sub_ok (a b : Int) (w : World) (h : b ≤ a) (ha : 0 ≤ b) (hb : a ≤ 18446744073709551615) :
    Calls Tryz.prog 64 #[.int .u64 a, .int .u64 b] w fun e w' => e = .returned (.tuple #[.int .u64 (a - b), .int .i64 0]) ∧ w = w' := by
  go_enter Tryz.func64, Tryz.ntmps64
  go_wp2
  go_ret2
  exact ⟨rfl, rfl⟩
theorem sub_no (a b : Int) (w : World) (h : a < b) :
    Calls Tryz.prog 64 #[.int .u64 a, .int .u64 b] w fun e w' => e = .returned (.tuple #[.int .u64 0, .int .i64 12]) ∧ w = w' := by
  go_enter Tryz.func64, Tryz.ntmps64
  go_wp2
  go_ret2
  exact ⟨rfl, rfl⟩

theorem ret_pair {k k' : IntKind} {a b c d : Int} (h : a = b) (h' : c = d) : Ending.returned (.tuple #[.int k a, .int k' c]) = .returned (.tuple #[.int k b, .int k' d]) := by rw [h, h']
theorem sum_nonneg : ∀ (xs : List Int), (∀ x ∈ xs, 0 ≤ x) → 0 ≤ xs.sum
  | [], _ => by simp
  | x :: xs, h => by
    have h1 := h x (by simp)
    have h2 := sum_nonneg xs (fun y hy => h y (by simp [hy]))
    simp only [List.sum_cons]; omega
theorem sum_take_le (xs : List Int) (h : ∀ x ∈ xs, 0 ≤ x) (k : Nat) : 0 ≤ (xs.take k).sum ∧ (xs.take k).sum ≤ xs.sum := by
  have h1 := sum_nonneg (xs.take k) (fun x hx => h x (List.mem_of_mem_take hx))
  have h2 := sum_nonneg (xs.drop k) (fun x hx => h x (List.mem_of_mem_drop hx))
  have h3 : xs.sum = (xs.take k).sum + (xs.drop k).sum := by rw [← List.sum_append, List.take_append_drop]
  omega
theorem sum_take_succ (xs : List Int) (k : Nat) (hk : k < xs.length) : (xs.take (k + 1)).sum = (xs.take k).sum + xs[k] := by
  rw [List.take_succ_eq_append_getElem hk, List.sum_append]; simp
set_option maxHeartbeats 400000 in
/-- The sum of numbers that come to less than 2^64. -/
theorem sum_ok (xs : List Int) (b o c : Nat) (w : World) (hc : ∀ (j : Nat) (h : j < xs.length), w.cell? ⟨b, o + j, none⟩ = some (.int .u64 xs[j])) (h0 : ∀ x ∈ xs, 0 ≤ x) (h : xs.sum ≤ 18446744073709551615) (hn : xs.length ≤ 9223372036854775807) :
    Calls Tryz.prog 28 #[.slice (some ⟨b, o, none⟩) xs.length c] w fun e w' => e = .returned (.tuple #[.int .u64 xs.sum, .int .i64 0]) ∧ w = w' := by
  have H : Hid (∀ (j : Nat) (h : j < xs.length), w.cell? ⟨b, o + j, none⟩ = some (.int .u64 xs[j])) := hc
  have H0 : Hid (∀ x ∈ xs, 0 ≤ x) := h0
  clear hc h0
  go_enter Tryz.func28, Tryz.ntmps28
  go_wp2
  go_loop [4, 10] (fun s i => ∃ k : Nat, k ≤ xs.length ∧ i = .int .i64 k ∧ s = .int .u64 (xs.take k).sum) (fun _ i => xs.length - (intOf i).toNat)
  case atStart => exact ⟨0, Nat.zero_le _, rfl, rfl⟩
  case round =>
    obtain ⟨k, hk, rfl, rfl⟩ := hrel
    have ht := sum_take_le xs H0.out k
    have ht' := sum_take_le xs H0.out (k + 1)
    by_cases hlt : k < xs.length
    · have hs : Hid ((xs.take (k + 1)).sum = (xs.take k).sum + xs[k]) := sum_take_succ xs k hlt
      have hcell := H.out k hlt
      have hx := H0.out xs[k] (List.getElem_mem hlt)
      generalize hy : xs[k] = y at *
      have hsum : (xs.take k).sum + y ≤ 18446744073709551615 := by have := hs.out; omega
      clear hy
      go_wp2_with (go_at_call 42; refine (add_ok _ _ _ (by omega) (by omega) (by omega)).mono ?_; rintro e w' ⟨rfl, rfl⟩)
      go_round
      case rel => exact ⟨k + 1, by omega, by go_num, by rw [hs.out]⟩
      case measure => simp [intOf]; omega
    · go_wp2_with fail
      go_ret2
      exact ⟨ret_pair (by rw [List.take_of_length_le (by omega)]) rfl, rfl⟩

/-! ### the accounts -/
def u64s (l : List Int) (spare : List Value) : Array Value := (l.map (Value.int .u64) ++ spare).toArray
theorem u64s_get (l : List Int) (spare : List Value) (j : Nat) (h : j < l.length) : (u64s l spare)[j]? = some (.int .u64 l[j]) := by
  simp [u64s, List.getElem?_append, h]
theorem u64s_set (l : List Int) (spare : List Value) (j : Nat) (x : Int) (h : j < l.length) : (u64s l spare).setIfInBounds j (.int .u64 x) = u64s (l.set j x) spare := by
  simp only [u64s, List.setIfInBounds_toArray, List.map_set]
  rw [List.set_append_left _ _ (by simpa using h)]
structure TillAt (w : World) (tb hb hc nb nc : Nat) (sh sn : List Value) (has non : List Int) (kept : Int) : Prop where
  box : w.heap[tb]? = some (.cells #[.slice (some ⟨hb, 0, none⟩) has.length hc, .slice (some ⟨nb, 0, none⟩) non.length nc, .int .u64 kept] 101 (0, 0))
  bhas : w.heap[hb]? = some (.cells (u64s has sh) 35 (0, 0))
  bnon : w.heap[nb]? = some (.cells (u64s non sn) 35 (0, 0))
  ne1 : tb ≠ hb
  ne2 : tb ≠ nb
  ne3 : hb ≠ nb
  len : non.length = has.length
  small : has.length ≤ 16
section
variable {w w' : World} {tb hb hc nb nc : Nat} {sh sn : List Value} {has non : List Int} {kept : Int}
theorem TillAt.c0 (h : TillAt w tb hb hc nb nc sh sn has non kept) : w.cell? ⟨tb, 0, none⟩ = some (.slice (some ⟨hb, 0, none⟩) has.length hc) := by rw [cell_of_row w tb 0 _ _ _ h.box]; rfl
theorem TillAt.c1 (h : TillAt w tb hb hc nb nc sh sn has non kept) : w.cell? ⟨tb, 1, none⟩ = some (.slice (some ⟨nb, 0, none⟩) non.length nc) := by rw [cell_of_row w tb 1 _ _ _ h.box]; rfl
theorem TillAt.c2 (h : TillAt w tb hb hc nb nc sh sn has non kept) : w.cell? ⟨tb, 2, none⟩ = some (.int .u64 kept) := by rw [cell_of_row w tb 2 _ _ _ h.box]; rfl
theorem TillAt.h (h : TillAt w tb hb hc nb nc sh sn has non kept) (j : Nat) (hj : j < has.length) : w.cell? ⟨hb, j, none⟩ = some (.int .u64 has[j]) := by rw [cell_of_row w hb j _ _ _ h.bhas]; exact u64s_get has sh j hj
theorem TillAt.n (h : TillAt w tb hb hc nb nc sh sn has non kept) (j : Nat) (hj : j < non.length) : w.cell? ⟨nb, j, none⟩ = some (.int .u64 non[j]) := by rw [cell_of_row w nb j _ _ _ h.bnon]; exact u64s_get non sn j hj
theorem TillAt.keeps (h : TillAt w tb hb hc nb nc sh sn has non kept) {S : Nat → Prop} (k : Keeps S w w') (h1 : ¬ S tb) (h2 : ¬ S hb) (h3 : ¬ S nb) : TillAt w' tb hb hc nb nc sh sn has non kept := by
  have lt : ∀ {b : Nat} {o : Obj}, w.heap[b]? = some o → b < w.heap.size := fun hb => by
    rcases Nat.lt_or_ge _ w.heap.size with h | h
    · exact h
    · rw [Array.getElem?_eq_none h] at hb; cases hb
  exact ⟨(k.block _ (lt h.box) h1).trans h.box, (k.block _ (lt h.bhas) h2).trans h.bhas, (k.block _ (lt h.bnon) h3).trans h.bnon, h.ne1, h.ne2, h.ne3, h.len, h.small⟩
theorem TillAt.setHas (h : TillAt w tb hb hc nb nc sh sn has non kept) (j : Nat) (hj : j < has.length) (x : Int) : TillAt (w.setCell ⟨hb, j, none⟩ (.int .u64 x)) tb hb hc nb nc sh sn (has.set j x) non kept :=
  ⟨by rw [heap_setCell_other _ _ _ _ h.ne1]; simpa using h.box, by rw [heap_setCell_same w hb j _ _ _ h.bhas, u64s_set has sh j x hj],
   by rw [heap_setCell_other _ _ _ _ (Ne.symm h.ne3)]; exact h.bnon, h.ne1, h.ne2, h.ne3, by simpa using h.len, by simpa using h.small⟩
theorem TillAt.setNon (h : TillAt w tb hb hc nb nc sh sn has non kept) (j : Nat) (hj : j < non.length) (x : Int) : TillAt (w.setCell ⟨nb, j, none⟩ (.int .u64 x)) tb hb hc nb nc sh sn has (non.set j x) kept :=
  ⟨by rw [heap_setCell_other _ _ _ _ h.ne2]; simpa using h.box, by rw [heap_setCell_other _ _ _ _ h.ne3]; exact h.bhas,
   by rw [heap_setCell_same w nb j _ _ _ h.bnon, u64s_set non sn j x hj], h.ne1, h.ne2, h.ne3, by simpa using h.len, h.small⟩
theorem TillAt.setKept (h : TillAt w tb hb hc nb nc sh sn has non kept) (x : Int) : TillAt (w.setCell ⟨tb, 2, none⟩ (.int .u64 x)) tb hb hc nb nc sh sn has non x :=
  ⟨by rw [heap_setCell_same w tb 2 _ _ _ h.box]; rfl, by rw [heap_setCell_other _ _ _ _ (Ne.symm h.ne1)]; exact h.bhas,
   by rw [heap_setCell_other _ _ _ _ (Ne.symm h.ne2)]; exact h.bnon, h.ne1, h.ne2, h.ne3, h.len, h.small⟩
theorem TillAt.drew (h : TillAt w tb hb hc nb nc sh sn has non kept) : TillAt w.drew tb hb hc nb nc sh sn has non kept := ⟨h.box, h.bhas, h.bnon, h.ne1, h.ne2, h.ne3, h.len, h.small⟩

theorem till_in_ok (n c hb who : Nat) (hcell : w.cell? ⟨tb, 0, none⟩ = some (.slice (some ⟨hb, 0, none⟩) n c)) (h3 : who < n) (h4 : n ≤ 16) :
    Calls Tryz.prog 43 #[.pointer (some ⟨tb, 0, none⟩), .int .i64 who] w fun e w' => e = .returned (.int .i64 0) ∧ w = w' := by
  go_enter Tryz.func43, Tryz.ntmps43
  go_wp2
  go_ret
  exact ⟨rfl, rfl⟩
theorem till_in_no (n c hb : Nat) (who : Int) (hcell : w.cell? ⟨tb, 0, none⟩ = some (.slice (some ⟨hb, 0, none⟩) n c)) (h3 : who < 0 ∨ (n : Int) ≤ who) (h4 : n ≤ 16) :
    Calls Tryz.prog 43 #[.pointer (some ⟨tb, 0, none⟩), .int .i64 who] w fun e w' => e = .returned (.int .i64 1) ∧ w = w' := by
  by_cases h : who < 0
  all_goals
    go_enter Tryz.func43, Tryz.ntmps43
    go_wp2
    go_ret
    exact ⟨rfl, rfl⟩
theorem till_many (n c hb : Nat) (hcell : w.cell? ⟨tb, 0, none⟩ = some (.slice (some ⟨hb, 0, none⟩) n c)) :
    Calls Tryz.prog 22 #[.pointer (some ⟨tb, 0, none⟩)] w fun e w' => e = .returned (.int .i64 n) ∧ w = w' := by
  go_enter Tryz.func22, Tryz.ntmps22
  go_wp2
  go_ret
  exact ⟨rfl, rfl⟩
theorem till_has (T : TillAt w tb hb hc nb nc sh sn has non kept) (who : Nat) (h : who < has.length) :
    Calls Tryz.prog 30 #[.pointer (some ⟨tb, 0, none⟩), .int .i64 who] w fun e w' => e = .returned (.int .u64 has[who]) ∧ w = w' := by
  have c0 := T.c0
  have cw := T.h who h
  have hs := T.small
  clear T
  go_enter Tryz.func30, Tryz.ntmps30
  go_wp2_with (go_at_call 43; refine (till_in_ok _ _ _ _ c0 h hs).mono ?_; rintro e w' ⟨rfl, rfl⟩)
  go_ret
  exact ⟨rfl, rfl⟩

theorem TillAt.fz (h : TillAt w tb hb hc nb nc sh sn has non kept) (j : Nat) : w.frozen? ⟨tb, j, none⟩ = false ∧ w.frozen? ⟨hb, j, none⟩ = false ∧ w.frozen? ⟨nb, j, none⟩ = false :=
  ⟨frozen_of_row w tb j _ _ h.box, frozen_of_row w hb j _ _ h.bhas, frozen_of_row w nb j _ _ h.bnon⟩
theorem till_order (T : TillAt w tb hb hc nb nc sh sn has non kept) (who : Nat) (h : who < has.length) (hw : who < non.length) (nonce : Int) (hn : non[who] = nonce) (h1 : 0 ≤ nonce) (h2 : nonce + 1 ≤ 18446744073709551615) :
    Calls Tryz.prog 46 #[.pointer (some ⟨tb, 0, none⟩), .int .i64 who, .int .u64 nonce] w fun e w' => e = .returned (.int .i64 0) ∧ TillAt w' tb hb hc nb nc sh sn has (non.set who (nonce + 1)) kept ∧ Keeps (fun k => k = nb) w w' := by
  have c0 := T.c0
  have c1 := T.c1
  have cw := T.n who hw
  rw [hn] at cw
  have hs := T.small
  have hl := T.len
  have hfz := (T.fz who).2.2
  have HT := Lib.hid T
  have hs2 : non.length ≤ 16 := by omega
  clear T hl hn
  go_enter Tryz.func46, Tryz.ntmps46
  go_wp2_with (go_at_call 43; refine (till_in_ok _ _ _ _ c0 h hs).mono ?_; rintro e w' ⟨rfl, rfl⟩)
  go_ret
  exact ⟨rfl, HT.out.setNon who hw _, (Keeps.refl (fun k => k = nb) _).setCell ⟨nb, who, none⟩ (fun _ => rfl) _⟩
set_option maxHeartbeats 1000000 in
theorem till_keep (T : TillAt w tb hb hc nb nc sh sn has non kept) (who : Nat) (h : who < has.length) (x amount : Int) (hx : has[who] = x) (h0 : 0 ≤ amount) (h1 : amount ≤ x) (h2 : x ≤ 18446744073709551615) (h3 : 0 ≤ kept) (h4 : kept + amount ≤ 18446744073709551615) :
    Calls Tryz.prog 54 #[.pointer (some ⟨tb, 0, none⟩), .int .i64 who, .int .u64 amount] w fun e w' => e = .returned (.int .i64 0) ∧ TillAt w' tb hb hc nb nc sh sn (has.set who (x - amount)) non (kept + amount) ∧ Keeps (fun k => k = hb ∨ k = tb) w w' := by
  have c0 := T.c0
  have c2 := T.c2
  have cw := T.h who h
  rw [hx] at cw
  have hs := T.small
  have hfz := (T.fz who).2.1
  have hfk := (T.fz 2).1
  have hne := T.ne1
  have HT := Lib.hid T
  clear T hx
  go_enter Tryz.func54, Tryz.ntmps54
  go_wp2_with (first | (go_at_call 43; refine (till_in_ok _ _ _ _ c0 h hs).mono ?_; rintro e w' ⟨rfl, rfl⟩) | (go_at_call 64; refine (sub_ok _ _ _ h1 h0 h2).mono ?_; rintro e w' ⟨rfl, rfl⟩))
  go_region
  go_wp2_with fail
  go_ret
  exact ⟨rfl, ((HT.out.setHas who h _).setKept _).drew, (((Keeps.refl (fun k => k = hb ∨ k = tb) _).setCell ⟨hb, who, none⟩ (fun _ => Or.inl rfl) _).setCell ⟨tb, 2, none⟩ (fun _ => Or.inr rfl) _).drew⟩
set_option maxHeartbeats 1000000 in
theorem till_give (T : TillAt w tb hb hc nb nc sh sn has non kept) (who : Nat) (h : who < has.length) (x amount : Int) (hx : has[who] = x) (h0 : 0 ≤ amount) (h1 : amount ≤ kept) (h2 : kept ≤ 18446744073709551615) (h3 : 0 ≤ x) (h4 : x + amount ≤ 18446744073709551615) :
    Calls Tryz.prog 55 #[.pointer (some ⟨tb, 0, none⟩), .int .i64 who, .int .u64 amount] w fun e w' => e = .returned (.int .i64 0) ∧ TillAt w' tb hb hc nb nc sh sn (has.set who (x + amount)) non (kept - amount) ∧ Keeps (fun k => k = hb ∨ k = tb) w w' := by
  have c0 := T.c0
  have c2 := T.c2
  have cw := T.h who h
  rw [hx] at cw
  have hs := T.small
  have hfz := (T.fz who).2.1
  have hfk := (T.fz 2).1
  have hne := T.ne1
  have HT := Lib.hid T
  clear T hx
  go_enter Tryz.func55, Tryz.ntmps55
  go_wp2_with (first | (go_at_call 43; refine (till_in_ok _ _ _ _ c0 h hs).mono ?_; rintro e w' ⟨rfl, rfl⟩) | (go_at_call 64; refine (sub_ok _ _ _ h1 h0 h2).mono ?_; rintro e w' ⟨rfl, rfl⟩))
  go_region
  go_wp2_with fail
  go_ret
  exact ⟨rfl, ((HT.out.setHas who h _).setKept _).drew, (((Keeps.refl (fun k => k = hb ∨ k = tb) _).setCell ⟨hb, who, none⟩ (fun _ => Or.inl rfl) _).setCell ⟨tb, 2, none⟩ (fun _ => Or.inr rfl) _).drew⟩
set_option maxHeartbeats 1000000 in
/-- An amount goes from one account to another one: first it is taken, then it is given. -/
theorem till_move (T : TillAt w tb hb hc nb nc sh sn has non kept) (a b : Nat) (ha : a < has.length) (hb' : b < has.length) (x y amount : Int) (hx : has[a] = x) (hy : (has.set a (x - amount))[b]'(by simpa using hb') = y) (h0 : 0 ≤ amount) (h1 : amount ≤ x) (h2 : x ≤ 18446744073709551615) (h3 : 0 ≤ kept) (h4 : kept + amount ≤ 18446744073709551615) (h5 : 0 ≤ y) (h6 : y + amount ≤ 18446744073709551615) :
    Calls Tryz.prog 47 #[.pointer (some ⟨tb, 0, none⟩), .int .i64 a, .int .i64 b, .int .u64 amount] w fun e w' => e = .returned (.int .i64 0) ∧ TillAt w' tb hb hc nb nc sh sn ((has.set a (x - amount)).set b (y + amount)) non kept ∧ Keeps (fun k => k = hb ∨ k = tb) w w' := by
  have c0 := T.c0
  have hs := T.small
  have HT := Lib.hid T
  have Hx := Lib.hid hx
  have Hy := Lib.hid hy
  clear T hx hy
  go_enter Tryz.func47, Tryz.ntmps47
  go_wp2_with fail
  refine (till_in_ok _ _ _ _ c0 ha hs).mono ?_
  rintro e w1 ⟨rfl, rfl⟩
  go_wp2_with fail
  refine (till_in_ok _ _ _ _ c0 hb' hs).mono ?_
  rintro e w1 ⟨rfl, rfl⟩
  go_wp2_with fail
  refine (till_keep HT.out a ha x amount Hx.out h0 h1 h2 h3 h4).mono ?_
  rintro e w1 ⟨rfl, T1, K1⟩
  clear c0
  have HT1 := Lib.hid T1
  have HK1 := Lib.hid K1
  clear T1 K1
  go_wp2_with fail
  refine (till_give HT1.out b (by simpa using hb') y amount Hy.out h0 (by omega) h4 h5 h6).mono ?_
  rintro e w2 ⟨rfl, T2, K2⟩
  have HT2 := Lib.hid T2
  have HK2 := Lib.hid K2
  clear T2 K2
  go_wp2_with fail
  go_ret
  refine ⟨rfl, ?_, HK1.out.trans' HK2.out (fun _ _ h => h)⟩
  have e1 : kept + amount - amount = kept := by omega
  have h := HT2.out
  rw [e1] at h
  exact h
end
end Go.Proofs.YtonhmomofpeamaaGreatDoor
