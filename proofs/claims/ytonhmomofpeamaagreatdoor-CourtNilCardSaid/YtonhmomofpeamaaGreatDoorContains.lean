/- slices.Index, slices.Contains at []int. -/
import Derived.Test.YtonhmomofpeamaaGreatDoorLib
import Derived.LoopTactic
import Derived.Lib.Hide
namespace Go.Proofs.YtonhmomofpeamaaGreatDoor
open Go.RowKit
def NatBack (w : World) (e : Ending) (w' : World) : Prop := ∃ k : Nat, e = .returned (.int .i64 k) ∧ w = w'
set_option maxHeartbeats 400000 in
theorem index_yes (xs : List Int) (v : Int) (hv : v ∈ xs) (b o c : Nat) (w : World) (hc : ∀ (j : Nat) (h : j < xs.length), w.cell? ⟨b, o + j, none⟩ = some (.int .i64 xs[j])) (hn : xs.length ≤ 1000000) :
    Calls Tryz.prog 35 #[.slice (some ⟨b, o, none⟩) xs.length c, .int .i64 v] w (NatBack w) := by
  have H : Hid (∀ (j : Nat) (h : j < xs.length), w.cell? ⟨b, o + j, none⟩ = some (.int .i64 xs[j])) := hc
  have HV := Lib.hid hv
  clear hc hv
  go_enter Tryz.func35, Tryz.ntmps35
  go_wp2
  go_loop [8] (fun i => ∃ k : Nat, k ≤ xs.length ∧ i = .int .i64 k ∧ ∀ (j : Nat) (h : j < xs.length), j < k → xs[j] ≠ v) (fun i => xs.length - (intOf i).toNat)
  case atStart => exact ⟨0, Nat.zero_le _, rfl, fun j _ h => by omega⟩
  case round =>
    obtain ⟨k, hk, rfl, hno⟩ := hrel
    have HNO := Lib.hid hno
    clear hno
    by_cases hlt : k < xs.length
    · have hcell := H.out k hlt
      by_cases heq : xs[k] = v
      · have hq : (v == xs[k]) = true := by simp [heq]
        generalize xs[k] = y at *
        clear heq
        go_wp2_with fail
        go_ret
        exact ⟨k, rfl, rfl⟩
      · have hq : (v == xs[k]) = false := by simp; exact fun h => heq h.symm
        have HE := Lib.hid heq
        clear heq
        have HK : Hid (∀ (j : Nat) (h : j < xs.length), j < k + 1 → xs[j] ≠ v) := fun j h hj => by
          rcases Nat.lt_or_ge j k with h' | h'
          · exact HNO.out j h h'
          · obtain rfl : j = k := by omega
            exact HE.out
        generalize xs[k] = y at *
        go_wp2_with fail
        go_round
        case rel => exact ⟨k + 1, by omega, by go_num, HK.out⟩
        case measure => simp [intOf]; omega
    · exfalso
      obtain ⟨j, hj, he⟩ := List.getElem_of_mem HV.out
      exact HNO.out j hj (by omega) he
set_option maxHeartbeats 400000 in
theorem index_no (xs : List Int) (v : Int) (hv : v ∉ xs) (b o c : Nat) (w : World) (hc : ∀ (j : Nat) (h : j < xs.length), w.cell? ⟨b, o + j, none⟩ = some (.int .i64 xs[j])) (hn : xs.length ≤ 1000000) :
    Calls Tryz.prog 35 #[.slice (some ⟨b, o, none⟩) xs.length c, .int .i64 v] w fun e w' => e = .returned (.int .i64 (-1)) ∧ w = w' := by
  have H : Hid (∀ (j : Nat) (h : j < xs.length), w.cell? ⟨b, o + j, none⟩ = some (.int .i64 xs[j])) := hc
  have HV := Lib.hid hv
  clear hc hv
  go_enter Tryz.func35, Tryz.ntmps35
  go_wp2
  go_loop [8] (fun i => ∃ k : Nat, k ≤ xs.length ∧ i = .int .i64 k) (fun i => xs.length - (intOf i).toNat)
  case atStart => exact ⟨0, Nat.zero_le _, rfl⟩
  case round =>
    obtain ⟨k, hk, rfl⟩ := hrel
    by_cases hlt : k < xs.length
    · have hcell := H.out k hlt
      have hq : (v == xs[k]) = false := by simp; exact fun h => HV.out (h ▸ List.getElem_mem hlt)
      generalize xs[k] = y at *
      go_wp2_with fail
      go_round
      case rel => exact ⟨k + 1, by omega, by go_num⟩
      case measure => simp [intOf]; omega
    · go_wp2_with fail
      go_ret
      exact ⟨rfl, rfl⟩
theorem contains_yes (xs : List Int) (v : Int) (hv : v ∈ xs) (b o c : Nat) (w : World) (hc : ∀ (j : Nat) (h : j < xs.length), w.cell? ⟨b, o + j, none⟩ = some (.int .i64 xs[j])) (hn : xs.length ≤ 1000000) :
    Calls Tryz.prog 18 #[.slice (some ⟨b, o, none⟩) xs.length c, .int .i64 v] w fun e w' => e = .returned (.bool true) ∧ w = w' := by
  have C := Lib.hid (index_yes xs v hv b o c w hc hn)
  clear hc hv
  go_enter Tryz.func18, Tryz.ntmps18
  go_wp2_with fail
  refine C.out.mono ?_
  rintro e w' ⟨k, rfl, rfl⟩
  go_wp2_with fail
  go_ret
  exact ⟨rfl, rfl⟩
theorem contains_no (xs : List Int) (v : Int) (hv : v ∉ xs) (b o c : Nat) (w : World) (hc : ∀ (j : Nat) (h : j < xs.length), w.cell? ⟨b, o + j, none⟩ = some (.int .i64 xs[j])) (hn : xs.length ≤ 1000000) :
    Calls Tryz.prog 18 #[.slice (some ⟨b, o, none⟩) xs.length c, .int .i64 v] w fun e w' => e = .returned (.bool false) ∧ w = w' := by
  have C := Lib.hid (index_no xs v hv b o c w hc hn)
  clear hc hv
  go_enter Tryz.func18, Tryz.ntmps18
  go_wp2_with fail
  refine C.out.mono ?_
  rintro e w' ⟨rfl, rfl⟩
  go_wp2_with fail
  go_ret
  exact ⟨rfl, rfl⟩
end Go.Proofs.YtonhmomofpeamaaGreatDoor
