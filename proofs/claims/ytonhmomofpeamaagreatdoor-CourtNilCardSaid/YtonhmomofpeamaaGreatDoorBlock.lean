/- court.Block of the one order that waits. -/
import Derived.Test.YtonhmomofpeamaaGreatDoorDo
import Derived.Test.YtonhmomofpeamaaGreatDoorContains
import Derived.Deep.CutBlock
namespace Go.Proofs.YtonhmomofpeamaaGreatDoor
open Go.RowKit
attribute [local irreducible] Tryz.zeroCells59
def Mine (cb tb hb nb : Nat) (k : Nat) : Prop := k = tb ∨ k = hb ∨ k = nb ∨ k = cb
structure BlkW (w W : World) (cb tb hb hc nb nc : Nat) (sh sn : List Value) (book : Nat) (least height : Int) (bonds pool events : Value) (has non : List Int) (pb kb : Nat) (cur : Array Value) : Prop where
  court : CourtBox W cb tb book least height bonds pool events
  till : TillAt W tb hb hc nb nc sh sn has non 0
  row : W.heap[pb]? = some (.cells cur 59 (0, 0))
  pick : W.cell? ⟨kb, 0, none⟩ = some (.int .i64 0)
  keep : Keeps (Mine cb tb hb nb) w W
section
variable {w W : World} {cb tb hb hc nb nc : Nat} {sh sn : List Value} {book : Nat} {least height : Int} {bonds pool events : Value} {has non : List Int} {pb kb : Nat} {cur : Array Value}
theorem BlkW.after {W' : World} (h : BlkW w W cb tb hb hc nb nc sh sn book least height bonds pool events has non pb kb cur) (k : Below W.heap.size W W') : BlkW w W' cb tb hb hc nb nc sh sn book least height bonds pool events has non pb kb cur :=
  ⟨h.court.keeps (S := fun _ => False) (Keeps.of_below k) id, h.till.keeps (S := fun _ => False) (Keeps.of_below k) id id id, (k.block pb (lt_of_block h.row)).trans h.row,
   by rw [World.cell?_of_block (w := W) (k.block kb (World.block_lt_of_cell? W _ h.pick))]; exact h.pick, h.keep.trans' (Keeps.of_below (S := fun _ => False) k) (fun _ _ f => f.elim)⟩
theorem BlkW.setHeight (h : BlkW w W cb tb hb hc nb nc sh sn book least height bonds pool events has non pb kb cur) (hcb : cb ≠ tb ∧ cb ≠ hb ∧ cb ≠ nb) (hpb : pb ≠ cb) (hkb : kb ≠ cb) (x : Int) : BlkW w (W.setCell ⟨cb, 3, none⟩ (.int .u64 x)) cb tb hb hc nb nc sh sn book least x bonds pool events has non pb kb cur :=
  ⟨h.court.setHeight x, h.till.keeps (S := fun k => k = cb) ((Keeps.refl (fun k => k = cb) _).setCell ⟨cb, 3, none⟩ (fun _ => rfl) _) (fun e => hcb.1 e.symm) (fun e => hcb.2.1 e.symm) (fun e => hcb.2.2 e.symm),
   by rw [heap_setCell_other _ _ _ _ hpb]; exact h.row, by rw [World.cell?_of_block (w := W) (heap_setCell_other _ _ _ _ hkb)]; exact h.pick, h.keep.setCell ⟨cb, 3, none⟩ (fun _ => Or.inr (Or.inr (Or.inr rfl))) _⟩
theorem BlkW.setPool (h : BlkW w W cb tb hb hc nb nc sh sn book least height bonds pool events has non pb kb cur) (hcb : cb ≠ tb ∧ cb ≠ hb ∧ cb ≠ nb) (hpb : pb ≠ cb) (hkb : kb ≠ cb) (x : Value) : BlkW w (W.setCell ⟨cb, 5, none⟩ x) cb tb hb hc nb nc sh sn book least height bonds x events has non pb kb cur :=
  ⟨h.court.setPool x, h.till.keeps (S := fun k => k = cb) ((Keeps.refl (fun k => k = cb) _).setCell ⟨cb, 5, none⟩ (fun _ => rfl) _) (fun e => hcb.1 e.symm) (fun e => hcb.2.1 e.symm) (fun e => hcb.2.2 e.symm),
   by rw [heap_setCell_other _ _ _ _ hpb]; exact h.row, by rw [World.cell?_of_block (w := W) (heap_setCell_other _ _ _ _ hkb)]; exact h.pick, h.keep.setCell ⟨cb, 5, none⟩ (fun _ => Or.inr (Or.inr (Or.inr rfl))) _⟩
end
/-- Behind the order that was done: its error lies in the slice that is handed back. -/
def OutW (w W : World) (cb tb hb hc nb nc : Nat) (sh sn : List Value) (book : Nat) (least height : Int) (bonds : Value) (pb pc : Nat) (has non : List Int) (kb : Nat) (cur : Array Value) (o : Value) : Prop :=
  ∃ ob oc v, o = .slice (some ⟨ob, 0, none⟩) 1 oc ∧ W.cell? ⟨ob, 0, none⟩ = some (.int .i64 0) ∧ w.heap.size ≤ ob ∧ BlkW w W cb tb hb hc nb nc sh sn book least height bonds (.slice (some ⟨pb, 0, none⟩) 1 pc) v has non pb kb cur
theorem OutW.after {w W W' : World} {cb tb hb hc nb nc : Nat} {sh sn : List Value} {book : Nat} {least height : Int} {bonds : Value} {pb pc : Nat} {has non : List Int} {kb : Nat} {cur : Array Value} {o : Value} (h : OutW w W cb tb hb hc nb nc sh sn book least height bonds pb pc has non kb cur o) (k : Below W.heap.size W W') : OutW w W' cb tb hb hc nb nc sh sn book least height bonds pb pc has non kb cur o := by
  obtain ⟨ob, oc, v, h1, h2, h3, h4⟩ := h
  exact ⟨ob, oc, v, h1, by rw [World.cell?_of_block (w := W) (k.block ob (World.block_lt_of_cell? W _ h2))]; exact h2, h3, h4.after k⟩
theorem errno_row : (Tryz.prog.info? 24).map (fun i => (i.zero, i.size, i.bytes)) = some (some (.int .i64 0), 1, 8) := by kernel_rfl
theorem contains_none (b o n : Nat) (v : Int) (w : World) : Calls Tryz.prog 18 #[.slice (some ⟨b, o, none⟩) 0 n, .int .i64 v] w fun e w' => e = .returned (.bool false) ∧ w = w' :=
  contains_no [] v (by simp) b o n w (fun j h => absurd h (by simp)) (by simp)
theorem contains_one (b n : Nat) (w : World) (hc : w.cell? ⟨b, 0, none⟩ = some (.int .i64 0)) : Calls Tryz.prog 18 #[.slice (some ⟨b, 0, none⟩) 1 n, .int .i64 0] w fun e w' => e = .returned (.bool true) ∧ w = w' :=
  contains_yes [0] 0 (by simp) b 0 n w (fun j h => by
    have hj : j < 1 := h
    obtain rfl : j = 0 := by omega
    exact hc) (by simp)
theorem tx_info_of {x : List Value} (h : x.length = 2164) : (Tryz.prog.info? 59).map (·.size) = some x.toArray.size :=
  Eq.trans tx_info (congrArg some (show 2164 = x.toArray.size by rw [List.size_toArray, h]))
theorem tx_zero_of {x : List Value} (h : x.length = 2164) : Tryz.zeroCells59.size = x.toArray.size :=
  Eq.trans tx_zero (show 2164 = x.toArray.size by rw [List.size_toArray, h])
set_option maxHeartbeats 1000000 in
theorem block_one (w : World) (cb tb hb hc nb nc : Nat) (sh sn : List Value) (book : Nat) (least height : Int) (bonds : Value) (has non has2 non2 : List Int) (pb pc kb kc : Nat) (cur : Array Value) (x : List Value)
    (hS : BlkW w w cb tb hb hc nb nc sh sn book least height bonds (.slice (some ⟨pb, 0, none⟩) 1 pc) (.slice none 0 0) has non pb kb cur) (hcb : cb ≠ tb ∧ cb ≠ hb ∧ cb ≠ nb) (hpb : ¬ Mine cb tb hb nb pb) (hkb : ¬ Mine cb tb hb nb kb)
    (hx : cur.extract 0 (0 + 2164) = x.toArray) (hsz : 0 + 2164 ≤ cur.size) (hxl : x.length = 2164) (hx1 : ∀ v ∈ x, v.oneCell' = true) (hh0 : 0 ≤ height) (hh1 : height < 1000000)
    (HDO : ∀ W, CourtBox W cb tb book least (height + 1) bonds (.slice (some ⟨pb, 0, none⟩) 1 pc) (.slice none 0 0) → TillAt W tb hb hc nb nc sh sn has non 0 →
      Calls Tryz.prog 19 #[.pointer (some ⟨cb, 0, none⟩), .agg x.toArray] W fun e w' => ∃ v, e = .returned (.int .i64 0) ∧ CourtBox w' cb tb book least (height + 1) bonds (.slice (some ⟨pb, 0, none⟩) 1 pc) v ∧ TillAt w' tb hb hc nb nc sh sn has2 non2 0 ∧ Keeps (Mine cb tb hb nb) W w') :
    Calls Tryz.prog 4 #[.pointer (some ⟨cb, 0, none⟩), .slice (some ⟨kb, 0, none⟩) 1 kc] w fun e w' => ∃ ob oc v, e = .returned (.tuple #[.slice (some ⟨ob, 0, none⟩) 1 oc, .int .i64 0]) ∧ w'.cell? ⟨ob, 0, none⟩ = some (.int .i64 0) ∧
      CourtBox w' cb tb book least (height + 1) bonds (.slice none 0 0) v ∧ TillAt w' tb hb hc nb nc sh sn has2 non2 0 ∧ Keeps (Mine cb tb hb nb) w w' := by
  have HS := Lib.hid hS
  have KC := Lib.hid hcb
  have KP := Lib.hid hpb
  have KK := Lib.hid hkb
  have KX := Lib.hid hx
  have KZ := Lib.hid hsz
  have KD := Lib.hid HDO
  have c3 := hS.court.c3
  have KL := Lib.hid hS.court.lt
  clear hS hcb hpb hkb hx hsz HDO
  have KXL : Hid (x.length = 2164 ∧ ∀ v ∈ x, v.oneCell' = true) := ⟨hxl, hx1⟩
  clear hx1 hxl
  go_enter Tryz.func4, Tryz.ntmps4
  go_wp2_with fail
  go_loop [25] (fun i => ∃ k : Nat, k ≤ 1 ∧ i = .int .i64 k) (fun i => 1 - (intOf i).toNat)
  case atStart => exact ⟨0, by omega, rfl⟩
  case round =>
    obtain ⟨k, hk, rfl⟩ := hrel
    rcases (show k = 0 ∨ k = 1 by omega) with rfl | rfl
    · have k0 := HS.out.pick
      have c5 := HS.out.court.c5
      go_wp2_with fail
      refine (contains_none kb 0 kc 0 _).mono ?_
      rintro e w' ⟨rfl, rfl⟩
      go_wp2_with fail
      go_round
      case rel => exact ⟨1, by omega, rfl⟩
      case measure => simp [intOf]
    · have f3 := HS.out.court.fz 3
      go_upto_block 3 with (fail)
      have HT := Lib.hid (HS.out.setHeight KC.out (fun e => KP.out (Or.inr (Or.inr (Or.inr e)))) (fun e => KK.out (Or.inr (Or.inr (Or.inr e)))) (height + 1))
      clear f3 c3 HS
      generalize w.setCell ⟨cb, 3, none⟩ (.int .u64 (height + 1)) = W0 at *
      go_wp2_with fail
      go_loopw [58, 8] (fun i o W => (i = .int .i64 0 ∧ o = .slice none 0 0 ∧ BlkW w W cb tb hb hc nb nc sh sn book least (height + 1) bonds (.slice (some ⟨pb, 0, none⟩) 1 pc) (.slice none 0 0) has non pb kb cur) ∨ (i = .int .i64 1 ∧ OutW w W cb tb hb hc nb nc sh sn book least (height + 1) bonds pb pc has2 non2 kb cur o)) (fun i _ _ => 1 - (intOf i).toNat)
      case atStart => exact Or.inl ⟨rfl, rfl, HT.out⟩
      case round =>
        rcases hrel with ⟨rfl, rfl, hB⟩ | ⟨rfl, hO⟩
        · have k0 := hB.pick
          have c5 := hB.court.c5
          have KB := Lib.hid hB
          clear hB HT
          have KE : Hid (Value.agg x.toArray = .agg (cur.extract 0 (0 + 2164))) := by show Value.agg x.toArray = _; rw [KX.out]
          go_wp2_with ((with_reducible refine wpList_load_sub (op := ⟨some _, .load 59 _, _, _, _, _⟩) rfl 59 _ rfl pb 0 2164 ?_ 59 cur (0, 0) _ ?_ ?_ Tryz.underlying59 ?_ ?_ (.agg x.toArray) ?_ ?_); rfl; exact KB.out.row; exact KZ.out; rfl; exact tx_info; exact KE.out)
          refine (KD.out _ KB.out.court KB.out.till).mono ?_
          rintro e W1 ⟨v1, rfl, C1, T1, k1⟩
          have hB1 : BlkW w W1 cb tb hb hc nb nc sh sn book least (height + 1) bonds (.slice (some ⟨pb, 0, none⟩) 1 pc) v1 has2 non2 pb kb cur := ⟨C1, T1, (k1.block pb (lt_of_block KB.out.row) KP.out).trans KB.out.row, by rw [World.cell?_of_block (w := wr) (k1.block kb (World.block_lt_of_cell? wr _ KB.out.pick) KK.out)]; exact KB.out.pick, KB.out.keep.trans k1⟩
          have KB1 := Lib.hid hB1
          clear C1 T1 k1 hB1 k0 c5 KB
          obtain ⟨ie, hie, hz0, hz1, hz2⟩ := info_parts errno_row
          have KI : Hid (Tryz.prog.info? 24 = some ie) := hie
          have KZ0 : Hid (ie.zero = some (.int .i64 0)) := hz0
          have KS : Hid (ie.size = 1) := hz1
          have KY : Hid (ie.bytes = 8) := hz2
          clear hie hz0 hz1 hz2
          have HN : Hid (∀ j u, [Value.int .i64 0][j]? = some u → (W1.alloc (.cells #[.int .i64 0] 24)).cell? ((⟨W1.heap.size, 0, none⟩ : Addr).add j) = some u) := fun j u hu => by
            rw [Addr.add_mid, Nat.zero_add]
            exact cells_new _ _ _ _ _ (by rw [List.getElem?_toArray]; exact hu)
          go_wp2_with (at_builtin; refine wpList_append_more (w := W1.alloc (.cells #[.int .i64 0] 24)) rfl _ _ 23 rfl W1.heap.size 24 ie (.int .i64 0) 1 8 Tryz.underlying23 KI.out KZ0.out KS.out KY.out rfl (by decide) (.slice none 0 0) 0 [] rfl (World.ownsRow_nil _ _ _ _) ⟨W1.heap.size, 0, none⟩ 1 1 [.int .i64 0] rfl rfl HN.out (fun u hu => by rw [List.mem_singleton.1 hu]; rfl) (by decide) (by decide) (by simp) (by decide) ?_)
          intro v' W2 hown hg _
          have hown' : W2.ownsRow W1.heap.size 24 1 v' 1 [.int .i64 0] := by simpa using hown
          obtain ⟨ob, oc, sp, rfl, ho1, ho2, ho3, ho4, ho5⟩ := ownsRow_form hown' (fun h => by subst h; obtain ⟨_, h | ⟨g, cap, cur, h, _⟩⟩ := hown'; exact absurd h.2 (by decide); cases h)
          have hb2 : Below W1.heap.size W1 W2 := ((Below.refl _ _).alloc (Nat.le_refl _) _).grown hg (by simp) (fun k hk => by cases hk)
          have KB2 := Lib.hid (KB1.out.after hb2)
          have KO2 : Hid (W2.cell? ⟨ob, 0, none⟩ = some (.int .i64 0)) := by
            show W2.cell? ⟨ob, 0, none⟩ = some (.int .i64 0)
            rw [cell_of_row W2 ob 0 _ _ _ ho4]; simp
          have KG : Hid (w.heap.size ≤ ob) := Nat.le_trans KB1.out.keep.size ho1
          clear hown hown' hg ho1 ho2 ho3 ho4 ho5 hb2 KB1 HN
          go_wp2_with fail
          go_roundw
          case rel => exact Or.inr ⟨rfl, ob, oc, v1, rfl, KO2.out, KG.out, KB2.out⟩
          case measure => simp [intOf]
        · clear HT
          obtain ⟨ob, oc, v1, rfl, ho, hge, hB⟩ := hO
          have KO : Hid (OutW w wr cb tb hb hc nb nc sh sn book least (height + 1) bonds pb pc has2 non2 kb cur (.slice (some ⟨ob, 0, none⟩) 1 oc)) := ⟨ob, oc, v1, rfl, ho, hge, hB⟩
          have c5 := hB.court.c5
          clear ho hge hB
          go_upto_block 5 with (fail)
          clear c5
          go_wp2_with fail
          go_loopw [80, 11] (fun i l W => ∃ k : Nat, k ≤ 1 ∧ i = .int .i64 k ∧ l = .slice none 0 0 ∧ OutW w W cb tb hb hc nb nc sh sn book least (height + 1) bonds pb pc has2 non2 kb cur (.slice (some ⟨ob, 0, none⟩) 1 oc)) (fun i _ _ => 1 - (intOf i).toNat)
          case atStart => exact ⟨0, by omega, rfl, rfl, KO.out⟩
          case round =>
            obtain ⟨k, hk, rfl, rfl, hO⟩ := hrel
            clear KO
            rcases (show k = 0 ∨ k = 1 by omega) with rfl | rfl
            · have KO := Lib.hid hO
              obtain ⟨ob', oc', v2, he, ho, hge, hB⟩ := hO
              have KB := Lib.hid hB
              clear he ho hge hB
              have KE : Hid (Value.agg x.toArray = .agg (cur.extract 0 (0 + 2164))) := by show Value.agg x.toArray = _; rw [KX.out]
              go_wp2_with (first | ((with_reducible refine wpList_load_sub (op := ⟨some _, .load 59 _, _, _, _, _⟩) rfl 59 _ rfl pb 0 2164 ?_ 59 cur (0, 0) _ ?_ ?_ Tryz.underlying59 ?_ ?_ (.agg x.toArray) ?_ ?_); rfl; exact KB.out.row; exact KZ.out; rfl; exact tx_info; exact KE.out) | ((with_reducible refine wpList_store_row (o := ⟨none, .store 59 _ _, _, _, _, _⟩) rfl 59 _ _ rfl wr.heap.size x.toArray ?_ ?_ 59 Tryz.zeroCells59 ?_ ?_ ?_ ?_ ?_); rfl; rfl; exact heap_alloc_new _ _; exact tx_info_of KXL.out.1; exact tx_zero_of KXL.out.1; exact all_oneCell_toArray KXL.out.2))
              have hb3 : Below wr.heap.size wr ((wr.alloc (.cells Tryz.zeroCells59 59)).setRow wr.heap.size x.toArray) := below_setRow ((Below.refl _ _).alloc (Nat.le_refl _) _) _ (Nat.le_refl _) _
              have KO3 := Lib.hid (KO.out.after hb3)
              have k0 := (KB.out.after hb3).pick
              clear hb3 KO KB
              generalize (wr.alloc (.cells Tryz.zeroCells59 59)).setRow wr.heap.size x.toArray = W3 at *
              refine (contains_one kb kc W3 k0).mono ?_
              rintro e w' ⟨rfl, rfl⟩
              clear k0
              go_wp2_with fail
              go_roundw
              case rel => exact ⟨1, by omega, rfl, rfl, KO3.out⟩
              case measure => simp [intOf]
            · obtain ⟨ob', oc', v2, he, ho, hge, hB⟩ := hO
              have f5 := hB.court.fz 5
              have c5 := hB.court.c5
              have KB := Lib.hid hB
              have KO := Lib.hid ho
              have KG := Lib.hid hge
              have KQ := Lib.hid he
              clear ho hge hB he
              go_wp2_with fail
              go_ret2
              have KE := KQ.out
              cases KE
              have HF := KB.out.setPool KC.out (fun e => KP.out (Or.inr (Or.inr (Or.inr e)))) (fun e => KK.out (Or.inr (Or.inr (Or.inr e)))) (.slice none 0 0)
              refine ⟨ob, oc, v2, rfl, ?_, HF.court, HF.till, HF.keep⟩
              rw [World.cell?_of_block (w := wr) (heap_setCell_other _ _ _ _ (show ob ≠ cb from fun e => absurd KL.out (Nat.not_lt.2 (e ▸ KG.out))))]; exact KO.out
end Go.Proofs.YtonhmomofpeamaaGreatDoor
