/- A region that draws its order, walked in ONE order. What only reads is taken where it may come up: copies, addresses and sums yield one value in whatever world; a load yields one value in every world that meets S. Of all else one operation alone may come up at a time, and shows S anew, till operation i0 ('the last one that S is asked of waits for') has been done. -/
import Derived.Test.YtonhmomofpeamaaGreatDoorLib
import Derived.OrdersHeld
namespace Go.Proofs.YtonhmomofpeamaaGreatDoor
open Go.RowKit
section
variable {P : Program} {ops : Array Oper} {Q : Exit → Act → World → Prop} {S : World → Prop} {i0 : Nat}

/-- S holds, or i0 has been done. -/
def Met (S : World → Prop) (i0 : Nat) (listed : Array Bool) (w : World) : Prop := listed.getD i0 false = true ∨ S w
theorem Met.set {listed : Array Bool} {w : World} {i : Nat} (h : i ≠ i0) : Met S i0 (listed.setIfInBounds i true) w ↔ Met S i0 listed w := by
  unfold Met
  rw [getD_set_ne false h]

def wpAnyG (P : Program) (ops : Array Oper) (Q : Exit → Act → World → Prop) (S : World → Prop) (i0 : Nat) : Nat → Array Bool → Act → World → Prop
  | 0, listed, a, w => Region.ready .any ops listed = [] ∧ Q .normal a w
  | fuel + 1, listed, a, w =>
    (Region.ready .any ops listed = [] → Q .normal a w) ∧
    ∀ i ∈ Region.ready .any ops listed, wpOp P ops Q i (fun a' w' => Met S i0 (listed.setIfInBounds i true) w' ∧ wpAnyG P ops Q S i0 fuel (listed.setIfInBounds i true) a' w') a w
theorem wpAny_of_G : ∀ (fuel : Nat) (listed : Array Bool) (a : Act) (w : World), wpAnyG P ops Q S i0 fuel listed a w → wpAny P .any ops Q fuel listed a w
  | 0, _, _, _, h => h
  | fuel + 1, _, _, _, h => ⟨h.1, fun i hi => wpOp_mono (fun a' w' h' => wpAny_of_G fuel _ a' w' h'.2) (h.2 i hi)⟩

/-- What is listed waits for nothing that isn't. -/
def Closed (ops : Array Oper) (listed : Array Bool) : Prop := ∀ j oj, ops[j]? = some oj → listed.getD j false = true → ∀ e ∈ oj.after, Region.binds .any e = true → listed.getD e.on false = true
theorem Closed.set {listed : Array Bool} {i : Nat} (h : Closed ops listed) (hi : i ∈ Region.ready .any ops listed) : Closed ops (listed.setIfInBounds i true) := by
  obtain ⟨_, oi, hoi, hall⟩ := mem_ready.1 hi
  intro j oj hj hl e he hb
  by_cases hij : i = j
  · subst hij
    obtain rfl : oj = oi := Option.some.inj (hj.symm.trans hoi)
    exact getD_set_true (hall e he hb)
  · rw [getD_set_ne false hij] at hl
    exact getD_set_true (h j oj hj hl e he hb)

/-- Does operation i0 wait for operation i, itself or through others (n steps)? (Where there is no operation i0: yes.) -/
def waitsIn (ops : Array Oper) (i : Nat) : Nat → Nat → Bool
  | 0, _ => false
  | n + 1, j => match ops[j]? with
    | some o => o.after.any fun e => Region.binds .any e && (e.on == i || waitsIn ops i n e.on)
    | none => false
def waits (ops : Array Oper) (i0 i : Nat) : Bool := match ops[i0]? with | some _ => waitsIn ops i 6 i0 | none => true
theorem waitsIn_listed {listed : Array Bool} {i : Nat} (hc : Closed ops listed) : ∀ (n j : Nat), waitsIn ops i n j = true → listed.getD j false = true → listed.getD i false = true
  | 0, _, h, _ => by cases h
  | n + 1, j, h, hl => by
    unfold waitsIn at h
    cases ho : ops[j]? with
    | none => simp [ho] at h
    | some o =>
      simp only [ho] at h
      obtain ⟨e, he, hb⟩ := Array.any_eq_true'.1 h
      simp only [Bool.and_eq_true, Bool.or_eq_true, beq_iff_eq] at hb
      have h1 := hc j o ho hl e he hb.1
      rcases hb.2 with h2 | h2
      · rw [h2] at h1; exact h1
      · exact waitsIn_listed hc n e.on h2 h1

theorem getD_false_of_true {listed : Array Bool} {i : Nat} (h : listed.getD i true = false) : listed.getD i false = false := by
  rcases Nat.lt_or_ge i listed.size with h' | h'
  · simp [h'] at h ⊢; exact h
  · simp [Array.getElem?_eq_none h'] at h
theorem unmet {listed : Array Bool} {i : Nat} {w : World} (hc : Closed ops listed) (hw : waits ops i0 i = true) (hsz : listed.size = ops.size) (hi : listed.getD i true = false) (h : Met S i0 listed w) : S w := by
  rcases h with h | h
  · exfalso
    unfold waits at hw
    cases ho : ops[i0]? with
    | none =>
      have : ops.size ≤ i0 := by simpa using ho
      have : listed.getD i0 false = false := by simp [Array.getElem?_eq_none (show listed.size ≤ i0 by omega)]
      rw [this] at h; cases h
    | some o =>
      simp only [ho] at hw
      have := waitsIn_listed hc _ _ hw h
      rw [getD_false_of_true hi] at this
      cases this
  · exact h

/-- What 'oi' yields: in whatever world; or in every world that meets S, and i0 waits for it. -/
def Takes (P : Program) (ops : Array Oper) (S : World → Prop) (i0 i : Nat) (oi : Oper) (v : Value) (a : Act) : Prop :=
  Yields P ops oi v a ∨ (waits ops i0 i = true ∧ YieldsIf P ops S oi v a)

theorem takes_op {i j : Nat} {oi oj : Oper} {v : Value} (hj : ops[j]? = some oj) (hap : oi.apart ops oj = true)
    (hsi : ∀ cs b, oi.op ≠ .select cs b) (hsj : ∀ cs b, oj.op ≠ .select cs b)
    (hQ : ∀ c a w, Q (.panic c) (a.put oi.dst v) w → Q (.panic c) a w) {K : Act → World → Prop} {a : Act} {w : World}
    (hy : Takes P ops S i0 i oi v a) (h : wpOp P ops Q j K (a.put oi.dst v) w) :
    wpOp P ops Q j (fun a' w' => Takes P ops S i0 i oi v a' ∧ K (a'.put oi.dst v) w') a w := by
  rcases hy with hy | ⟨hw, hy⟩
  · exact wpOp_mono (fun a' w' h' => ⟨.inl h'.1, h'.2⟩) (wpOp_put hj hap hsi hsj hQ hy h)
  · exact wpOp_mono (fun a' w' h' => ⟨.inr ⟨hw, h'.1⟩, h'.2⟩) (wpOp_putIf hj hap hsi hsj hQ hy h)

theorem takes_wpOp {i : Nat} {oi : Oper} {v : Value} {a : Act} {listed : Array Bool} (hi : ops[i]? = some oi) (hy : Takes P ops S i0 i oi v a) (hc : Closed ops listed) (hsz : listed.size = ops.size) (hun : listed.getD i true = false)
    {K : Act → World → Prop} {w : World} (hS : Met S i0 listed w) (h : K (a.put oi.dst v) w) : wpOp P ops Q i K a w := by
  rcases hy with hy | ⟨hw, hy⟩
  · exact hy.wpOp hi h
  · exact hy.wpOp hi (unmet hc hw hsz hun hS) h

theorem wpAnyG_first {i : Nat} {oi : Oper} {v : Value} (hi : ops[i]? = some oi) (hne : i ≠ i0) (hsel : ∀ (j : Nat) (o : Oper) cs b, ops[j]? = some o → o.op ≠ .select cs b)
    (hQ : ∀ c a w, Q (.panic c) (a.put oi.dst v) w → Q (.panic c) a w) :
    ∀ (fuel : Nat) (listed : Array Bool) (a : Act) (w : World),
      (∀ j oj, ops[j]? = some oj → j ≠ i → listed.getD j true = false → (∀ e ∈ oj.after, Region.binds .any e = true → e.on ≠ i) → oi.apart ops oj = true) →
      Closed ops listed → listed.size = ops.size →
      i ∈ Region.ready .any ops listed → Takes P ops S i0 i oi v a → Met S i0 listed w →
      wpAnyG P ops Q S i0 fuel (listed.setIfInBounds i true) (a.put oi.dst v) w → wpAnyG P ops Q S i0 (fuel + 1) listed a w := by
  intro fuel
  induction fuel with
  | zero =>
    intro listed a w _ hc hsz hr hy hS H
    refine ⟨fun h => (by rw [h] at hr; cases hr), fun j hj => ?_⟩
    by_cases hji : j = i
    · subst hji; exact takes_wpOp hi hy hc hsz (mem_ready.1 hr).1 hS ⟨(Met.set hne).2 hS, H⟩
    · have := ready_mono hj hji
      rw [H.1] at this
      cases this
  | succ fuel ih =>
    intro listed a w hfree hc hsz hr hy hS H
    refine ⟨fun h => (by rw [h] at hr; cases hr), fun j hj => ?_⟩
    by_cases hji : j = i
    · subst hji; exact takes_wpOp hi hy hc hsz (mem_ready.1 hr).1 hS ⟨(Met.set hne).2 hS, H⟩
    · have h1 := H.2 j (ready_mono hj hji)
      obtain ⟨hjun, oj, hoj, hall⟩ := mem_ready.1 hj
      have hnot : ∀ e ∈ oj.after, Region.binds .any e = true → e.on ≠ i := fun e he hb heq => by
        have h1 := hall e he hb
        have h0 := getD_false_of_true (mem_ready.1 hr).1
        rw [heq, h0] at h1
        cases h1
      have h2 := takes_op hoj (hfree j oj hoj hji hjun hnot) (fun cs b => hsel i oi cs b hi) (fun cs b => hsel j oj cs b hoj) hQ hy h1
      have hfree' : ∀ k ok, ops[k]? = some ok → k ≠ i → (listed.setIfInBounds j true).getD k true = false →
          (∀ e ∈ ok.after, Region.binds .any e = true → e.on ≠ i) → oi.apart ops ok = true := fun k ok hk hki hun hno => by
        refine hfree k ok hk hki ?_ hno
        by_cases hjk : j = k
        · subst hjk; exact hjun
        · rw [getD_set_ne true hjk] at hun; exact hun
      refine wpOp_mono (fun a' w' h3 => ?_) h2
      have hm : Met S i0 (listed.setIfInBounds j true) w' := by
        have := h3.2.1
        rw [Array.setIfInBounds_comm _ _ (Ne.symm hji)] at this
        exact (Met.set hne).1 this
      refine ⟨hm, ih (listed.setIfInBounds j true) a' w' hfree' (hc.set hj) (by simpa using hsz) (ready_mono hr (Ne.symm hji)) h3.1 hm ?_⟩
      rw [Array.setIfInBounds_comm _ _ hji]
      exact h3.2.2

/-- The walk along a plan: (i, true): operation i only reads; (i, false): it may do anything, and shows S anew (i0, and what comes behind it, needn't). -/
def wpPlan (P : Program) (ops : Array Oper) (Q : Exit → Act → World → Prop) (S : World → Prop) (i0 : Nat) : Bool → List (Nat × Bool) → Act → World → Prop
  | _, [], a, w => Q .normal a w
  | b, (i, true) :: rest, a, w => ∃ oi v, ops[i]? = some oi ∧ Takes P ops S i0 i oi v a ∧ wpPlan P ops Q S i0 b rest (a.put oi.dst v) w
  | b, (i, false) :: rest, a, w => wpOp P ops Q i (fun a' w' => (b = true ∨ i = i0 ∨ S w') ∧ wpPlan P ops Q S i0 (b || i == i0) rest a' w') a w

/-- May the plan be followed, whatever the tape says? -/
def planOk (ops : Array Oper) (i0 : Nat) : List (Nat × Bool) → Array Bool → Bool
  | [], listed => (Region.ready .any ops listed).isEmpty
  | (i, true) :: rest, listed => i != i0 && Region.free .any ops listed i && (Region.ready .any ops listed).contains i && planOk ops i0 rest (listed.setIfInBounds i true)
  | (i, false) :: rest, listed => (Region.ready .any ops listed == [i]) && planOk ops i0 rest (listed.setIfInBounds i true)

theorem plan_any (hsel : Region.noSelect ops = true) (hQ : ∀ c a (d : Option Tmp) v w, Q (.panic c) (a.put d v) w → Q (.panic c) a w) :
    ∀ (plan : List (Nat × Bool)) (b : Bool) (listed : Array Bool) (a : Act) (w : World), planOk ops i0 plan listed = true → Closed ops listed → listed.size = ops.size → (b = true → listed.getD i0 false = true) → (b = true ∨ S w) →
      wpPlan P ops Q S i0 b plan a w → wpAnyG P ops Q S i0 plan.length listed a w
  | [], b, listed, a, w, hok, _, _, _, _, h => by
    simp only [planOk, List.isEmpty_iff] at hok
    exact ⟨hok, h⟩
  | (i, true) :: rest, b, listed, a, w, hok, hc, hsz, hb, hS, h => by
    simp only [planOk, Bool.and_eq_true, bne_iff_ne] at hok
    obtain ⟨⟨⟨h0, h1⟩, h2⟩, h3⟩ := hok
    obtain ⟨oi, v, hi, hy, hr⟩ := h
    have hrd : i ∈ Region.ready .any ops listed := by simpa using h2
    exact wpAnyG_first hi h0 (Region.noSelect_spec hsel) (fun c a w => hQ c a _ _ w) _ listed a w (Region.free_spec hi h1) hc hsz hrd hy (hS.imp hb id)
      (plan_any hsel hQ rest b _ _ _ h3 (hc.set hrd) (by simpa using hsz) (fun hbb => getD_set_true (hb hbb)) hS hr)
  | (i, false) :: rest, b, listed, a, w, hok, hc, hsz, hb, hS, h => by
    simp only [planOk, Bool.and_eq_true, beq_iff_eq] at hok
    obtain ⟨h1, h3⟩ := hok
    refine ⟨fun h0 => (by rw [h1] at h0; cases h0), fun j hj => ?_⟩
    obtain rfl : j = i := by rw [h1] at hj; simpa using hj
    have hlt : j < listed.size := by
      obtain ⟨_, o, ho, _⟩ := mem_ready.1 hj
      have := (Array.getElem?_eq_some_iff.1 ho).1
      omega
    refine wpOp_mono (fun a' w' h' => ?_) h
    have hset : j = i0 → (listed.setIfInBounds j true).getD i0 false = true := fun e => by subst e; simp [hlt]
    refine ⟨?_, plan_any hsel hQ rest _ _ _ _ h3 (hc.set hj) (by simpa using hsz) ?_ ?_ h'.2⟩
    · rcases h'.1 with hb' | hb' | hb'
      · exact .inl (getD_set_true (hb hb'))
      · exact .inl (hset hb')
      · exact .inr hb'
    · intro hbb
      simp only [Bool.or_eq_true, beq_iff_eq] at hbb
      rcases hbb with hbb | hbb
      · exact getD_set_true (hb hbb)
      · exact hset hbb
    · rcases h'.1 with hb' | hb' | hb'
      · exact .inl (by simp [hb'])
      · exact .inl (by simp [hb'])
      · exact .inr hb'

/-- THE BEGINNING. -/
theorem region_plan {id : Nat} {a : Act} {w : World} {l : List Oper} (S : World → Prop) (i0 : Nat) (plan : List (Nat × Bool)) (hm : P.follows .mixedOrders = true) (hsel : Region.noSelect l.toArray = true) (hlen : plan.length = l.length)
    (hok : planOk l.toArray i0 plan (Array.replicate l.length false) = true) (hQ : ∀ c a (d : Option Tmp) v w, Q (.panic c) (a.put d v) w → Q (.panic c) a w)
    (hS : S w.drew) (h : ∀ W, W = w.drew → ∀ K : Act → World → Prop, (∀ a' w', Q .normal a' w' → K a' w') → wpPlan P l.toArray (Exit.then K Q) S i0 false plan a W) : (Code.region id l.toArray true).wp P Q a w := by
  refine wp_region_any hm (wpAny_of_G (S := S) (i0 := i0) _ _ _ _ ?_)
  have hplan := h w.drew rfl (fun a' w' => Q .normal a' w') (fun _ _ h => h)
  have e : Exit.then (fun a' w' => Q .normal a' w') Q = Q := by funext e; cases e <;> rfl
  rw [e] at hplan
  have hsz : (Array.replicate l.length false).size = l.toArray.size := by simp
  have hcl : Closed l.toArray (Array.replicate l.length false) := fun j oj _ hl => by
    have : (Array.replicate l.length false).getD j false = false := by
      rcases Nat.lt_or_ge j l.length with h | h <;> simp [h]
    rw [this] at hl; cases hl
  have := plan_any hsel hQ plan false (Array.replicate l.length false) a w.drew hok hcl hsz (fun h => by cases h) (.inr hS) hplan
  rw [hlen] at this
  simpa using this

/-- Behind a copy, an address, a sum: what yields in whatever world. -/
theorem plan_pure {i : Nat} {oi : Oper} {v : Value} {b : Bool} {rest : List (Nat × Bool)} {a : Act} {w : World} (hi : ops[i]? = some oi) (hw : Region.wanted oi (yielded ops a.tmps) = true) (hy : ∀ W, (execOp a.eval oi).run P W = .ok (.value v) W)
    (h : wpPlan P ops Q S i0 b rest (a.put oi.dst v) w) : wpPlan P ops Q S i0 b ((i, true) :: rest) a w :=
  ⟨oi, v, hi, .inl (.inl ⟨hw, hy⟩), h⟩
/-- What isn't wanted (a guard says no). -/
theorem plan_skip {i : Nat} {oi : Oper} {b : Bool} {rest : List (Nat × Bool)} {a : Act} {w : World} (hi : ops[i]? = some oi) (hw : Region.wanted oi (yielded ops a.tmps) = false)
    (h : wpPlan P ops Q S i0 b rest (a.put oi.dst undef) w) : wpPlan P ops Q S i0 b ((i, true) :: rest) a w :=
  ⟨oi, undef, hi, .inl (.inr ⟨hw, rfl⟩), h⟩
/-- A load, under S. -/
theorem plan_load {i : Nat} {oi : Oper} {v : Value} {b : Bool} {rest : List (Nat × Bool)} {a : Act} {w : World} (hi : ops[i]? = some oi) (hwt : waits ops i0 i = true) (hw : Region.wanted oi (yielded ops a.tmps) = true) (hy : ∀ W, S W → (execOp a.eval oi).run P W = .ok (.value v) W)
    (h : wpPlan P ops Q S i0 b rest (a.put oi.dst v) w) : wpPlan P ops Q S i0 b ((i, true) :: rest) a w :=
  ⟨oi, v, hi, .inr ⟨hwt, .inl ⟨hw, hy⟩⟩, h⟩
/-- What may do anything: its own list of one operation, behind which S is shown and the plan goes on. -/
theorem plan_do {i : Nat} {oi : Oper} {b : Bool} {rest : List (Nat × Bool)} {a : Act} {w : World} (hi : ops[i]? = some oi)
    (h : ∀ K : Act → World → Prop, (∀ a' w', (b = true ∨ i = i0 ∨ S w') → wpPlan P ops Q S i0 (b || i == i0) rest a' w' → K a' w') → wpList P ops (Exit.then K Q) [oi] a w) : wpPlan P ops Q S i0 b ((i, false) :: rest) a w := by
  have h1 := h (fun a' w' => (b = true ∨ i = i0 ∨ S w') ∧ wpPlan P ops Q S i0 (b || i == i0) rest a' w') (fun _ _ h1 h2 => ⟨h1, h2⟩)
  show wpOp P ops Q i (fun a' w' => (b = true ∨ i = i0 ∨ S w') ∧ wpPlan P ops Q S i0 (b || i == i0) rest a' w') a w
  unfold wpOp
  simp only [hi]
  unfold wpList at h1
  split at h1
  · rename_i hw
    rw [if_pos hw]
    rcases h1 with h1 | ⟨h1, a0, w0, h2⟩
    · refine .inl ?_
      unfold Oper.wp at *
      generalize (execOp a.eval oi).run P w = r at *
      cases r with
      | ok n w' =>
        cases n <;> simp only [Oper.upon, wpList, Exit.then] at h1 ⊢ <;> first | exact h1 | skip
      | halt x w' => cases x <;> simp only [Oper.upon, Exit.then] at h1 ⊢ <;> exact h1
    · exact .inr ⟨h1, a0, w0, h2⟩
  · rename_i hw
    rw [if_neg hw]
    exact h1
theorem plan_nil {b : Bool} {a : Act} {w : World} (h : Q .normal a w) : wpPlan P ops Q S i0 b [] a w := h
/-- A row out of the middle of a block that S knows whole. -/
theorem plan_load_sub {i : Nat} {b : Bool} {rest : List (Nat × Bool)} {a : Act} {w : World} {op : Oper} (hi' : ops[i]? = some op) (hwt : waits ops i0 i = true) (hgd : op.guard = none) (ty : TypeId) (x : Operand) (ho : op.op = .load ty x)
    (g o n : Nat) (hx : a.eval x = .pointer (some ⟨g, o, none⟩)) (t : TypeId) (cs : Array Value) (fr : Nat × Nat) (d : TypeDesc) (hg : ∀ W, S W → W.heap[g]? = some (.cells cs t fr)) (hn : o + n ≤ cs.size)
    (hu : P.underlying ty = some d) (hd : d.isRow = true) (hi : (P.info? ty).map (·.size) = some n) (v : Value) (hv : v = .agg (cs.extract o (o + n)))
    (h : wpPlan P ops Q S i0 b rest (a.put op.dst v) w) : wpPlan P ops Q S i0 b ((i, true) :: rest) a w := by
  refine plan_load hi' hwt (by simp [Region.wanted, hgd]) (fun W hW => ?_) h
  have hr := run_load_sub (P := P) W ty g o n t cs fr d (hg W hW) hn hu hd hi v hv
  unfold execOp
  simp only [ho, hx, Instr.loadAt, Instr.sureAddr, Sem.run_bind, Sem.run_pure, Result.andThen_ok, hr]
end
attribute [irreducible] wpPlan
end Go.Proofs.YtonhmomofpeamaaGreatDoor
