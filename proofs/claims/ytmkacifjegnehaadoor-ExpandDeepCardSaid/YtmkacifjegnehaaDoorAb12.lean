/-
  A REGION THAT DRAWS ITS ORDER, in general: operations that yield a value in every world that keeps what they look at may be taken first; the others come one at a time. (After the kit's 'wpAnyH'; what is kept may be chosen anew behind an operation that all others wait for.) No program is named.
-/
import Derived.Test.YtmkacifjegnehaaDoorAb11
namespace Go.Proofs.YtmkacifjegnehaaDoor.Ab
open Go

/-- What needs no world at all. -/
def pureOp (o : Oper) : Bool :=
  match o.op with
  | .load .. | .lookup .. | .call .. => false
  | _ => true

section
variable {P : Program} {ops : Array Oper} {Q : Exit → Act → World → Prop} {md : Region.Mode} {bz mz : Nat → Bool}

def wpAnyM (P : Program) (md : Region.Mode) (ops : Array Oper) (Q : Exit → Act → World → Prop) (bz mz : Nat → Bool) : Nat → (World → Prop) → Array Bool → Act → World → Prop
  | 0, _, listed, a, w => Region.ready md ops listed = [] ∧ Q .normal a w
  | fuel + 1, Sw, listed, a, w =>
    (Region.ready md ops listed = [] → Q .normal a w) ∧
    ∀ i ∈ Region.ready md ops listed, wpOp P ops Q i (fun a' w' =>
      if bz i = true then ∃ S' : World → Prop, S' w' ∧ wpAnyM P md ops Q bz mz fuel S' (listed.setIfInBounds i true) a' w'
      else (mz i = true → Sw w') ∧ wpAnyM P md ops Q bz mz fuel Sw (listed.setIfInBounds i true) a' w') a w
theorem wpAny_of_M : ∀ (fuel : Nat) (Sw : World → Prop) (listed : Array Bool) (a : Act) (w : World), wpAnyM P md ops Q bz mz fuel Sw listed a w → wpAny P md ops Q fuel listed a w
  | 0, _, _, _, _, h => h
  | fuel + 1, Sw, listed, a, w, h => ⟨h.1, fun i hi => wpOp_mono (fun a' w' h' => by
      by_cases hb : bz i = true
      · rw [if_pos hb] at h'; obtain ⟨S', _, h''⟩ := h'; exact wpAny_of_M fuel S' _ a' w' h''
      · rw [if_neg hb] at h'; exact wpAny_of_M fuel Sw _ a' w' h'.2) (h.2 i hi)⟩

def Closed (md : Region.Mode) (ops : Array Oper) (listed : Array Bool) : Prop := ∀ (j : Nat) oj, ops[j]? = some oj → listed.getD j false = true → ∀ e ∈ oj.after, Region.binds md e = true → listed.getD e.on false = true
def anc (md : Region.Mode) (ops : Array Oper) : Nat → Nat → Nat → Bool
  | 0, _, _ => false
  | n + 1, j, i => match ops[j]? with
    | none => false
    | some oj => oj.after.any fun e => Region.binds md e && (e.on == i || anc md ops n e.on i)
theorem anc_listed {listed : Array Bool} (hc : Closed md ops listed) : ∀ (n j i : Nat), listed.getD j false = true → anc md ops n j i = true → listed.getD i false = true
  | 0, _, _, _, h => by cases h
  | n + 1, j, i, hl, h => by
    simp only [anc] at h
    split at h
    · cases h
    · rename_i oj hj
      obtain ⟨e, he, hb⟩ := Array.any_eq_true'.1 h
      simp only [Bool.and_eq_true, Bool.or_eq_true, beq_iff_eq] at hb
      have h1 := hc j oj hj hl e he hb.1
      rcases hb.2 with q | q
      · rw [← q]; exact h1
      · exact anc_listed hc n e.on i h1 q
theorem anc_ready {listed : Array Bool} (hc : Closed md ops listed) {n j i : Nat} (hr : j ∈ Region.ready md ops listed) (h : anc md ops n j i = true) : listed.getD i false = true := by
  obtain ⟨_, oj, hj, hall⟩ := mem_ready.1 hr
  cases n with
  | zero => cases h
  | succ n =>
    simp only [anc, hj] at h
    obtain ⟨e, he, hb⟩ := Array.any_eq_true'.1 h
    simp only [Bool.and_eq_true, Bool.or_eq_true, beq_iff_eq] at hb
    have h1 := hall e he hb.1
    rcases hb.2 with q | q
    · rw [← q]; exact h1
    · exact anc_listed hc n e.on i h1 q
theorem Closed.set {listed : Array Bool} (hc : Closed md ops listed) {i : Nat} (hi : i ∈ Region.ready md ops listed) : Closed md ops (listed.setIfInBounds i true) := by
  obtain ⟨_, oi, hoi, hall⟩ := mem_ready.1 hi
  intro j oj hj hl e he hb
  by_cases hij : i = j
  · subst hij
    have : oj = oi := Option.some.inj (hj.symm.trans hoi)
    subst this
    exact getD_set_true (hall e he hb)
  · rw [getD_set_ne false hij] at hl
    exact getD_set_true (hc j oj hj hl e he hb)
theorem getD_false_of_true {listed : Array Bool} {i : Nat} (h : listed.getD i true = false) : listed.getD i false = false := by
  rcases Nat.lt_or_ge i listed.size with h' | h'
  · simp [h'] at h ⊢; exact h
  · simp [Array.getElem?_eq_none h'] at h

theorem wpAnyM_first {N i : Nat} {oi : Oper} {v : Value} {Sw : World → Prop} (hi : ops[i]? = some oi) (hsel : ∀ (j : Nat) (o : Oper) cs b, ops[j]? = some o → o.op ≠ .select cs b)
    (hQ : ∀ c a w, Q (.panic c) (a.put oi.dst v) w → Q (.panic c) a w) (hbi : bz i = false) :
    ∀ (fuel : Nat) (listed : Array Bool) (a : Act) (w : World),
      (∀ j oj, ops[j]? = some oj → j ≠ i → listed.getD j true = false → (∀ e ∈ oj.after, Region.binds md e = true → e.on ≠ i) → oi.apart ops oj = true) →
      (∀ j, j < ops.size → j ≠ i → listed.getD j true = false → anc md ops N j i = true ∨ (bz j = false ∧ mz j = true)) →
      Closed md ops listed → i ∈ Region.ready md ops listed → YieldsIf P ops Sw oi v a → Sw w →
      wpAnyM P md ops Q bz mz fuel Sw (listed.setIfInBounds i true) (a.put oi.dst v) w → wpAnyM P md ops Q bz mz (fuel + 1) Sw listed a w := by
  intro fuel
  induction fuel with
  | zero =>
    intro listed a w _ _ _ hr hy hS H
    refine ⟨fun h => (by rw [h] at hr; cases hr), fun j hj => ?_⟩
    by_cases hji : j = i
    · subst hji
      refine hy.wpOp hi hS ?_
      rw [if_neg (by simp [hbi])]; exact ⟨fun _ => hS, H⟩
    · have := ready_mono hj hji
      rw [H.1] at this
      cases this
  | succ fuel ih =>
    intro listed a w hfree hcls hcl hr hy hS H
    refine ⟨fun h => (by rw [h] at hr; cases hr), fun j hj => ?_⟩
    by_cases hji : j = i
    · subst hji
      refine hy.wpOp hi hS ?_
      rw [if_neg (by simp [hbi])]; exact ⟨fun _ => hS, H⟩
    · obtain ⟨hjun, oj, hoj, hall⟩ := mem_ready.1 hj
      have hiun := (mem_ready.1 hr).1
      have hjlt : j < ops.size := (Array.getElem?_eq_some_iff.1 hoj).1
      have hk : bz j = false ∧ mz j = true := by
        rcases hcls j hjlt hji hjun with q | q
        · have := anc_ready hcl hj q
          rw [getD_false_of_true hiun] at this; cases this
        · exact q
      have h1 := H.2 j (ready_mono hj hji)
      have hnot : ∀ e ∈ oj.after, Region.binds md e = true → e.on ≠ i := fun e he hb heq => by
        have h1 := hall e he hb
        rw [heq, getD_false_of_true hiun] at h1; cases h1
      have h2 := wpOp_putIf hoj (hfree j oj hoj hji hjun hnot) (fun cs b => hsel i oi cs b hi) (fun cs b => hsel j oj cs b hoj) hQ hy h1
      have hfree' : ∀ k ok, ops[k]? = some ok → k ≠ i → (listed.setIfInBounds j true).getD k true = false →
          (∀ e ∈ ok.after, Region.binds md e = true → e.on ≠ i) → oi.apart ops ok = true := fun k ok hk hki hun hno => by
        refine hfree k ok hk hki ?_ hno
        by_cases hjk : j = k
        · subst hjk; exact hjun
        · rw [getD_set_ne true hjk] at hun; exact hun
      have hcls' : ∀ k, k < ops.size → k ≠ i → (listed.setIfInBounds j true).getD k true = false → anc md ops N k i = true ∨ (bz k = false ∧ mz k = true) := fun k hk hki hun => by
        refine hcls k hk hki ?_
        by_cases hjk : j = k
        · subst hjk; exact hjun
        · rw [getD_set_ne true hjk] at hun; exact hun
      refine wpOp_mono (fun a' w' h3 => ?_) h2
      obtain ⟨g1, g2⟩ := h3
      rw [if_neg (by simp [hk.1])] at g2 ⊢
      have hS' := g2.1 hk.2
      refine ⟨fun _ => hS', ih (listed.setIfInBounds j true) a' w' hfree' hcls' (hcl.set hj) (ready_mono hr (Ne.symm hji)) g1 hS' ?_⟩
      rw [Array.setIfInBounds_comm _ _ hji]
      exact g2.2

theorem yields_all {P : Program} {ops : Array Oper} {o : Oper} {v : Value} {a : Act} (h : YieldsIf P ops (fun _ => True) o v a) (S : World → Prop) : YieldsIf P ops S o v a := by
  rcases h with ⟨h1, h2⟩ | h2
  · exact .inl ⟨h1, fun w _ => h2 w trivial⟩
  · exact .inr h2
/-- What needs no world may be taken before anything. -/
theorem wpAnyM_firstP {i : Nat} {oi : Oper} {v : Value} (hi : ops[i]? = some oi) (hsel : ∀ (j : Nat) (o : Oper) cs b, ops[j]? = some o → o.op ≠ .select cs b)
    (hQ : ∀ c a w, Q (.panic c) (a.put oi.dst v) w → Q (.panic c) a w) (hbi : bz i = false) (hmz : ∀ j, j < ops.size → mz j = true) :
    ∀ (fuel : Nat) (Sw : World → Prop) (listed : Array Bool) (a : Act) (w : World),
      (∀ j oj, ops[j]? = some oj → j ≠ i → listed.getD j true = false → (∀ e ∈ oj.after, Region.binds md e = true → e.on ≠ i) → oi.apart ops oj = true) →
      Closed md ops listed → i ∈ Region.ready md ops listed → YieldsIf P ops (fun _ => True) oi v a → Sw w →
      wpAnyM P md ops Q bz mz fuel Sw (listed.setIfInBounds i true) (a.put oi.dst v) w → wpAnyM P md ops Q bz mz (fuel + 1) Sw listed a w := by
  intro fuel
  induction fuel with
  | zero =>
    intro Sw listed a w _ _ hr hy hS H
    refine ⟨fun h => (by rw [h] at hr; cases hr), fun j hj => ?_⟩
    by_cases hji : j = i
    · subst hji
      have hyS := yields_all hy Sw
      refine hyS.wpOp hi hS ?_
      rw [if_neg (by simp [hbi])]; exact ⟨fun _ => hS, H⟩
    · have := ready_mono hj hji
      rw [H.1] at this
      cases this
  | succ fuel ih =>
    intro Sw listed a w hfree hcl hr hy hS H
    refine ⟨fun h => (by rw [h] at hr; cases hr), fun j hj => ?_⟩
    by_cases hji : j = i
    · subst hji
      have hyS := yields_all hy Sw
      refine hyS.wpOp hi hS ?_
      rw [if_neg (by simp [hbi])]; exact ⟨fun _ => hS, H⟩
    · obtain ⟨hjun, oj, hoj, hall⟩ := mem_ready.1 hj
      have hiun := (mem_ready.1 hr).1
      have hjlt : j < ops.size := (Array.getElem?_eq_some_iff.1 hoj).1
      have h1 := H.2 j (ready_mono hj hji)
      have hnot : ∀ e ∈ oj.after, Region.binds md e = true → e.on ≠ i := fun e he hb heq => by
        have h1 := hall e he hb
        rw [heq, getD_false_of_true hiun] at h1; cases h1
      have h2 := wpOp_putIf hoj (hfree j oj hoj hji hjun hnot) (fun cs b => hsel i oi cs b hi) (fun cs b => hsel j oj cs b hoj) hQ hy h1
      have hfree' : ∀ k ok, ops[k]? = some ok → k ≠ i → (listed.setIfInBounds j true).getD k true = false →
          (∀ e ∈ ok.after, Region.binds md e = true → e.on ≠ i) → oi.apart ops ok = true := fun k ok hk hki hun hno => by
        refine hfree k ok hk hki ?_ hno
        by_cases hjk : j = k
        · subst hjk; exact hjun
        · rw [getD_set_ne true hjk] at hun; exact hun
      refine wpOp_mono (fun a' w' h3 => ?_) h2
      obtain ⟨g1, g2⟩ := h3
      by_cases hbj : bz j = true
      · rw [if_pos hbj] at g2 ⊢
        obtain ⟨S', hS', g3⟩ := g2
        refine ⟨S', hS', ih S' (listed.setIfInBounds j true) a' w' hfree' (hcl.set hj) (ready_mono hr (Ne.symm hji)) g1 hS' ?_⟩
        rw [Array.setIfInBounds_comm _ _ hji]
        exact g3
      · rw [if_neg hbj] at g2 ⊢
        have hS' := g2.1 (hmz j hjlt)
        refine ⟨fun _ => hS', ih Sw (listed.setIfInBounds j true) a' w' hfree' (hcl.set hj) (ready_mono hr (Ne.symm hji)) g1 hS' ?_⟩
        rw [Array.setIfInBounds_comm _ _ hji]
        exact g2.2

/-! ### The plan: an order of the operations -/
/-- What has come up, after a piece of the plan. -/
def listedOf (n : Nat) : List Nat → Array Bool
  | [] => Array.replicate n false
  | i :: l => (listedOf n l).setIfInBounds i true
theorem closed_nil : Closed md ops (listedOf ops.size []) := by
  intro j oj _ hl
  rcases Nat.lt_or_ge j ops.size with h | h
  · simp [listedOf, h] at hl
  · simp [listedOf, h] at hl
/-- The checks of one step that is taken first; 'done': what has come up, the last first. -/
def takeOk (ops : Array Oper) (bz mz : Nat → Bool) (done : List Nat) (i : Nat) : Bool :=
  (Region.ready .any ops (listedOf ops.size done)).contains i && Region.free .any ops (listedOf ops.size done) i && !bz i &&
  (((match ops[i]? with
    | some o => pureOp o
    | none => false) && (List.range ops.size).all mz) || (List.range ops.size).all fun j => j == i || done.contains j || anc .any ops ops.size j i || (!bz j && mz j))
def soleOk (ops : Array Oper) (done : List Nat) (i : Nat) : Bool := Region.ready .any ops (listedOf ops.size done) == [i]
/-- 'true': taken first; 'false': alone. -/
def planOk (ops : Array Oper) (bz mz : Nat → Bool) : List Nat → List (Bool × Nat) → Bool
  | done, [] => Region.ready .any ops (listedOf ops.size done) == []
  | done, (t, i) :: l => if t = false ∧ ops.size ≤ i then true else (if t then takeOk ops bz mz done i else soleOk ops done i) && planOk ops bz mz (i :: done) l
theorem planOk_at {ops : Array Oper} {bz mz : Nat → Bool} {done : List Nat} {t : Bool} {i : Nat} {l : List (Bool × Nat)} {o : Oper} (hi : ops[i]? = some o) : planOk ops bz mz done ((t, i) :: l) = ((if t then takeOk ops bz mz done i else soleOk ops done i) && planOk ops bz mz (i :: done) l) := by
  have : i < ops.size := (Array.getElem?_eq_some_iff.1 hi).1
  simp only [planOk]
  rw [if_neg (by omega)]
theorem planOk_take {ops : Array Oper} {bz mz : Nat → Bool} {done : List Nat} {i : Nat} {l : List (Bool × Nat)} : planOk ops bz mz done ((true, i) :: l) = (takeOk ops bz mz done i && planOk ops bz mz (i :: done) l) := by
  simp [planOk]
/-- Several that are ready at once: each of the orders told. -/
def tailsOf (i : Nat) : List (List Nat) → List (List Nat)
  | [] => []
  | [] :: l => tailsOf i l
  | (j :: o) :: l => if j = i then o :: tailsOf i l else tailsOf i l
def forkOk (ops : Array Oper) : Nat → List Nat → List (List Nat) → Bool
  | 0, done, orders => Region.ready .any ops (listedOf ops.size done) == [] && orders.all (fun o => o == []) && !(orders == [])
  | n + 1, done, orders => !(Region.ready .any ops (listedOf ops.size done) == []) && (Region.ready .any ops (listedOf ops.size done)).all fun i => forkOk ops n (i :: done) (tailsOf i orders)
theorem tailsOf_mem {i : Nat} : ∀ {orders : List (List Nat)} {o : List Nat}, o ∈ tailsOf i orders → (i :: o) ∈ orders
  | [], o, h => by cases h
  | [] :: l, o, h => List.mem_cons_of_mem _ (tailsOf_mem h)
  | (j :: p) :: l, o, h => by
    simp only [tailsOf] at h
    split at h
    · rename_i e
      rcases List.mem_cons.1 h with rfl | h
      · subst e; exact List.mem_cons_self
      · exact List.mem_cons_of_mem _ (tailsOf_mem h)
    · exact List.mem_cons_of_mem _ (tailsOf_mem h)
theorem listedOf_mem {n : Nat} : ∀ {done : List Nat} {j : Nat}, (listedOf n done).getD j true = false → j ∉ done
  | [], _, _ => by simp
  | i :: done, j, h => by
    by_cases hij : i = j
    · subst hij
      have hs : (listedOf n (i :: done)).getD i true = true := by
        simp only [listedOf]
        rcases Nat.lt_or_ge i (listedOf n done).size with q | q
        · simp [q]
        · simp [q]
      rw [hs] at h; cases h
    · simp only [listedOf] at h
      rw [getD_set_ne true hij] at h
      have := listedOf_mem h
      simp [Ne.symm hij, this]
theorem take_step {done : List Nat} {i : Nat} {oi : Oper} {v : Value} {Sw : World → Prop} {fuel : Nat} {a : Act} {w : World} (hsel : Region.noSelect ops = true) (hok : takeOk ops bz mz done i = true) (hi : ops[i]? = some oi)
    (hQ : ∀ c a w, Q (.panic c) (a.put oi.dst v) w → Q (.panic c) a w) (hcl : Closed .any ops (listedOf ops.size done)) (hy : YieldsIf P ops Sw oi v a) (hyP : pureOp oi = true → YieldsIf P ops (fun _ => True) oi v a) (hS : Sw w)
    (h : Closed .any ops (listedOf ops.size (i :: done)) → wpAnyM P .any ops Q bz mz fuel Sw (listedOf ops.size (i :: done)) (a.put oi.dst v) w) : wpAnyM P .any ops Q bz mz (fuel + 1) Sw (listedOf ops.size done) a w := by
  simp only [takeOk, hi, Bool.and_eq_true, Bool.not_eq_true', List.all_eq_true, List.mem_range, Bool.or_eq_true, beq_iff_eq] at hok
  obtain ⟨⟨⟨h1, h2⟩, h3⟩, h4⟩ := hok
  have hr : i ∈ Region.ready .any ops (listedOf ops.size done) := by simpa using h1
  rcases h4 with ⟨h4, h5⟩ | h4
  · exact wpAnyM_firstP hi (Region.noSelect_spec hsel) hQ h3 h5 fuel Sw _ a w (Region.free_spec hi h2) hcl hr (hyP h4) hS (h (hcl.set hr))
  refine wpAnyM_first (N := ops.size) hi (Region.noSelect_spec hsel) hQ h3 fuel _ a w (Region.free_spec hi h2) (fun j hj hji hun => ?_) hcl hr hy hS (h (hcl.set hr))
  have := listedOf_mem hun
  rcases h4 j hj with ((q | q) | q) | q
  · exact absurd q hji
  · exact absurd (by simpa using q) this
  · exact .inl q
  · exact .inr ⟨by simpa using q.1, q.2⟩
theorem sole_step {done : List Nat} {i : Nat} {Sw : World → Prop} {fuel : Nat} {a : Act} {w : World} (hok : soleOk ops done i = true) (hcl : Closed .any ops (listedOf ops.size done))
    (h : Closed .any ops (listedOf ops.size (i :: done)) → wpOp P ops Q i (fun a' w' =>
      if bz i = true then ∃ S' : World → Prop, S' w' ∧ wpAnyM P .any ops Q bz mz fuel S' (listedOf ops.size (i :: done)) a' w'
      else (mz i = true → Sw w') ∧ wpAnyM P .any ops Q bz mz fuel Sw (listedOf ops.size (i :: done)) a' w') a w) : wpAnyM P .any ops Q bz mz (fuel + 1) Sw (listedOf ops.size done) a w := by
  have hr : Region.ready .any ops (listedOf ops.size done) = [i] := by simpa [soleOk] using hok
  refine ⟨fun h0 => (by rw [hr] at h0; cases h0), fun j hj => ?_⟩
  rw [hr] at hj
  obtain rfl : j = i := by simpa using hj
  exact h (hcl.set (by rw [hr]; simp))
end
end Go.Proofs.YtmkacifjegnehaaDoor.Ab
