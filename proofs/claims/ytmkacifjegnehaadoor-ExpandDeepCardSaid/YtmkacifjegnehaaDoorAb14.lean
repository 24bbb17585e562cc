/-
  A REGION THAT DRAWS ITS ORDER, over the abstract state: its operations along a plan. No program is named.
-/
import Derived.Test.YtmkacifjegnehaaDoorAb13
namespace Go.Proofs.YtmkacifjegnehaaDoor.Ab
open Go

section
variable {P : Program} {F : Fp} {X : Ctx} {df : List Deferred} {S : St} {Q : Ex → St → Prop} {ops : Array Oper} {bz mz : Nat → Bool}

/-- At the start of a stretch: what is kept may be chosen. -/
def SatD (P : Program) (F : Fp) (X : Ctx) (df : List Deferred) (ops : Array Oper) (bz mz : Nat → Bool) (done : List Nat) (plan : List (Bool × Nat)) (S : St) (Q : Ex → St → Prop) : Prop :=
  planOk ops bz mz done plan = true → Closed .any ops (listedOf ops.size done) → ∀ Z σ a w, Models F X df Z σ S a w → ∃ Sw : World → Prop, Sw w ∧ wpAnyM P .any ops (post F X df Q) bz mz plan.length Sw (listedOf ops.size done) a w
/-- In a stretch: what is kept has been chosen, when the world was ws. -/
def SatT (P : Program) (F : Fp) (X : Ctx) (df : List Deferred) (ops : Array Oper) (bz mz : Nat → Bool) (Xs : List Nat) (done : List Nat) (plan : List (Bool × Nat)) (S : St) (Q : Ex → St → Prop) : Prop :=
  planOk ops bz mz done plan = true → Closed .any ops (listedOf ops.size done) → ∀ Zs σs ws Z σ a w, Models F X df Z σ S a w → Zle Zs Z → (∀ r ∈ Xs, ∀ u, σs[r]? = some u → σ[r]? = some u) → ws.heap.size ≤ w.heap.size → Keep Xs Zs σs ws w →
    (∀ r ∈ Xs, ∀ u b, σ[r]? = some u → blk u = some b → b < ws.heap.size) → wpAnyM P .any ops (post F X df Q) bz mz plan.length (Keep Xs Zs σs ws) (listedOf ops.size done) a w
/-- A panic's state bears no temporary. -/
def NoEnv (Q : Ex → St → Prop) : Prop := ∀ t cs S S', S.objs = S'.objs → Q (.panic t cs) S → Q (.panic t cs) S'
theorem NoEnv.finQ {T : Nat → Option TI} {n0 : Nat} {res : List ResultVar} {R : Res → List O → Prop} : NoEnv (finQ T n0 res R) := fun t cs S S' e h => by
  show R (.panic t cs) _
  rw [← e]; exact h
theorem NoEnv.thenQ {K : St → Prop} (h : NoEnv Q) : NoEnv (thenQ K Q) := fun t cs S S' e q => h t cs S S' e q
theorem NoEnv.blockQ {id : Nat} (h : NoEnv Q) : NoEnv (blockQ id Q) := fun t cs S S' e q => h t cs S S' e q
theorem NoEnv.loopQ {I : Nat → St → Prop} {n : Nat} (h : NoEnv Q) : NoEnv (loopQ F X df I n Q) := fun t cs S S' e q => h t cs S S' e q
theorem NoEnv.post (h : NoEnv Q) (dst : Option Nat) (v : Value) : ∀ c a w, post F X df Q (.panic c) (a.put dst v) w → post F X df Q (.panic c) a w := by
  rintro c a w ⟨Z, σ, S, x, h1, h2, h3⟩
  cases h2 with
  | panic hp =>
    refine ⟨Z, σ, { env := [], objs := S.objs }, _, ⟨h1.core, fun t => .dead, ?_, h1.n0, ?_⟩, .panic hp, h _ _ S _ rfl h3⟩
    · have := h1.nt; cases dst <;> simpa [Act.put] using this
    · have := h1.df; rw [put_df] at this; exact this

theorem Core.drawn {Z : Zt} {σ : List Value} {a : Act} {w : World} (hM : Models F X df Z σ S a w) : Models F X df Z σ S a { w with drawn := w.drawn + 1 } :=
  ⟨hM.core.drew, hM.env, hM.nt, hM.n0, hM.df⟩
/-- A region that draws, along a plan. -/
theorem Sat_draw {id : Nat} {l : List Oper} (hm : P.follows .mixedOrders = true) (bl nm : List Nat) (plan : List (Bool × Nat)) (hok : planOk l.toArray (bl.contains ·) (fun j => !nm.contains j) [] plan = true) (hlen : plan.length = l.length)
    (h : SatD P F X df l.toArray (bl.contains ·) (fun j => !nm.contains j) [] plan S Q) : Sat P F X df S (.region id l.toArray true) Q := by
  intro Z σ a w hM
  refine wp_region_any hm ?_
  obtain ⟨Sw, _, hw⟩ := h hok closed_nil Z σ a _ (Core.drawn hM)
  have e : plan.length = l.toArray.size := by rw [hlen]; simp
  rw [e] at hw
  exact wpAny_of_M _ Sw _ a _ hw

def evPlan (F : Fp) (gs : List (Nat × Nat)) (Xs : List Nat) : List Oper → List (Nat × V) → List O → Option (List (Nat × V) × List O)
  | [], e, H => some (e, H)
  | o :: l, e, H => match calmStep F gs Xs e o with
    | false => none
    | true => match evStep F gs e H o with
      | none => none
      | some x => evPlan F gs Xs l x.1 x.2
def opsAt (ops : Array Oper) : List Nat → List Oper → Prop
  | [], [] => True
  | i :: l, o :: m => ops[i]? = some o ∧ opsAt ops l m
  | _, _ => False

theorem takes_aux (hT : Tok P F.T) {gs : List (Nat × Nat)} (hgs : gsOk ops gs) (hsel : Region.noSelect ops = true) (hQ : NoEnv Q) {Xs : List Nat} {plan : List (Bool × Nat)} {Z : Zt} {σ : List Value} {w : World} {Sw : World → Prop} (hSw : Sw w) {pu : Bool} (hKeep : ∀ w', Sw w' → pu = true ∨ Keep Xs Z σ w w') {e' : List (Nat × V)} {H' : List O} :
    ∀ (is : List Nat) (l : List Oper) (done : List Nat) (S : St) (a : Act), (pu = true → ∀ o ∈ l, pureOp o = true) → opsAt ops is l → planOk ops bz mz done (is.map (true, ·) ++ plan) = true → Closed .any ops (listedOf ops.size done) → evPlan F gs Xs l S.env S.objs = some (e', H') → Models F X df Z σ S a w →
      (∀ a', planOk ops bz mz (is.reverse ++ done) plan = true → Closed .any ops (listedOf ops.size (is.reverse ++ done)) → Models F X df Z σ { env := e', objs := H' } a' w → wpAnyM P .any ops (post F X df Q) bz mz plan.length Sw (listedOf ops.size (is.reverse ++ done)) a' w) →
      wpAnyM P .any ops (post F X df Q) bz mz (is.map (true, ·) ++ plan).length Sw (listedOf ops.size done) a w
  | [], [], done, S, a, _, _, hp, hcl, hev, hM, k => by
    simp only [evPlan] at hev
    injection hev with hev; injection hev with h1 h2; subst h1 h2
    exact k a hp hcl hM
  | [], o :: l, done, S, a, _, hat, _, _, _, _, _ => by cases hat
  | i :: is, [], done, S, a, _, hat, _, _, _, _, _ => by cases hat
  | i :: is, o :: l, done, S, a, hpu, hat, hp, hcl, hev, hM, k => by
    simp only [evPlan] at hev
    split at hev
    · cases hev
    · rename_i hcalm
      split at hev
      · cases hev
      · rename_i x hx
        simp only [List.map_cons, List.cons_append, planOk_take, Bool.and_eq_true] at hp
        obtain ⟨val, hy, hM'⟩ := step_calm hT hgs hM (e' := x.1) (H' := x.2) hx hcalm
        have hy' : YieldsIf P ops Sw o val a := hy Sw fun w' hw' => (hKeep w' hw').imp (fun q => hpu q o (by simp)) id
        refine take_step hsel hp.1 hat.1 (hQ.post o.dst val) hcl hy' (fun q => hy _ fun _ _ => .inl q) hSw fun hcl' => ?_
        refine takes_aux hT hgs hsel hQ hSw hKeep is l (i :: done) { env := x.1, objs := x.2 } _ (fun q o' ho' => hpu q o' (by simp [ho'])) hat.2 hp.2 hcl' hev hM' fun a' h1 h2 h3 => ?_
        have e : (i :: is).reverse ++ done = is.reverse ++ i :: done := by simp
        rw [e] at k
        exact k a' h1 h2 h3
/-- A stretch begins: loads and what needs no world. -/
theorem SatD_takes (hT : Tok P F.T) {gs : List (Nat × Nat)} (hgs : gsOk ops gs) (hsel : Region.noSelect ops = true) (hQ : NoEnv Q) {done : List Nat} (Xs : List Nat) (is : List Nat) (l : List Oper) (plan : List (Bool × Nat)) (hat : opsAt ops is l)
    (hX : ∀ r ∈ Xs, ∃ o, S.objs[r]? = some o ∧ o.live = true) {e' : List (Nat × V)} {H' : List O} (hev : evPlan F gs Xs l S.env S.objs = some (e', H')) (k : SatT P F X df ops bz mz Xs (is.reverse ++ done) plan { env := e', objs := H' } Q) : SatD P F X df ops bz mz done (is.map (true, ·) ++ plan) S Q := by
  intro hp hcl Z σ a w hM
  refine ⟨Keep Xs Z σ w, Keep.refl hM.core.z, ?_⟩
  refine takes_aux hT hgs hsel hQ (Keep.refl hM.core.z) (pu := false) (fun _ h => .inr h) is l done S a (fun q => by cases q) hat hp hcl hev hM fun a' h1 h2 h3 => ?_
  refine k h1 h2 Z σ w Z σ a' w h3 (Zle.refl Z) (fun _ _ _ h => h) (Nat.le_refl _) (Keep.refl hM.core.z) fun r hr u b hu hb => ?_
  obtain ⟨o, ho, hl⟩ := hX r hr
  exact hM.core.blockLt ho hl hu hb
theorem SatD_start {done : List Nat} {plan : List (Bool × Nat)} (k : SatT P F X df ops bz mz [] done plan S Q) : SatD P F X df ops bz mz done plan S Q := by
  intro hp hcl Z σ a w hM
  exact ⟨Keep [] Z σ w, Keep.refl hM.core.z, k hp hcl Z σ w Z σ a w hM (Zle.refl Z) (fun _ _ _ h => h) (Nat.le_refl _) (Keep.refl hM.core.z) (fun r hr => by cases hr)⟩
/-- What needs no world may be taken at any time. -/
theorem SatT_takes (hT : Tok P F.T) {gs : List (Nat × Nat)} (hgs : gsOk ops gs) (hsel : Region.noSelect ops = true) (hQ : NoEnv Q) {Xs done : List Nat} (is : List Nat) (l : List Oper) (plan : List (Bool × Nat)) (hat : opsAt ops is l) (hnl : l.all pureOp = true)
    {e' : List (Nat × V)} {H' : List O} (hev : evPlan F gs [] l S.env S.objs = some (e', H')) (k : SatT P F X df ops bz mz Xs (is.reverse ++ done) plan { env := e', objs := H' } Q) : SatT P F X df ops bz mz Xs done (is.map (true, ·) ++ plan) S Q := by
  intro hp hcl Zs σs ws Z σ a w hM hz hs hsz hk hX
  refine takes_aux hT hgs hsel hQ (Xs := []) hk (pu := true) (fun _ _ => .inl rfl) is l done S a (fun _ o ho => List.all_eq_true.1 hnl o ho) hat hp hcl hev hM fun a' h1 h2 h3 => ?_
  exact k h1 h2 Zs σs ws Z σ a' w h3 hz hs hsz hk hX
theorem SatT_end {Xs done : List Nat} (h : Q .normal S) : SatT P F X df ops bz mz Xs done [] S Q := by
  intro hp _ Zs σs ws Z σ a w hM _ _ _ _ _
  have hr : Region.ready .any ops (listedOf ops.size done) = [] := by simpa [planOk] using hp
  exact ⟨hr, Z, σ, S, .normal, hM, .normal, h⟩

/-- One operation, whose step is known, as it comes up. -/
theorem step_wpOp (hT : Tok P F.T) {gs : List (Nat × Nat)} (hgs : gsOk ops gs) {Z : Zt} {σ : List Value} {a : Act} {w : World} (hM : Models F X df Z σ S a w) {i : Nat} {o : Oper} (hi : ops[i]? = some o) {e' : List (Nat × V)} {H' : List O} (h : evStep F gs S.env S.objs o = some (e', H')) {K : Act → World → Prop} {Q' : Exit → Act → World → Prop}
    (k : ∀ Z' σ' a' w', Models F X df Z' σ' { env := e', objs := H' } a' w' → Zle Z Z' → (∀ (r : Nat) u, σ[r]? = some u → σ'[r]? = some u) → Spares σ (touched S.env o) w w' → K a' w') : wpOp P ops Q' i K a w := by
  unfold wpOp
  simp only [hi]
  have go : ∀ x : V × List O, evV F S.env S.objs o = some x → (Env.put F S.env o.dst x.1, x.2) = (e', H') → o.wp P a w K Q' := by
    intro x hx he
    injection he with he1 he2; subst he1 he2
    obtain ⟨val, w', Z', σ', q1, q2, q3, q4, q5, q6⟩ := evV_ok hT hM (v := x.1) (H' := x.2) hx
    exact q1.wp (k Z' σ' _ w' (hM.put q2 q3 q4 q5 o.dst) q4 q5 q6)
  unfold evStep at h
  split at h
  · rename_i hg
    split at h
    · rename_i x hx
      injection h with h
      rw [if_pos (wanted_none hg _)]
      exact .inl (go x hx h)
    · cases h
  · rename_i g hg
    split at h
    · cases h
    · rename_i t ht
      split at h
      · rename_i b hb
        have hw := wanted_some hM hg hgs ht hb
        split at h
        · rename_i hbg
          split at h
          · rename_i x hx
            injection h with h
            rw [if_pos (by rw [hw]; simp [hbg])]
            exact .inl (go x hx h)
          · cases h
        · rename_i hbg
          injection h with h; injection h with h1 h2; subst h1 h2
          rw [if_neg (by rw [hw]; simp [hbg])]
          exact k Z σ _ w (hM.put hM.core VRel.undef (Zle.refl Z) (fun _ _ h => h) o.dst) (Zle.refl Z) (fun _ _ h => h) Spares.refl
      · rename_i hb
        injection h with h; injection h with h1 h2; subst h1 h2
        rw [if_neg (by rw [wanted_tup hM hg hgs ht hb]; simp)]
        exact k Z σ _ w (hM.put hM.core VRel.undef (Zle.refl Z) (fun _ _ h => h) o.dst) (Zle.refl Z) (fun _ _ h => h) Spares.refl
      · cases h
theorem Keep.spares {Xs : List Nat} {Zs Z' : Zt} {σs σ : List Value} {ws w w' : World} {rs : List Nat} (hk : Keep Xs Zs σs ws w) (hz : Zok Z' w') (hle : Zle Zs Z') (hs : ∀ r ∈ Xs, ∀ u, σs[r]? = some u → σ[r]? = some u) (hsz : ws.heap.size ≤ w.heap.size) (hX : ∀ r ∈ Xs, ∀ u b, σ[r]? = some u → blk u = some b → b < ws.heap.size)
    (hsp : w.heap.size ≤ w'.heap.size ∧ ∀ k, k < w.heap.size → (∀ r ∈ rs, ∀ u, σ[r]? = some u → blk u ≠ some k) → w'.heap[k]? = w.heap[k]?) (hne : ∀ r ∈ Xs, ∀ u b, σ[r]? = some u → blk u = some b → ∀ r' ∈ rs, ∀ u', σ[r']? = some u' → blk u' ≠ some b) : Keep Xs Zs σs ws w' := by
  refine ⟨⟨hk.1.zg, hz.tab, fun b o v h => hz.cell b o v (hle.cell b o v h), fun b es h => hz.mp b es (hle.mp b es h)⟩, fun r hr u b hu hb => ?_⟩
  have hu' := hs r hr u hu
  rw [hsp.2 b (Nat.lt_of_lt_of_le (hX r hr u b hu' hb) hsz) (hne r hr u b hu' hb)]
  exact hk.2 r hr u b hu hb
/-- Objects that are alive lie apart. -/
theorem apart_of {Z : Zt} {σ : List Value} {a : Act} {w : World} (hM : Models F X df Z σ S a w) {Xs rs : List Nat} (hX : ∀ r ∈ Xs, ∃ o, S.objs[r]? = some o ∧ o.live = true) (hR : ∀ r ∈ rs, ∃ o, S.objs[r]? = some o ∧ o.live = true) (hd : ∀ r ∈ Xs, r ∉ rs) :
    ∀ r ∈ Xs, ∀ u b, σ[r]? = some u → blk u = some b → ∀ r' ∈ rs, ∀ u', σ[r']? = some u' → blk u' ≠ some b := by
  intro r hr u b hu hb r' hr' u' hu'
  obtain ⟨o, ho, hl⟩ := hX r hr
  obtain ⟨o', ho', hl'⟩ := hR r' hr'
  exact hM.core.h.sep r r' o o' u u' b (fun e => hd r hr (e ▸ hr')) ho ho' hl hl' hu hu' hb
/-- An operation alone; behind it a new stretch. -/
theorem SatT_next (hT : Tok P F.T) {gs : List (Nat × Nat)} (hgs : gsOk ops gs) {Xs done : List Nat} {i : Nat} {plan : List (Bool × Nat)} {o : Oper} (hi : ops[i]? = some o) (hb : bz i = true) {e' : List (Nat × V)} {H' : List O} (h : evStep F gs S.env S.objs o = some (e', H')) (k : SatD P F X df ops bz mz (i :: done) plan { env := e', objs := H' } Q) :
    SatT P F X df ops bz mz Xs done ((false, i) :: plan) S Q := by
  intro hp hcl Zs σs ws Z σ a w hM hz hs hsz hk hX
  rw [planOk_at hi] at hp
  simp only [Bool.false_eq_true, if_false, Bool.and_eq_true] at hp
  refine sole_step hp.1 hcl fun hcl' => step_wpOp hT hgs hM hi h fun Z' σ' a' w' q1 q2 q3 q4 => ?_
  rw [if_pos hb]
  exact k hp.2 hcl' Z' σ' a' w' q1
/-- An operation alone, in the stretch: it spares what is kept. -/
theorem SatT_in (hT : Tok P F.T) {gs : List (Nat × Nat)} (hgs : gsOk ops gs) {Xs done : List Nat} {i : Nat} {plan : List (Bool × Nat)} {o : Oper} (hi : ops[i]? = some o) (hb : bz i = false) {e' : List (Nat × V)} {H' : List O} (h : evStep F gs S.env S.objs o = some (e', H'))
    (hXl : ∀ r ∈ Xs, ∃ o, S.objs[r]? = some o ∧ o.live = true) (hRl : ∀ r ∈ touched S.env o, ∃ o, S.objs[r]? = some o ∧ o.live = true) (hd : ∀ r ∈ Xs, r ∉ touched S.env o)
    (k : SatT P F X df ops bz mz Xs (i :: done) plan { env := e', objs := H' } Q) : SatT P F X df ops bz mz Xs done ((false, i) :: plan) S Q := by
  intro hp hcl Zs σs ws Z σ a w hM hz hs hsz hk hX
  rw [planOk_at hi] at hp
  simp only [Bool.false_eq_true, if_false, Bool.and_eq_true] at hp
  refine sole_step hp.1 hcl fun hcl' => step_wpOp hT hgs hM hi h fun Z' σ' a' w' q1 q2 q3 q4 => ?_
  rw [if_neg (by simp [hb])]
  have hk' := hk.spares q1.core.z (hz.trans q2) hs hsz hX q4 (apart_of hM hXl hRl hd)
  refine ⟨fun _ => hk', k hp.2 hcl' Zs σs ws Z' σ' a' w' q1 (hz.trans q2) (fun r hr u h => q3 r u (hs r hr u h)) (Nat.le_trans hsz q4.1) hk' fun r hr u b hu hb' => ?_⟩
  obtain ⟨ox, hox, _⟩ := hXl r hr
  have hrl : r < σ.length := by rw [hM.core.h.len]; exact (List.getElem?_eq_some_iff.1 hox).1
  have := q3 r _ (List.getElem?_eq_getElem hrl)
  rw [hu] at this; injection this with this; subst this
  exact hX r hr _ b (List.getElem?_eq_getElem hrl) hb'
end
end Go.Proofs.YtmkacifjegnehaaDoor.Ab
