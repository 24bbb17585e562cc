/-
  CALLS AND FUNCTIONS: a call in a row of operations, a panic, a function's body to its contract. No program is named.
-/
import Derived.Test.YtmkacifjegnehaaDoorAb9
namespace Go.Proofs.YtmkacifjegnehaaDoor.Ab
open Go

section
variable {P : Program} {F : Fp} {X : Ctx} {df : List Deferred} {ops : Array Oper} {S : St} {Q : Ex → St → Prop}

/-- A function that has a body is entered. -/
def Enters (P : Program) (g : FuncId) : Prop := ∀ (args : Array Value) (w : World), (callFunc g args).run P w = .ok (.enter g args) w
theorem enters_of {g : FuncId} {fn : Func} (hf : P.funcs[g]? = some fn) (hb : fn.body.isNone = false) (hn : (fn.name == "runtime.NumGoroutine") = false) : Enters P g := by
  intro args w
  have hb' : ¬ fn.body.isNone = true := by rw [hb]; simp
  have hn' : ¬ (fn.name == "runtime.NumGoroutine") = true := by rw [hn]; simp
  simp only [callFunc, Sem.run_bind, run_program, Result.andThen_ok, hf]
  rw [if_neg hn', if_neg hb']; rfl

def ptrs : List Nat → List V
  | [] => []
  | r :: l => .c (.ptr r 0) :: ptrs l
theorem ptrs_ok {Z : Zt} {σ : List Value} {caps : List Nat} {vs : List Value} (h : All2 (fun r v => ∃ b, σ[r]? = some (.pointer (some ⟨b, 0, none⟩)) ∧ v = .pointer (some ⟨b, 0, none⟩)) caps vs) : All2 (VRel Z σ) (ptrs caps) vs := by
  induction h with
  | nil => exact .nil
  | cons q _ ih => obtain ⟨b, h1, rfl⟩ := q; exact .cons (.c (.ptr h1 rfl)) ih

/-- A call of a Go function, by its contract. -/
theorem SatL_call {o : Oper} {l : List Oper} {c : Call} {f : Operand} (ho : o.op = .call c) (hcal : c.callee = .value f) (hg : o.guard = none) {g : Nat} {caps : List Nat} (hf : evO S.env f = .c (.fn g caps)) (hen : Enters P g)
    (sub : List Nat) {H : List O} (hsub : subO sub S.objs sub = some H) (hnd : sub.Nodup) {args : List V} (hargs : (c.args.toList.map (evO S.env) ++ ptrs caps).map (V.into sub) = args) {R : Res → List O → Prop} (hR : ACalls P g args H R)
    (k : ∀ r H', R r H' → match r with
      | .ret vs => SatL P F X df ops { env := Env.put F S.env o.dst ((retV vs).out (subs' S sub H')), objs := after S sub H' } l Q
      | .panic t cs => Q (.panic t cs) { env := S.env, objs := after S sub H' }) : SatL P F X df ops S (o :: l) Q := by
  intro Z σ a w hM
  refine wpList_cons_wanted (wanted_none hg _) ?_
  have hfv := evO_ok hM.env f
  rw [hf] at hfv
  obtain ⟨c1, c2, c3⟩ := call_core hM.core hsub hnd
  generalize hfval : a.eval f = fv at hfv
  cases hfv with | c hfv => cases hfv with
  | fn hcaps =>
    rename_i vs
    have hargsR : All2 (VRel Z (sub.map fun r => σ.getD r undef)) args ((c.args.map a.eval ++ vs).toList) := by
      rw [← hargs, Array.toList_append, Array.toList_map]
      refine All2.map_left ?_
      refine All2.append ?_ ((ptrs_ok hcaps).mono fun _ _ r => r.into c2)
      refine All2.map_left ?_
      generalize c.args.toList = l'
      induction l' with
      | nil => exact .nil
      | cons x l' ih => exact .cons ((evO_ok hM.env x).into c2) ih
    have hrun : (execOp a.eval o).run P w = .ok (.enter g (c.args.map a.eval ++ vs)) w := by
      simp only [execOp, ho, resolve, hcal, hfval, Deferred.ofValue, Sem.run_bind, Sem.run_pure, Result.andThen_ok, invoke]
      simp only [Array.empty_append]
      exact hen _ _
    unfold Oper.wp
    rw [hrun]
    refine Calls.mono (hR Z _ w _ c1 hM.core.z hargsR) ?_
    rintro e w' ⟨Z', σ', r, H', q1, q2, q3, q4, q5, q6, q7, q8, q9, q10, q11, q12, q13, q14⟩
    obtain ⟨d1, d2⟩ := c3 Z' σ' H' w' q1 q2 q3 q6 q7 q8 q9 q10 q11 q12 q13 q14
    have hk := k r H' q5
    have henv : ∀ t, VRel Z' (σ ++ σ'.drop sub.length) (Env.get S.env t) (a.tmps.getD t undef) := fun t => (hM.env t).mono q1 (fun _ _ h => get_app h)
    cases q4 with
    | ret hv =>
      exact hk Z' _ _ w' ⟨d1, put_ok henv hM.nt o.dst (hv.out d2), put_nt hM.nt o.dst _, hM.n0, by rw [put_df]; exact hM.df⟩
    | panic hp =>
      exact ⟨Z', _, { env := S.env, objs := after S sub H' }, _, ⟨d1, henv, hM.nt, hM.n0, hM.df⟩, .panic hp, hk⟩

/-- A panic of the program's own. -/
theorem SatL_panic {o : Oper} {l : List Oper} {x : Operand} (ho : o.op = .panic x) (hg : o.guard = none) {t : Nat} {cs : List D} (hx : evO S.env x = .c (.ifc t cs)) (k : Q (.panic t cs) S) : SatL P F X df ops S (o :: l) Q := by
  intro Z σ a w hM
  refine wpList_cons_wanted (wanted_none hg _) ?_
  have hv := evO_ok hM.env x
  rw [hx] at hv
  generalize hxv : a.eval x = xv at hv
  cases hv with | c hv => cases hv with
  | ifc h =>
    unfold Oper.wp
    have hrun := fun (vs : Array Value) (e : a.eval x = .iface t (.agg vs)) => show (execOp a.eval o).run P w = .halt (.panic (.iface t (.agg vs))) w by simp [execOp, ho, e, Instr.panic]
    rw [hrun _ hxv]
    exact ⟨Z, σ, S, _, hM, .panic h, k⟩

/-! ### A function's body -/
def datV : V → Option V
  | .c x => match toD x with
    | some d => some (.c (.d d))
    | none => none
  | .agg cs => match toDs cs with
    | some ds => some (.agg (ds.map .d))
    | none => none
  | _ => none
theorem datV_ok {Z : Zt} {σ σ' : List Value} {x y : V} {v : Value} (h : VRel Z σ x v) (hd : datV x = some y) : VRel Z σ' y v := by
  unfold datV at hd
  cases h with
  | c h =>
    simp only [] at hd
    split at hd
    · rename_i d hd'; injection hd with hd; subst hd; exact .c (.d (toD_ok h hd'))
    · cases hd
  | agg h =>
    simp only [] at hd
    split at hd
    · rename_i ds hd'; injection hd with hd; subst hd; exact .agg (All2.map_left ((toDs_ok h hd').mono fun _ _ r => .d r))
    · cases hd
  | tup _ _ => cases hd
  | dead => cases hd
def resOf (T : Nat → Option TI) (S : St) : List ResultVar → Option (List V)
  | [] => some []
  | .tmp t :: l => match datV (Env.get S.env t) with
    | none => none
    | some v => match resOf T S l with
      | none => none
      | some vs => some (v :: vs)
  | .cell p t :: l => match evLoad T S.objs t (Env.get S.env p) with
    | none => none
    | some x => match datV x with
      | none => none
      | some v => match resOf T S l with
        | none => none
        | some vs => some (v :: vs)
def rv (tmps : Array Value) : ResultVar → Sem Value
  | .tmp t => pure (tmps.getD t undef)
  | .cell p t => do loadVar t (← asAddr (tmps.getD p undef))
theorem resOf_ok (hT : Tok P F.T) {Z : Zt} {σ σ' : List Value} {a : Act} {w : World} (hM : Models F X df Z σ S a w) : ∀ {l : List ResultVar} {vs : List V}, resOf F.T S l = some vs →
    ∃ vals : List Value, (l.mapM (rv a.tmps)).run P w = .ok vals w ∧ All2 (VRel Z σ') vs vals
  | [], vs, h => by injection h with h; subst h; exact ⟨[], by simp, .nil⟩
  | .tmp t :: l, vs, h => by
    simp only [resOf] at h
    split at h
    · cases h
    · rename_i v hv
      split at h
      · cases h
      · rename_i vs' hvs
        injection h with h; subst h
        obtain ⟨vals, h1, h2⟩ := resOf_ok hT (σ' := σ') hM hvs
        refine ⟨a.tmps.getD t undef :: vals, ?_, .cons (datV_ok (hM.env t) hv) h2⟩
        rw [List.mapM_cons]
        simp only [rv, Sem.run_bind, Sem.run_pure, Result.andThen_ok, h1]
  | .cell p t :: l, vs, h => by
    simp only [resOf] at h
    split at h
    · cases h
    · rename_i x hx
      split at h
      · cases h
      · rename_i v hv
        split at h
        · cases h
        · rename_i vs' hvs
          injection h with h; subst h
          obtain ⟨vals, h1, h2⟩ := resOf_ok hT (σ' := σ') hM hvs
          have hp := hM.env p
          obtain ⟨val, g1', g2⟩ := load_ok hT hM.core hp hx
          have g1 := g1' w hM.core.z (fun _ _ _ _ _ _ _ => rfl)
          have hrun : (rv a.tmps (.cell p t)).run P w = .ok val w := by
            show (do loadVar t (← asAddr (a.tmps.getD p undef)) : Sem Value).run P w = .ok val w
            generalize a.tmps.getD p undef = pv at *
            cases pv <;> simp [Instr.loadAt, Instr.sureAddr] at g1
            rename_i ad
            cases ad with
            | none => simp at g1
            | some ad => simpa [asAddr] using g1
          refine ⟨val :: vals, ?_, .cons (datV_ok g2 hv) h2⟩
          rw [List.mapM_cons]
          simp only [Sem.run_bind, hrun, Sem.run_pure, Result.andThen_ok, h1]
def oneOf : List Value → Value
  | [v] => v
  | vs => .tuple vs.toArray
theorem run_results (fn : Func) (tmps : Array Value) {w : World} {vals : List Value} (h : (fn.results.toList.mapM (rv tmps)).run P w = .ok vals w) :
    (results fn tmps).run P w = .ok (oneOf vals) w := by
  unfold results
  rw [Sem.run_bind]
  have e : ∀ f : ResultVar → Sem Value, f = rv tmps → fn.results.mapM f = List.toArray <$> fn.results.toList.mapM (rv tmps) := by
    intro f hf; rw [hf, Array.mapM_eq_mapM_toList]
  rw [e _ (by funext x; cases x <;> rfl), Sem.run_map, h]
  simp only [Result.andThen_ok]
  match vals with
  | [] => simp [oneOf]
  | [v] => simp [oneOf]
  | v :: v' :: vs => simp [oneOf]

def args0 : Nat → List V → List (Nat × V)
  | _, [] => []
  | k, v :: l => (k, v) :: args0 (k + 1) l
theorem args0_get : ∀ (k : Nat) (l : List V) (t : Nat), Env.get (args0 k l) t = (if k ≤ t then (match l[t - k]? with | some v => v | none => .dead) else .dead)
  | k, [], t => by simp [args0, Env.get]
  | k, v :: l, t => by
    simp only [args0, Env.get]
    by_cases h : k = t
    · subst h; simp
    · rw [if_neg h, args0_get (k + 1) l t]
      by_cases h2 : k ≤ t
      · rw [if_pos (by omega), if_pos h2, show t - k = (t - (k + 1)) + 1 from by omega]; simp
      · rw [if_neg (by omega), if_neg h2]

/-- What the body must come to. -/
def finQ (T : Nat → Option TI) (n0 : Nat) (res : List ResultVar) (R : Res → List O → Prop) : Ex → St → Prop
  | .exit _, _ => False
  | .panic t cs, S => R (.panic t cs) ((S.objs.take n0).map (O.cut n0))
  | _, S => ∃ vs, resOf T S res = some vs ∧ R (.ret vs) ((S.objs.take n0).map (O.cut n0))

theorem acalls_of {f : FuncId} {fn : Func} {c : Code} (hf : P.funcs[f]? = some fn) (hb : fn.body = some c) (F : Fp) (hT : Tok P F.T) {res : List ResultVar} (hres : fn.results.toList = res) (hnt : fn.ntmps = F.nt) {args : List V} {H : List O} (hn0 : H.length = F.n0) (ha : args.length ≤ F.nt) {R : Res → List O → Prop}
    (h : ∀ X, Sat P F X [] { env := args0 0 args, objs := H } c (finQ F.T F.n0 res R)) : ACalls P f args H R := by
  intro Z σ w vargs hH hZ hargs
  have hlen := hargs.length
  have hvl : vargs.size = args.length := by simpa using hlen.symm
  let X : Ctx := { w0 := w, M := fun b => ∃ (i : Nat) (v : Value), σ[i]? = some v ∧ blk v = some b, Z0 := Z, s0 := σ }
  have hcore : Core X Z σ H w := ⟨hH, hZ, rfl, rfl, rfl, Nat.le_refl _, fun _ _ _ => rfl, fun r o v b _ _ hv hb => ⟨fun _ => ⟨r, v, hv, hb⟩, fun q => by
      have := (List.getElem?_eq_some_iff.1 hv).1
      exact absurd q (by show ¬ σ.length ≤ r; omega)⟩, Zle.refl Z, fun _ _ _ h => .inl h, fun _ _ h => .inl h, fun _ _ h => h⟩
  have hM : Models F X [] Z σ { env := args0 0 args, objs := H } { tmps := vargs ++ Array.replicate (fn.ntmps - vargs.size) undef, defers := [] } w := by
    refine ⟨hcore, fun t => ?_, by simp; omega, by show σ.length = _; rw [hH.len]; exact hn0, rfl⟩
    rw [args0_get]
    simp only [Nat.zero_le, if_true, Nat.sub_zero]
    cases hx : args[t]? with
    | none => exact .dead
    | some v =>
      obtain ⟨u, hu, hr⟩ := hargs.get hx
      have htl : t < vargs.size := by have := (List.getElem?_eq_some_iff.1 hx).1; omega
      have hget : (vargs ++ Array.replicate (fn.ntmps - vargs.size) undef).getD t undef = u := by
        have hu' : vargs[t]? = some u := by simpa using hu
        rw [Array.getD_eq_getD_getElem?, Array.getElem?_append_left htl, hu']; rfl
      rw [hget]; exact hr
  refine calls_of_wp hf hb (wp_mono (h X Z σ _ w hM) ?_)
  have done : ∀ Z' σ' S' a' w' r, Models F X [] Z' σ' S' a' w' → R r ((S'.objs.take F.n0).map (O.cut F.n0)) → ∀ e, (∀ s, ResRel Z' s r e) →
      ∃ Z' σ' r H', Zle Z Z' ∧ HRel Z' σ' H' w' ∧ Zok Z' w' ∧ ResRel Z' σ' r e ∧ R r H' ∧
      (∀ (i : Nat) v, σ[i]? = some v → σ'[i]? = some v) ∧
      w'.os = w.os ∧ w'.tape = w.tape ∧ w'.output = w.output ∧ w.heap.size ≤ w'.heap.size ∧
      (∀ k, k < w.heap.size → (∀ (i : Nat) v, σ[i]? = some v → blk v ≠ some k) → w'.heap[k]? = w.heap[k]?) ∧
      (∀ b o v, Z'.cell b o = some v → Z.cell b o = some v ∨ w.heap.size ≤ b) ∧ (∀ b es, Z'.mp b = some es → Z.mp b = some es ∨ w.heap.size ≤ b) ∧
      (∀ (i : Nat) o v b, H'[i]? = some o → o.live = true → H.length ≤ i → σ'[i]? = some v → blk v = some b → w.heap.size ≤ b) := by
    intro Z' σ' S' a' w' r q1 q2 e q3
    have hs0 : X.s0.length = F.n0 := q1.n0
    have ht := q1.core.take F.n0 (by rw [hs0]; exact Nat.le_refl _)
    refine ⟨Z', σ'.take F.n0, r, _, ht.z0, ht.h, ht.z, q3 _, q2, fun i v hv => ht.pre i v hv, ht.os, ht.tape, ht.output, ht.size, fun k hk hne => ht.frame k hk ?_, ht.zc, ht.zm, fun i o v b ho _ hi _ _ => ?_⟩
    · rintro ⟨i, v, hv, hb⟩; exact hne i v hv hb
    · have := (List.getElem?_eq_some_iff.1 ho).1
      simp at this; omega
  rintro e a' w' ⟨Z', σ', S', x, q1, q2, q3⟩
  have fin : ∀ vs, resOf F.T S' res = some vs → R (.ret vs) ((S'.objs.take F.n0).map (O.cut F.n0)) → ∃ v, (results fn a'.tmps).run P w' = .ok v w' ∧ ∀ s, ResRel Z' s (.ret vs) (.returned v) := by
    intro vs h1 h2
    have hall : ∀ s, ∃ vals : List Value, _ ∧ _ := fun s => resOf_ok hT (σ' := s) q1 h1
    obtain ⟨vals, g1, g2⟩ := hall σ'
    refine ⟨_, run_results fn a'.tmps (by rw [hres]; exact g1), fun s => ?_⟩
    obtain ⟨vals', g1', g2'⟩ := hall s
    rw [g1] at g1'; injection g1' with g1'; subst g1'
    refine .ret ?_
    match vs, vals, g2' with
    | [], [], _ => exact .tup rfl (fun i x v h => by simp at h)
    | [v], [u], .cons r _ => exact r
    | v :: v' :: vs, u :: u' :: us, g => exact .tup (by have := g.length; simpa using this) (fun i x y hx hy => g.get2 hx (by simpa using hy))
  cases q2 with
  | normal =>
    obtain ⟨vs, h1, h2⟩ := q3
    obtain ⟨v, g1, g2⟩ := fin vs h1 h2
    exact ⟨q1.df, v, g1, done Z' σ' S' a' w' _ q1 h2 _ g2⟩
  | ret =>
    obtain ⟨vs, h1, h2⟩ := q3
    obtain ⟨v, g1, g2⟩ := fin vs h1 h2
    exact ⟨q1.df, v, g1, done Z' σ' S' a' w' _ q1 h2 _ g2⟩
  | exit id => exact q3.elim
  | panic hp => exact ⟨q1.df, done Z' σ' S' a' w' _ q1 q3 _ (fun s => .panic hp)⟩
end
end Go.Proofs.YtmkacifjegnehaaDoor.Ab
