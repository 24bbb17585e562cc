/-
  THE INTERPRETER TELLS THE TRUTH (part 2: one operation; a row of operations). No program is named.
-/
import Derived.Test.YtmkacifjegnehaaDoorAb17
namespace Go.Proofs.YtmkacifjegnehaaDoor.Ab
open Go

section
variable {P : Program} {F : Fp} {X : Ctx} {df : List Deferred} {S S' S1 : St} {o : Oper} {rs : List Nat}

/-- The operation leads from one state to the other, and writes these objects at most. -/
def StepTo (P : Program) (F : Fp) (X : Ctx) (df : List Deferred) (o : Oper) (S S' : St) (rs : List Nat) : Prop :=
  ∀ Z σ a w, Models F X df Z σ S a w → ∀ (K : Act → World → Prop) (Q' : Exit → Act → World → Prop),
    (∀ Z' σ' a' w', Models F X df Z' σ' S' a' w' → Zle Z Z' → (∀ (k : Nat) u, k ∉ rs → σ[k]? = some u → σ'[k]? = some u) → Spares σ rs w w' → K a' w') → o.wp P a w K Q'
def StepPan (P : Program) (F : Fp) (X : Ctx) (df : List Deferred) (o : Oper) (S S' : St) (t : Nat) (cs : List D) : Prop :=
  ∀ Z σ a w, Models F X df Z σ S a w → ∀ (K : Act → World → Prop) (Q : Ex → St → Prop), Q (.panic t cs) S' → o.wp P a w K (post F X df Q)
theorem StepTo.weak (hw : WeakS F X df S S1) (h : StepTo P F X df o S1 S' rs) : StepTo P F X df o S S' rs := fun Z σ a w hM K Q' k => by
  obtain ⟨Z1, hz, hM1⟩ := hw Z σ a w hM
  exact h Z1 σ a w hM1 K Q' fun Z' σ' a' w' h1 h2 h3 h4 => k Z' σ' a' w' h1 (hz.trans h2) h3 h4
theorem StepPan.weak {t : Nat} {cs : List D} (hw : WeakS F X df S S1) (h : StepPan P F X df o S1 S' t cs) : StepPan P F X df o S S' t cs := fun Z σ a w hM K Q k => by
  obtain ⟨Z1, hz, hM1⟩ := hw Z σ a w hM
  exact h Z1 σ a w hM1 K Q k

/-- The callees do what the function of calls says. -/
def SoundCall (P : Program) (call : CallF) : Prop := ∀ g args H r H', call g args H = some (r, H') → Enters P g ∧ ACalls P g args H fun r' H'' => r' = r ∧ H'' = H'

theorem step_evV (hT : Tok P F.T) {x : V × List O} (h : evV F S.env S.objs o = some x) : StepTo P F X df o S { env := Env.put F S.env o.dst x.1, objs := x.2 } (touched S.env o) := by
  intro Z σ a w hM K Q' k
  obtain ⟨val, w', Z', σ', q1, q2, q3, q4, q5, q6⟩ := evV_ok hT hM (v := x.1) (H' := x.2) h
  exact q1.wp (k Z' σ' _ w' (hM.put q2 q3 q4 q5 o.dst) q4 (fun k u _ h => q5 k u h) q6)
theorem step_append (hT : Tok P F.T) {e' : List (Nat × V)} {H' : List O} (h : evAppend F S.env S.objs o = some (rs, e', H')) : StepTo P F X df o S { env := e', objs := H' } rs := by
  intro Z σ a w hM K Q' k
  obtain ⟨val, w', σ', q1, q2, q3, q4, _⟩ := append_ok hT hM h
  exact Does.wp (.inl q1) (k Z σ' _ w' q2 (Zle.refl Z) q3 q4)

theorem inL_ok {r : Nat} : ∀ {l : List Nat}, inL r l = true ↔ r ∈ l
  | [] => by simp [inL]
  | x :: l => by
    simp only [inL]
    split
    · rename_i e; simp [e]
    · rename_i e; rw [inL_ok]; simp [Ne.symm e]
theorem reach_nodup (H : List O) : ∀ (n : Nat) (todo acc : List Nat), acc.Nodup → (reach H n todo acc).Nodup
  | 0, _, acc, h => h
  | n + 1, [], acc, h => h
  | n + 1, r :: todo, acc, h => by
    simp only [reach]
    split
    · exact reach_nodup H n todo acc h
    · rename_i hr
      have hr' : r ∉ acc := fun hm => by rw [inL_ok.2 hm] at hr; cases hr
      have h' : (acc ++ [r]).Nodup := List.nodup_append.2 ⟨h, by simp, fun a ha b hb => by simp at hb; subst hb; exact fun e => hr' (e ▸ ha)⟩
      split
      · exact reach_nodup H n todo _ h'
      · exact reach_nodup H n _ _ h'

theorem step_call {call : CallF} (hs : SoundCall P call) {c : Call} {f : Operand} (ho : o.op = .call c) (hcal : c.callee = .value f) {g : Nat} {caps : List Nat} (hf : evO S.env f = .c (.fn g caps)) {sub : List Nat} {H : List O} (hsub : subO sub S.objs sub = some H) (hnd : sub.Nodup) {r : Res} {H' : List O}
    (hcl : call g ((c.args.toList.map (evO S.env) ++ ptrs caps).map (V.into sub)) H = some (r, H')) :
    match r with
    | .ret vs => StepTo P F X df o S { env := Env.put F S.env o.dst ((retV vs).out (subs' S sub H')), objs := after S sub H' } sub
    | .panic t cs => StepPan P F X df o S { env := S.env, objs := after S sub H' } t cs := by
  obtain ⟨hen, hR⟩ := hs _ _ _ _ _ hcl
  have core : ∀ Z σ a w, Models F X df Z σ S a w → ∀ (K : Act → World → Prop) (Q' : Exit → Act → World → Prop),
      (∀ vs, r = .ret vs → ∀ Z' σ' a' w', Models F X df Z' σ' { env := Env.put F S.env o.dst ((retV vs).out (subs' S sub H')), objs := after S sub H' } a' w' → Zle Z Z' → (∀ (k : Nat) u, k ∉ sub → σ[k]? = some u → σ'[k]? = some u) → Spares σ sub w w' → K a' w') →
      (∀ t cs, r = .panic t cs → ∀ e a' w', post F X df (fun x S2 => x = .panic t cs ∧ S2 = { env := S.env, objs := after S sub H' }) e a' w' → Q' e a' w') → o.wp P a w K Q' := by
    intro Z σ a w hM K Q' k1 k2
    have hfv := evO_ok hM.env f
    rw [hf] at hfv
    obtain ⟨c1, c2, c3⟩ := call_core hM.core hsub hnd
    generalize hfval : a.eval f = fv at hfv
    cases hfv with | c hfv => cases hfv with
    | fn hcaps =>
      rename_i vs
      have hargsR : All2 (VRel Z (sub.map fun r => σ.getD r undef)) ((c.args.toList.map (evO S.env) ++ ptrs caps).map (V.into sub)) ((c.args.map a.eval ++ vs).toList) := by
        rw [Array.toList_append, Array.toList_map]
        refine All2.map_left ?_
        refine All2.append ?_ ((ptrs_ok hcaps).mono fun _ _ r => r.into c2)
        refine All2.map_left ?_
        generalize c.args.toList = l'
        induction l' with
        | nil => exact .nil
        | cons x l' ih => exact .cons ((evO_ok hM.env x).into c2) ih
      have hrun : (execOp a.eval o).run P w = .ok (.enter g (c.args.map a.eval ++ vs)) w := by
        simp only [execOp, ho, resolve, hcal, hfval, Deferred.ofValue, Sem.run_bind, Sem.run_pure, Result.andThen_ok, invoke]
        simp only [Array.empty_append]
        exact hen _ _
      unfold Oper.wp
      rw [hrun]
      refine Calls.mono (hR Z _ w _ c1 hM.core.z hargsR) ?_
      rintro e w' ⟨Z', σ', r', H'', q1, q2, q3, q4, ⟨rfl, rfl⟩, q6, q7, q8, q9, q10, q11, q12, q13, q14⟩
      obtain ⟨d1, d2⟩ := c3 Z' σ' H'' w' q1 q2 q3 q6 q7 q8 q9 q10 q11 q12 q13 q14
      have henv : ∀ t, VRel Z' (σ ++ σ'.drop sub.length) (Env.get S.env t) (a.tmps.getD t undef) := fun t => (hM.env t).mono q1 (fun _ _ h => get_app h)
      cases q4 with
      | ret hv =>
        refine k1 _ rfl Z' _ _ w' ⟨d1, put_ok henv hM.nt o.dst (hv.out d2), put_nt hM.nt o.dst _, hM.n0, by rw [put_df]; exact hM.df⟩ q1 (fun k u _ h => get_app h) ⟨q10, fun k hk hne => q11 k hk fun i v hi hb => ?_⟩
        obtain ⟨r2, h1⟩ : ∃ r2, sub[i]? = some r2 := by
          rw [List.getElem?_map] at hi
          cases h : sub[i]? with
          | none => rw [h] at hi; cases hi
          | some y => exact ⟨y, rfl⟩
        have h2 := c2 i r2 h1
        rw [hi] at h2
        exact hne r2 (List.mem_of_getElem? h1) v h2.symm hb
      | panic hp =>
        exact k2 _ _ rfl _ _ _ ⟨Z', _, { env := S.env, objs := after S sub H'' }, _, ⟨d1, henv, hM.nt, hM.n0, hM.df⟩, .panic hp, rfl, rfl⟩
  cases r with
  | ret vs =>
    intro Z σ a w hM K Q' k
    exact core Z σ a w hM K Q' (fun vs' e => by injection e with e; subst e; exact k) (fun t cs e => by cases e)
  | panic t cs =>
    intro Z σ a w hM K Q k
    refine core Z σ a w hM K _ (fun vs' e => by cases e) (fun t' cs' e e1 a' w' => ?_)
    injection e with e2 e3; subst e2 e3
    rintro ⟨Z', σ', S2, x, h1, h2, rfl, rfl⟩
    exact ⟨Z', σ', _, _, h1, h2, k⟩

/-- What the interpreter says of an operation. -/
def Out.ok (P : Program) (F : Fp) (X : Ctx) (df : List Deferred) (o : Oper) (S : St) : Out → Prop
  | .go rs e' H' => StepTo P F X df o S ⟨e', H'⟩ rs
  | .pan t cs e' H' => StepPan P F X df o S ⟨e', H'⟩ t cs
theorem Out.ok_weak (hw : WeakS F X df S S1) {out : Out} (h : out.ok P F X df o S1) : out.ok P F X df o S := by
  cases out with
  | go rs e' H' => exact StepTo.weak hw h
  | pan t cs e' H' => exact StepPan.weak hw h
theorem opX_ok (hT : Tok P F.T) {call : CallF} (hs : SoundCall P call) {keepA : Nat → Bool} {e : List (Nat × V)} {H : List O} {out : Out} (h : opX call F keepA e H o = some out) : out.ok P F X df o ⟨e, H⟩ := by
  have plain : ∀ {e : List (Nat × V)} {H : List O}, (match evV F e H o with
      | some x => some (Out.go (touched e o) (Env.put F e o.dst x.1) x.2)
      | none => none) = some out → out.ok P F X df o ⟨e, H⟩ := by
    intro e H h
    split at h
    · rename_i x hx
      injection h with h; subst h
      exact step_evV (S := ⟨e, H⟩) hT hx
    · cases h
  unfold opX at h
  split at h
  · rename_i c hop
    split at h
    · rename_i f hcal
      split at h
      · rename_i g caps hf
        unfold callO at h
        have key : ∀ {e1 : List (Nat × V)} {H1 : List O}, WeakS F X df ⟨e, H⟩ ⟨e1, H1⟩ → evO e1 f = .c (.fn g caps) →
            (match subO (reach H1 64 (refsVs (c.args.toList.map (evO e1) ++ ptrs caps)) []) H1 (reach H1 64 (refsVs (c.args.toList.map (evO e1) ++ ptrs caps)) []) with
              | none => none
              | some Hc => match call g ((c.args.toList.map (evO e1) ++ ptrs caps).map (V.into (reach H1 64 (refsVs (c.args.toList.map (evO e1) ++ ptrs caps)) []))) Hc with
                | none => none
                | some (.ret rs, H') => some (Out.go (reach H1 64 (refsVs (c.args.toList.map (evO e1) ++ ptrs caps)) []) (Env.put F e1 o.dst ((retV rs).out (subs' ⟨e1, H1⟩ (reach H1 64 (refsVs (c.args.toList.map (evO e1) ++ ptrs caps)) []) H'))) (after ⟨e1, H1⟩ (reach H1 64 (refsVs (c.args.toList.map (evO e1) ++ ptrs caps)) []) H'))
                | some (.panic t cs, H') => some (Out.pan t cs e1 (after ⟨e1, H1⟩ (reach H1 64 (refsVs (c.args.toList.map (evO e1) ++ ptrs caps)) []) H'))) = some out → out.ok P F X df o ⟨e, H⟩ := by
          intro e1 H1 hw hf1 h
          generalize hsubl : reach H1 64 (refsVs (c.args.toList.map (evO e1) ++ ptrs caps)) [] = sub at h
          have hnd : sub.Nodup := by rw [← hsubl]; exact reach_nodup H1 64 _ [] (by simp)
          split at h
          · cases h
          · rename_i Hc hsub
            split at h
            · cases h
            · rename_i rs H' hcl
              injection h with h; subst h
              exact Out.ok_weak hw (step_call (S := ⟨e1, H1⟩) hs hop hcal hf1 hsub hnd hcl)
            · rename_i t cs H' hcl
              injection h with h; subst h
              exact Out.ok_weak hw (step_call (S := ⟨e1, H1⟩) hs hop hcal hf1 hsub hnd hcl)
        split at h
        rename_i e1 H1 heq
        split at heq
        · injection heq with h1 h2; subst h1 h2
          exact key (WeakS.refl _) hf h
        · have hw := sealAll_ok (F := F) (X := X) (df := df) (c.args.toList.flatMap fun x => rowRefs (evO e x)) e H
          rw [heq] at hw
          refine key hw ?_ h
          -- the function itself is no row
          have hfn : ∀ (l : List Nat) (e : List (Nat × V)) (H : List O), evO e f = .c (.fn g caps) → evO (sealAll F.n0 l e H).1 f = .c (.fn g caps) := by
            intro l
            induction l with
            | nil => intro e H h; exact h
            | cons r l ih =>
              intro e H h
              simp only [sealAll]
              split
              · exact ih e H h
              · split
                · split
                  · refine ih _ _ ?_
                    cases f with
                    | tmp t => simp only [evO] at h ⊢; rw [sealE_get, h]; rfl
                    | const v => exact h
                    | func g' => exact h
                    | global g' => exact h
                  · exact ih e H h
                · exact ih e H h
          have := hfn (c.args.toList.flatMap fun x => rowRefs (evO e x)) e H hf
          rw [heq] at this; exact this
      · cases h
    · split at h
      · rename_i rs e' H' hx
        injection h with h; subst h
        exact step_append (S := ⟨e, H⟩) hT hx
      · cases h
    · exact plain h
  · rename_i x hop
    split at h
    · rename_i t cs hx
      injection h with h; subst h
      intro Z σ a w hM K Q k
      have hv := evO_ok hM.env x
      rw [hx] at hv
      generalize hxv : a.eval x = xv at hv
      cases hv with | c hv => cases hv with
      | ifc hd =>
        unfold Oper.wp
        have hrun := fun (vs : Array Value) (e : a.eval x = .iface t (.agg vs)) => show (execOp a.eval o).run P w = .halt (.panic (.iface t (.agg vs))) w by simp [execOp, hop, e, Instr.panic]
        rw [hrun _ hxv]
        exact ⟨Z, σ, _, _, hM, .panic hd, k⟩
    · cases h
  · rename_i t x lo hi mx hop
    have hw := sealAll_ok (F := F) (X := X) (df := df) (rowRefs (evO e x)) e H
    exact Out.ok_weak hw (plain h)
  · exact plain h
end
end Go.Proofs.YtmkacifjegnehaaDoor.Ab
