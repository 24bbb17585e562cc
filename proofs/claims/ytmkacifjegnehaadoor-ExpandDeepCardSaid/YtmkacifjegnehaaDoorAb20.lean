/-
  THE INTERPRETER TELLS THE TRUTH (part 4: functions). No program is named.
-/
import Derived.Test.YtmkacifjegnehaaDoorAb19
namespace Go.Proofs.YtmkacifjegnehaaDoor.Ab
open Go

section
variable {P : Program} {F : Fp} {X : Ctx} {S : St}

theorem resRaw_ok (hT : Tok P F.T) {Z : Zt} {σ : List Value} {a : Act} {w : World} (hM : Models F X [] Z σ S a w) : ∀ {l : List ResultVar} {vs : List V}, resRaw F.T S.env S.objs l = some vs →
    ∃ vals : List Value, (l.mapM (rv a.tmps)).run P w = .ok vals w ∧ All2 (VRel Z σ) vs vals
  | [], vs, h => by injection h with h; subst h; exact ⟨[], by simp, .nil⟩
  | .tmp t :: l, vs, h => by
    simp only [resRaw] at h
    split at h
    · cases h
    · rename_i vs' hvs
      injection h with h; subst h
      obtain ⟨vals, h1, h2⟩ := resRaw_ok hT hM hvs
      refine ⟨a.tmps.getD t undef :: vals, ?_, .cons (hM.env t) h2⟩
      rw [List.mapM_cons]
      simp only [rv, Sem.run_bind, Sem.run_pure, Result.andThen_ok, h1]
  | .cell p t :: l, vs, h => by
    simp only [resRaw] at h
    split at h
    · cases h
    · rename_i x hx
      split at h
      · cases h
      · rename_i vs' hvs
        injection h with h; subst h
        obtain ⟨vals, h1, h2⟩ := resRaw_ok hT hM hvs
        have hp := hM.env p
        obtain ⟨val, g1', g2⟩ := load_ok hT hM.core hp hx
        have g1 := g1' w hM.core.z (fun _ _ _ _ _ _ _ => rfl)
        have hrun : (rv a.tmps (.cell p t)).run P w = .ok val w := by
          show (do loadVar t (← asAddr (a.tmps.getD p undef)) : Sem Value).run P w = .ok val w
          generalize a.tmps.getD p undef = pv at *
          cases pv <;> simp [Instr.loadAt, Instr.sureAddr] at g1
          rename_i ad
          cases ad with
          | none => simp at g1
          | some ad => simpa [asAddr] using g1
        refine ⟨val :: vals, ?_, .cons g2 h2⟩
        rw [List.mapM_cons]
        simp only [Sem.run_bind, hrun, Sem.run_pure, Result.andThen_ok, h1]

/-- What the body must come to, where rows come back. -/
def keepQ (T : Nat → Option TI) (n0 : Nat) (res : List ResultVar) (R : Res → List O → Prop) : Ex → St → Prop
  | .exit _, _ => False
  | .panic t cs, S => R (.panic t cs) ((S.objs.take n0).map (O.cut n0))
  | _, S => ∃ vs sub Hc, resRaw T S.env S.objs res = some vs ∧ sub.Nodup ∧ (∀ i, i < n0 → sub[i]? = some i) ∧ (∀ (i r : Nat), sub[i]? = some r → n0 ≤ i → n0 ≤ r) ∧ subO sub S.objs sub = some Hc ∧ R (.ret (vs.map (V.into sub))) Hc
theorem NoEnv.keepQ {T : Nat → Option TI} {n0 : Nat} {res : List ResultVar} {R : Res → List O → Prop} : NoEnv (keepQ T n0 res R) := fun t cs S S' e h => by
  show R (.panic t cs) _
  rw [← e]; exact h
theorem acalls_keep {f : FuncId} {fn : Func} {c : Code} (hf : P.funcs[f]? = some fn) (hb : fn.body = some c) (F : Fp) (hT : Tok P F.T) {res : List ResultVar} (hres : fn.results.toList = res) (hnt : fn.ntmps = F.nt) {args : List V} {H : List O} (hn0 : H.length = F.n0) (ha : args.length ≤ F.nt) {R : Res → List O → Prop}
    (h : ∀ X, Sat P F X [] { env := args0 0 args, objs := H } c (keepQ F.T F.n0 res R)) : ACalls P f args H R := by
  intro Z σ w vargs hH hZ hargs
  have hlen := hargs.length
  have hvl : vargs.size = args.length := by simpa using hlen.symm
  let X : Ctx := { w0 := w, M := fun b => ∃ (i : Nat) (v : Value), σ[i]? = some v ∧ blk v = some b, Z0 := Z, s0 := σ }
  have hcore : Core X Z σ H w := ⟨hH, hZ, rfl, rfl, rfl, Nat.le_refl _, fun _ _ _ => rfl, fun r o v b _ _ hv hb => ⟨fun _ => ⟨r, v, hv, hb⟩, fun q => by
      have := (List.getElem?_eq_some_iff.1 hv).1
      exact absurd q (by show ¬ σ.length ≤ r; omega)⟩, Zle.refl Z, fun _ _ _ h => .inl h, fun _ _ h => .inl h, fun _ _ h => h⟩
  have hM : Models F X [] Z σ { env := args0 0 args, objs := H } { tmps := vargs ++ Array.replicate (fn.ntmps - vargs.size) undef, defers := [] } w := by
    refine ⟨hcore, fun t => ?_, by simp; omega, by show σ.length = _; rw [hH.len]; exact hn0, rfl⟩
    rw [args0_get]
    simp only [Nat.zero_le, if_true, Nat.sub_zero]
    cases hx : args[t]? with
    | none => exact .dead
    | some v =>
      obtain ⟨u, hu, hr⟩ := hargs.get hx
      have htl : t < vargs.size := by have := (List.getElem?_eq_some_iff.1 hx).1; omega
      have hget : (vargs ++ Array.replicate (fn.ntmps - vargs.size) undef).getD t undef = u := by
        have hu' : vargs[t]? = some u := by simpa using hu
        rw [Array.getD_eq_getD_getElem?, Array.getElem?_append_left htl, hu']; rfl
      rw [hget]; exact hr
  have hs0 : X.s0.length = F.n0 := by show σ.length = _; rw [hH.len]; exact hn0
  refine calls_of_wp hf hb (wp_mono (h X Z σ _ w hM) ?_)
  rintro e a' w' ⟨Z', σ', S', x, q1, q2, q3⟩
  have fin : ∀ vs sub Hc, resRaw F.T S'.env S'.objs res = some vs → sub.Nodup → (∀ i, i < F.n0 → sub[i]? = some i) → (∀ (i r : Nat), sub[i]? = some r → F.n0 ≤ i → F.n0 ≤ r) → subO sub S'.objs sub = some Hc → R (.ret (vs.map (V.into sub))) Hc →
      ∃ v, (results fn a'.tmps).run P w' = .ok v w' ∧ ∃ Z' σ' r H', Zle Z Z' ∧ HRel Z' σ' H' w' ∧ Zok Z' w' ∧ ResRel Z' σ' r (.returned v) ∧ R r H' ∧
      (∀ (i : Nat) v, σ[i]? = some v → σ'[i]? = some v) ∧
      w'.os = w.os ∧ w'.tape = w.tape ∧ w'.output = w.output ∧ w.heap.size ≤ w'.heap.size ∧
      (∀ k, k < w.heap.size → (∀ (i : Nat) v, σ[i]? = some v → blk v ≠ some k) → w'.heap[k]? = w.heap[k]?) ∧
      (∀ b o v, Z'.cell b o = some v → Z.cell b o = some v ∨ w.heap.size ≤ b) ∧ (∀ b es, Z'.mp b = some es → Z.mp b = some es ∨ w.heap.size ≤ b) ∧
      (∀ (i : Nat) o v b, H'[i]? = some o → o.live = true → H.length ≤ i → σ'[i]? = some v → blk v = some b → w.heap.size ≤ b) := by
    intro vs sub Hc h1 h2 h3 h4 h5 h6
    obtain ⟨vals, g1, g2⟩ := resRaw_ok hT q1 h1
    obtain ⟨c1, c2, _⟩ := call_core q1.core h5 h2
    refine ⟨_, run_results fn a'.tmps (by rw [hres]; exact g1), Z', _, _, Hc, q1.core.z0, c1, q1.core.z, .ret ?_, h6, fun i v hv => ?_, q1.core.os, q1.core.tape, q1.core.output, q1.core.size, fun k hk hne => q1.core.frame k hk ?_, q1.core.zc, q1.core.zm, fun i o v b ho hl hi hv hbk => ?_⟩
    · have g3 : All2 (VRel Z' (sub.map fun r => σ'.getD r undef)) (vs.map (V.into sub)) vals := All2.map_left (g2.mono fun _ _ r => r.into c2)
      generalize vs.map (V.into sub) = us at g3
      match us, vals, g3 with
      | [], [], _ => exact .tup rfl (fun i x v h => by simp at h)
      | [v], [u], .cons r _ => exact r
      | v :: v' :: vs, u :: u' :: us, g => exact .tup (by have := g.length; simpa using this) (fun i x y hx hy => g.get2 hx (by simpa using hy))
    · have hil : i < F.n0 := by rw [← hn0, ← hH.len]; exact (List.getElem?_eq_some_iff.1 hv).1
      have := c2 i i (h3 i hil)
      rw [this]; exact q1.core.pre i v hv
    · rintro ⟨i, v, hv, hb⟩; exact hne i v hv hb
    · obtain ⟨hl2, hget⟩ := subO_get h5
      have hil : i < sub.length := by rw [← hl2]; exact (List.getElem?_eq_some_iff.1 ho).1
      have hsi : sub[i]? = some sub[i] := List.getElem?_eq_getElem hil
      obtain ⟨o', p1, p2, p3⟩ := hget i _ hsi
      have hσ := c2 i _ hsi
      rw [hv] at hσ
      exact (q1.core.own _ o' v b p1 p2 hσ.symm hbk).2 (by rw [hs0]; exact h4 i _ hsi (by omega))
  cases q2 with
  | normal =>
    obtain ⟨vs, sub, Hc, h1, h2, h3, h4, h5, h6⟩ := q3
    obtain ⟨v, g1, g2⟩ := fin vs sub Hc h1 h2 h3 h4 h5 h6
    exact ⟨q1.df, v, g1, g2⟩
  | ret =>
    obtain ⟨vs, sub, Hc, h1, h2, h3, h4, h5, h6⟩ := q3
    obtain ⟨v, g1, g2⟩ := fin vs sub Hc h1 h2 h3 h4 h5 h6
    exact ⟨q1.df, v, g1, g2⟩
  | exit id => exact q3.elim
  | panic hp =>
    have ht := q1.core.take F.n0 (by rw [hs0]; exact Nat.le_refl _)
    refine ⟨q1.df, Z', σ'.take F.n0, _, _, ht.z0, ht.h, ht.z, .panic hp, q3, fun i v hv => ht.pre i v hv, ht.os, ht.tape, ht.output, ht.size, fun k hk hne => ht.frame k hk ?_, ht.zc, ht.zm, fun i o v b ho _ hi _ _ => ?_⟩
    · rintro ⟨i, v, hv, hb⟩; exact hne i v hv hb
    · have := (List.getElem?_eq_some_iff.1 ho).1
      simp at this; omega

/-- What must hold of the program and what the interpreter is told. -/
structure IpOk (P : Program) (I : Ip) : Prop where
  mixed : P.follows .mixedOrders = true
  types : Tok P I.T
  fns : ∀ g fn, I.fns g = some fn → P.funcs[g]? = some fn
  named : ∀ g fn, I.fns g = some fn → (fn.name == "runtime.NumGoroutine") = false
  codes : ∀ g fn c, I.fns g = some fn → fn.body = some c → codeOk (I.plan g) c = true
  prim : SoundCall P I.prim
theorem bodyX_ok {I : Ip} (hI : IpOk P I) {call : CallF} (hs : SoundCall P call) (n : Nat) : SoundCall P (bodyX I call n) := by
  intro g args H r H' h
  unfold bodyX at h
  split at h
  · cases h
  · rename_i fn hfn
    split at h
    · cases h
    · rename_i c hb
      have hf := hI.fns g fn hfn
      refine ⟨enters_of hf (by simp [hb]) (hI.named g fn hfn), ?_⟩
      split at h
      · cases h
      rename_i hble
      generalize hx : execX call ⟨I.T, I.rw g, fn.ntmps, H.length⟩ I.keepA (I.long g) (I.plan g) n c (args0 0 args) H = res at h
      cases res with
      | none => cases h
      | some res =>
        obtain ⟨x, e', H2⟩ := res
        have hT : Tok P (⟨I.T, I.rw g, fn.ntmps, H.length⟩ : Fp).T := hI.types
        have ha : args.length ≤ fn.ntmps := Nat.le_of_ble_eq_true hble
        have ex : ∀ (X : Ctx) (Q : Ex → St → Prop), NoEnv Q → Q x ⟨e', H2⟩ → Sat P ⟨I.T, I.rw g, fn.ntmps, H.length⟩ X [] ⟨args0 0 args, H⟩ c Q := fun X Q hQ hq => execX_ok hI.mixed hT hs n c (args0 0 args) H x e' H2 (hI.codes g fn c hfn hb) hx Q hQ hq
        have retc : (match resRaw I.T e' H2 fn.results.toList with
            | none => none
            | some vs => match I.keepR g with
              | true =>
                let sub := List.range' 0 H.length ++ (reach H2 64 (refsVs vs) []).filter (fun r => Nat.ble H.length r)
                match subO sub H2 sub with
                | none => none
                | some Hc => some (Res.ret (vs.map (V.into sub)), Hc)
              | false => match sealAll H.length (vs.flatMap rowRefs) e' H2 with
                | (e', H') => match resOf I.T ⟨e', H'⟩ fn.results.toList with
                  | some vs => some (Res.ret vs, (H'.take H.length).map (O.cut H.length))
                  | none => none) = some (r, H') → (∀ t cs, x ≠ .panic t cs) → (∀ i, x ≠ .exit i) → ACalls P g args H fun r' H'' => r' = r ∧ H'' = H' := by
          intro h hx1 hx2
          split at h
          · cases h
          · rename_i vs hvs
            split at h
            · rename_i hk
              simp only [] at h
              split at h
              · cases h
              · rename_i Hc hsub
                injection h with h; injection h with h1 h2; subst h1 h2
                obtain ⟨g1, g2, g3⟩ := reachFilter (H := H2) (n0 := H.length) (l := refsVs vs)
                refine acalls_keep hf hb ⟨I.T, I.rw g, fn.ntmps, H.length⟩ hT rfl rfl rfl ha fun X => ex X _ NoEnv.keepQ ?_
                have goal : ∃ vs' sub Hc', resRaw I.T e' H2 fn.results.toList = some vs' ∧ sub.Nodup ∧ (∀ i, i < H.length → sub[i]? = some i) ∧ (∀ (i r : Nat), sub[i]? = some r → H.length ≤ i → H.length ≤ r) ∧ subO sub H2 sub = some Hc' ∧ (Res.ret (vs'.map (V.into sub)) = _ ∧ Hc' = Hc) := ⟨vs, _, Hc, hvs, g1, g2, g3, hsub, rfl, rfl⟩
                cases x with
                | normal => exact goal
                | ret => exact goal
                | exit i => exact absurd rfl (hx2 i)
                | panic t cs => exact absurd rfl (hx1 t cs)
            · split at h
              rename_i e3 H3 hseal
              split at h
              · rename_i vs' hvs'
                injection h with h; injection h with h1 h2; subst h1 h2
                refine acalls_of hf hb ⟨I.T, I.rw g, fn.ntmps, H.length⟩ hT rfl rfl rfl ha fun X => Sat_weakQ (ex X _ NoEnv.finQ.weakQ ?_)
                have hw := sealAll_ok (F := ⟨I.T, I.rw g, fn.ntmps, H.length⟩) (X := X) (df := []) (vs.flatMap rowRefs) e' H2
                rw [hseal] at hw
                have goal : ∃ S', WeakS ⟨I.T, I.rw g, fn.ntmps, H.length⟩ X [] ⟨e', H2⟩ S' ∧ ∃ vs, resOf I.T S' fn.results.toList = some vs ∧ (Res.ret vs = Res.ret vs' ∧ ((S'.objs.take H.length).map (O.cut H.length)) = (H3.take H.length).map (O.cut H.length)) := ⟨_, hw, vs', hvs', rfl, rfl⟩
                cases x with
                | normal => exact goal.elim fun S1 g => ⟨S1, g.1.weak, g.2⟩
                | ret => exact goal.elim fun S1 g => ⟨S1, g.1.weak, g.2⟩
                | exit i => exact absurd rfl (hx2 i)
                | panic t cs => exact absurd rfl (hx1 t cs)
              · cases h
        cases x with
        | normal => exact retc h (fun _ _ e => by cases e) (fun _ e => by cases e)
        | ret => exact retc h (fun _ _ e => by cases e) (fun _ e => by cases e)
        | exit i => cases h
        | panic t cs =>
          injection h with h; injection h with h1 h2; subst h1 h2
          exact acalls_of hf hb ⟨I.T, I.rw g, fn.ntmps, H.length⟩ hT rfl rfl rfl ha fun X => ex X _ NoEnv.finQ ⟨rfl, rfl⟩
theorem callX_ok {I : Ip} (hI : IpOk P I) : ∀ N, SoundCall P (callX I N)
  | 0 => fun g args H r H' h => by cases h
  | N + 1 => fun g args H r H' h => by
    simp only [callX] at h
    split at h
    · rename_i x hx
      injection h with h; subst h
      exact hI.prim g args H r H' hx
    · exact bodyX_ok hI (callX_ok hI N) N g args H r H' h
end
end Go.Proofs.YtmkacifjegnehaaDoor.Ab
