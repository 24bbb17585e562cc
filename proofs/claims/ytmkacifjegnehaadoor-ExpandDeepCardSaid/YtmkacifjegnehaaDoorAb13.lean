/-
  A REGION THAT DRAWS ITS ORDER, over the abstract state: its operations along a plan. No program is named.
-/
import Derived.Test.YtmkacifjegnehaaDoorAb12
namespace Go.Proofs.YtmkacifjegnehaaDoor.Ab
open Go

/-! ### Operations that leave the world alone, and what they look at -/
def calm (F : Fp) (e : List (Nat × V)) (o : Oper) : Option (List Nat) :=
  match o.op with
  | .move _ | .assign _ | .pick .. | .nilCheck _ | .binOp .. | .unOp .. | .fieldAddr .. | .indexAddr .. | .index .. | .slice .. | .extract .. | .build .. => some []
  | .convert _ dst _ => match F.T dst with
    | some ⟨.int _, _, _, _⟩ => some []
    | _ => none
  | .load _ a => match evO e a with
    | .c (.ptr r _) => some [r]
    | .c (.cptr _) => some []
    | _ => none
  | .lookup _ m _ _ => match evO e m with
    | .c (.mp r) => some [r]
    | .c (.d _) => some []
    | _ => none
  | .call c => match c.callee with
    | .builtin .len => match c.args.toList with
      | [x] => match evO e x with
        | .c (.mp r) => some [r]
        | _ => some []
      | _ => none
    | _ => none
  | _ => none

section
variable {P : Program} {F : Fp} {X : Ctx} {df : List Deferred} {S : St} {Q : Ex → St → Prop}

/-- The world w' keeps, of w, what is known to stay and the blocks of these objects. -/
def Keep (Xs : List Nat) (Z : Zt) (σ : List Value) (w : World) : World → Prop := fun w' => Zok Z w' ∧ ∀ r ∈ Xs, ∀ u b, σ[r]? = some u → blk u = some b → w'.heap[b]? = w.heap[b]?
theorem Keep.refl {Xs : List Nat} {Z : Zt} {σ : List Value} {w : World} (hz : Zok Z w) : Keep Xs Z σ w w := ⟨hz, fun _ _ _ _ _ _ => rfl⟩

theorem evV_calm (hT : Tok P F.T) {Z : Zt} {σ : List Value} {a : Act} {w : World} (hM : Models F X df Z σ S a w) {o : Oper} {v : V} {H' : List O} {rs : List Nat} (h : evV F S.env S.objs o = some (v, H')) (hcalm : calm F S.env o = some rs) :
    H' = S.objs ∧ ∃ val, VRel Z σ v val ∧ ∀ Xs, (∀ r ∈ rs, r ∈ Xs) → ∀ w', (pureOp o = true ∨ Keep Xs Z σ w w') → (execOp a.eval o).run P w' = .ok (.value val) w' := by
  have hv := fun x => evO_ok hM.env x
  have stay : ∀ (val : Value), H' = S.objs → (∀ w', (execOp a.eval o).run P w' = .ok (.value val) w') → VRel Z σ v val →
      H' = S.objs ∧ ∃ val, VRel Z σ v val ∧ ∀ Xs, (∀ r ∈ rs, r ∈ Xs) → ∀ w', (pureOp o = true ∨ Keep Xs Z σ w w') → (execOp a.eval o).run P w' = .ok (.value val) w' :=
    fun val e h1 h2 => ⟨e, val, h2, fun _ _ w' _ => h1 w'⟩
  unfold evV at h
  unfold calm at hcalm
  cases hop : o.op <;> simp only [hop] at h hcalm <;> try (cases hcalm; done)
  case move x => injection h with h; injection h with h1 h2; exact stay (a.eval x) h2.symm (fun w' => by simp [execOp, hop]) (h1 ▸ hv x)
  case assign x => injection h with h; injection h with h1 h2; exact stay (a.eval x) h2.symm (fun w' => by simp [execOp, hop]) (h1 ▸ hv x)
  case pick c x y =>
    split at h
    · rename_i t ht
      injection h with h; injection h with h1 h2
      have hc := hv c
      rw [ht] at hc
      generalize hcv : a.eval c = cv at hc
      cases hc with | c hc => cases hc with | d hc => cases hc with
      | bo =>
        refine stay (if t = true then a.eval x else a.eval y) h2.symm (fun w' => by simp only [execOp, hop, hcv, asBool]; simp) ?_
        subst h1
        cases t
        · exact hv y
        · exact hv x
    · cases h
  case build t ps =>
    split at h
    · rename_i u hu
      injection h with h; injection h with h1 h2; subst h1
      obtain ⟨val, q1, q2⟩ := build_ok hT (parts_ok hM.env ps) hu
      exact stay val h2.symm (fun w' => by simp [execOp, hop, q1]) q2
    · cases h
  case load t x =>
    split at h
    · rename_i u hu
      injection h with h; injection h with h1 h2; subst h1
      obtain ⟨val, q1, q2⟩ := load_ok hT hM.core (hv x) hu
      refine ⟨h2.symm, val, q2, fun Xs hXs w' hk => ?_⟩
      have hk := hk.resolve_left (by simp [pureOp, hop])
      have := q1 w' hk.1 (fun r off u b e hu' hb => hk.2 r (hXs r ?_) u b hu' hb)
      · simp [execOp, hop, this]
      · rw [e] at hcalm; injection hcalm with hcalm; subst hcalm; simp
    · cases h
  case nilCheck x =>
    split at h
    · rename_i r off hr
      injection h with h; injection h with h1 h2
      have hx := hv x
      rw [hr] at hx
      generalize hxv : a.eval x = xv at hx
      refine stay xv h2.symm ?_ (h1 ▸ hx)
      cases hx with | c hx => cases hx with
      | ptr _ _ => intro w'; simp [execOp, hop, hxv]
    · cases h
  case binOp op t x y yt =>
    split at h
    · rename_i u hu
      injection h with h; injection h with h1 h2; subst h1
      obtain ⟨val, q1, q2⟩ := bin_ok (P := P) hT (xo := x) (yo := y) (hv x) (hv y) hu
      refine stay val h2.symm (fun w' => ?_) q2
      simp only [execOp, hop]
      rw [Sem.run_bind, q1]; rfl
    · cases h
  case unOp op t x =>
    split at h
    · rename_i u hu
      injection h with h; injection h with h1 h2; subst h1
      obtain ⟨val, q1, q2⟩ := un_ok (P := P) (hv x) hu
      exact stay val h2.symm (fun w' => by simp [execOp, hop, q1]) q2
    · cases h
  case convert src dst x =>
    split at hcalm
    · rename_i k s1 s2 s3 hd
      simp only [hd] at h
      split at h
      · rename_i is hs
        split at h
        · rename_i u hu
          injection h with h; injection h with h1 h2; subst h1
          obtain ⟨val, q1, q2⟩ := conv_ok hT hs (hv x) hu
          exact stay val h2.symm (fun w' => by simp [execOp, hop, q1]) q2
        · cases h
      · cases h
    · cases hcalm
  case slice t x lo hi mx =>
    cases mx with
    | some mx => simp only [] at h; cases h
    | none =>
      simp only [] at h
      split at h
      · rename_i u hu
        injection h with h; injection h with h1 h2; subst h1
        obtain ⟨val, q1, q2⟩ := slice_ok hT (hv x) (opt_ok hM.env lo) (opt_ok hM.env hi) hu
        exact stay val h2.symm (fun w' => by simp [execOp, hop, q1]) q2
      · cases h
  case fieldAddr s x f =>
    split at h
    · rename_i u hu
      injection h with h; injection h with h1 h2; subst h1
      obtain ⟨val, q1, q2⟩ := field_ok hT (hv x) hu
      exact stay val h2.symm (fun w' => by simp [execOp, hop, q1]) q2
    · cases h
  case indexAddr t x i =>
    split at h
    · rename_i u hu
      injection h with h; injection h with h1 h2; subst h1
      obtain ⟨val, q1, q2⟩ := idx_ok hT hM.core (hv x) (hv i) hu
      exact stay val h2.symm (fun w' => by simp [execOp, hop, q1]) q2
    · cases h
  case index t x i =>
    split at h
    · rename_i u hu
      injection h with h; injection h with h1 h2; subst h1
      obtain ⟨val, q1, q2⟩ := at_ok hT (hv x) (hv i) hu
      exact stay val h2.symm (fun w' => by simp [execOp, hop, q1]) q2
    · cases h
  case lookup t m k ok =>
    cases ok with
    | false => simp only [] at h; cases h
    | true =>
      simp only [] at h
      split at h
      · rename_i u hu
        injection h with h; injection h with h1 h2; subst h1
        obtain ⟨val, q1, q2⟩ := lookup_ok hT hM.core (hv m) (hv k) hu
        refine ⟨h2.symm, val, q2, fun Xs hXs w' hk => ?_⟩
        have hk := hk.resolve_left (by simp [pureOp, hop])
        have := q1 w' hk.1 (fun r u b e hu' hb => hk.2 r (hXs r ?_) u b hu' hb)
        · simp [execOp, hop, this]
        · rw [e] at hcalm; injection hcalm with hcalm; subst hcalm; simp
      · cases h
  case extract x i =>
    split at h
    · rename_i vs hvs
      split at h
      · rename_i u hu
        injection h with h; injection h with h1 h2; subst h1
        have hx := hv x
        rw [hvs] at hx
        generalize hxv : a.eval x = xv at hx
        cases hx with
        | tup hl hx =>
          rename_i vals
          have hlt : i < vals.size := by rw [← hl]; exact (List.getElem?_eq_some_iff.1 hu).1
          have hg : vals[i]? = some vals[i] := Array.getElem?_eq_getElem hlt
          refine stay _ h2.symm (fun w' => ?_) (hx i u _ hu hg)
          simp [execOp, hop, hxv, Instr.extract, hg]
      · cases h
    · cases h
  case call c =>
    obtain ⟨callee, args, argTypes⟩ := c
    cases callee with
    | value f => simp only [] at h; cases h
    | invoke r m => simp only [] at h; cases h
    | builtin b =>
      cases b <;> simp only [] at h hcalm <;> try (cases h; done)
      split at h
      · rename_i x hx
        simp only [hx] at hcalm
        split at h
        · rename_i t ht
          split at h
          · rename_i u hu
            injection h with h; injection h with h1 h2; subst h1
            have ha : args = #[x] := by have := congrArg List.toArray hx; simpa using this
            have hta : argTypes = #[t] := by have := congrArg List.toArray ht; simpa using this
            obtain ⟨val, q1, q2⟩ := len_ok (ty := o.type) hT hM.core (hv x) hu
            refine ⟨h2.symm, val, q2, fun Xs hXs w' hk => ?_⟩
            have hk := hk.resolve_left (by simp [pureOp, hop])
            have := q1 w' hk.1 (fun r u b e hu' hb => hk.2 r (hXs r ?_) u b hu' hb)
            · simp [execOp, hop, resolve, invoke, builtin, ha, hta, this]
            · rw [e] at hcalm; injection hcalm with hcalm; subst hcalm; simp
          · cases h
        · cases h
      · cases h

/-- A calm operation under its guard. -/
def calmStep (F : Fp) (gs : List (Nat × Nat)) (Xs : List Nat) (e : List (Nat × V)) (o : Oper) : Bool :=
  match o.guard with
  | none => (match calm F e o with
    | some rs => rs.all (Xs.contains ·)
    | none => false)
  | some g => match gtmp gs g.1 with
    | none => false
    | some t => match Env.get e t with
      | .c (.d (.bo b)) => if b = g.2 then (match calm F e o with
        | some rs => rs.all (Xs.contains ·)
        | none => false) else true
      | .tup [] => true
      | _ => false
theorem step_calm (hT : Tok P F.T) {ops : Array Oper} {gs : List (Nat × Nat)} (hgs : gsOk ops gs) {Xs : List Nat} {Z : Zt} {σ : List Value} {a : Act} {w : World} (hM : Models F X df Z σ S a w) {o : Oper} {e' : List (Nat × V)} {H' : List O} (h : evStep F gs S.env S.objs o = some (e', H')) (hc : calmStep F gs Xs S.env o = true) :
    ∃ val, (∀ Sw : World → Prop, (∀ w', Sw w' → pureOp o = true ∨ Keep Xs Z σ w w') → YieldsIf P ops Sw o val a) ∧ Models F X df Z σ { env := e', objs := H' } (a.put o.dst val) w := by
  have go : ∀ (x : V × List O) (rs : List Nat), evV F S.env S.objs o = some x → calm F S.env o = some rs → rs.all (Xs.contains ·) = true → (Env.put F S.env o.dst x.1, x.2) = (e', H') → Region.wanted o (yielded ops a.tmps) = true → ∃ val, (∀ Sw : World → Prop, (∀ w', Sw w' → pureOp o = true ∨ Keep Xs Z σ w w') → YieldsIf P ops Sw o val a) ∧ Models F X df Z σ { env := e', objs := H' } (a.put o.dst val) w := by
    intro x rs hx hrs hall he hw
    injection he with he1 he2; subst he1 he2
    obtain ⟨q1, val, q2, q3⟩ := evV_calm hT hM (v := x.1) (H' := x.2) hx hrs
    have hin : ∀ r ∈ rs, r ∈ Xs := fun r hr => by have := List.all_eq_true.1 hall r hr; simpa using this
    exact ⟨val, fun Sw hS => .inl ⟨hw, fun w' hk => q3 Xs hin w' (hS w' hk)⟩, hM.put (q1 ▸ hM.core) q2 (Zle.refl Z) (fun _ _ h => h) o.dst⟩
  unfold evStep at h
  unfold calmStep at hc
  split at h
  · rename_i hg
    simp only [hg] at hc
    split at h
    · rename_i x hx
      injection h with h
      split at hc
      · rename_i rs hrs; exact go x rs hx hrs hc h (wanted_none hg _)
      · cases hc
    · cases h
  · rename_i g hg
    simp only [hg] at hc
    split at h
    · cases h
    · rename_i t ht
      simp only [ht] at hc
      split at h
      · rename_i b hb
        simp only [hb] at hc
        have hw := wanted_some hM hg hgs ht hb
        split at h
        · rename_i hbg
          rw [if_pos hbg] at hc
          split at h
          · rename_i x hx
            injection h with h
            split at hc
            · rename_i rs hrs; exact go x rs hx hrs hc h (by rw [hw]; simp [hbg])
            · cases hc
          · cases h
        · rename_i hbg
          injection h with h; injection h with h1 h2; subst h1 h2
          exact ⟨undef, fun Sw _ => .inr ⟨by rw [hw]; simp [hbg], rfl⟩, hM.put hM.core VRel.undef (Zle.refl Z) (fun _ _ h => h) o.dst⟩
      · rename_i hb
        injection h with h; injection h with h1 h2; subst h1 h2
        exact ⟨undef, fun Sw _ => .inr ⟨wanted_tup hM hg hgs ht hb, rfl⟩, hM.put hM.core VRel.undef (Zle.refl Z) (fun _ _ h => h) o.dst⟩
      · cases h

end
end Go.Proofs.YtmkacifjegnehaaDoor.Ab
