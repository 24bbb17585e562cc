/-
  TRIPLES OVER THE ABSTRACT STATE: rows of operations, statements, loops, calls. No program is named.
-/
import Derived.Test.YtmkacifjegnehaaDoorAb7
namespace Go.Proofs.YtmkacifjegnehaaDoor.Ab
open Go

inductive Ex where
  | normal
  | exit (id : Nat)
  | ret
  | panic (t : Nat) (cs : List D)
inductive ExRel (Z : Zt) : Ex → Exit → Prop
  | normal : ExRel Z .normal .normal
  | exit (id : Nat) : ExRel Z (.exit id) (.exit id)
  | ret : ExRel Z .ret .ret
  | panic {t : Nat} {cs : List D} {vs : Array Value} (h : All2 (DRel Z) cs vs.toList) : ExRel Z (.panic t cs) (.panic [{ v := .iface t (.agg vs), recovered := false }])

/-- What a call comes to. -/
inductive Res where
  | ret (vs : List V)
  | panic (t : Nat) (cs : List D)
/-- The one value that comes back: the result, or all of them. -/
def retV : List V → V
  | [v] => v
  | vs => .tup vs
inductive ResRel (Z : Zt) (σ : List Value) : Res → Ending → Prop
  | ret {vs : List V} {v : Value} (h : VRel Z σ (retV vs) v) : ResRel Z σ (.ret vs) (.returned v)
  | panic {t : Nat} {cs : List D} {vs : Array Value} (h : All2 (DRel Z) cs vs.toList) : ResRel Z σ (.panic t cs) (.panicked [{ v := .iface t (.agg vs), recovered := false }])

section
variable (P : Program) (F : Fp) (X : Ctx) (df : List Deferred)

def post (Q : Ex → St → Prop) : Exit → Act → World → Prop := fun e a w => ∃ Z σ S x, Models F X df Z σ S a w ∧ ExRel Z x e ∧ Q x S
def SatL (ops : Array Oper) (S : St) (l : List Oper) (Q : Ex → St → Prop) : Prop :=
  ∀ Z σ a w, Models F X df Z σ S a w → wpList P ops (post F X df Q) l a w
def Sat (S : St) (c : Code) (Q : Ex → St → Prop) : Prop :=
  ∀ Z σ a w, Models F X df Z σ S a w → c.wp P (post F X df Q) a w
/-- What stands for the same. -/
def Weak (S S' : St) : Prop := ∀ Z σ a w, Models F X df Z σ S a w → ∃ Z' σ', Models F X df Z' σ' S' a w
/-- The contract of a function: the arguments, the objects that it is handed, what comes of it. -/
def ACalls (f : FuncId) (args : List V) (H : List O) (R : Res → List O → Prop) : Prop :=
  ∀ (Z : Zt) (σ : List Value) (w : World) (vargs : Array Value), HRel Z σ H w → Zok Z w → All2 (VRel Z σ) args vargs.toList →
    Calls P f vargs w fun e w' => ∃ Z' σ' r H', Zle Z Z' ∧ HRel Z' σ' H' w' ∧ Zok Z' w' ∧ ResRel Z' σ' r e ∧ R r H' ∧
      (∀ (i : Nat) v, σ[i]? = some v → σ'[i]? = some v) ∧
      w'.os = w.os ∧ w'.tape = w.tape ∧ w'.output = w.output ∧ w.heap.size ≤ w'.heap.size ∧
      (∀ k, k < w.heap.size → (∀ (i : Nat) v, σ[i]? = some v → blk v ≠ some k) → w'.heap[k]? = w.heap[k]?) ∧
      (∀ b o v, Z'.cell b o = some v → Z.cell b o = some v ∨ w.heap.size ≤ b) ∧ (∀ b es, Z'.mp b = some es → Z.mp b = some es ∨ w.heap.size ≤ b) ∧
      (∀ (i : Nat) o v b, H'[i]? = some o → o.live = true → H.length ≤ i → σ'[i]? = some v → blk v = some b → w.heap.size ≤ b)
end

section
variable {P : Program} {F : Fp} {X : Ctx} {df : List Deferred} {ops : Array Oper} {S S' : St} {Q : Ex → St → Prop}

theorem ACalls.mono {f : FuncId} {args : List V} {H : List O} {R R' : Res → List O → Prop} (h : ACalls P f args H R) (hr : ∀ r H', R r H' → R' r H') : ACalls P f args H R' := by
  intro Z σ w vargs h1 h2 h3
  refine (h Z σ w vargs h1 h2 h3).mono ?_
  rintro e w' ⟨Z', σ', r, H', q1, q2, q3, q4, q5, q6⟩
  exact ⟨Z', σ', r, H', q1, q2, q3, q4, hr _ _ q5, q6⟩

/-! ### Rows of operations -/
theorem SatL_nil (h : Q .normal S) : SatL P F X df ops S [] Q := fun Z σ a w hM => wpList_nil ⟨Z, σ, S, .normal, hM, .normal, h⟩
theorem Models.put {Z : Zt} {σ : List Value} {a : Act} {w : World} (hM : Models F X df Z σ S a w) {Z' : Zt} {σ' : List Value} {w' : World} {H' : List O} {v : V} {val : Value} (hc : Core X Z' σ' H' w') (hv : VRel Z' σ' v val) (hz : Zle Z Z') (hs : ∀ (r : Nat) u, σ[r]? = some u → σ'[r]? = some u) (dst : Option Nat) :
    Models F X df Z' σ' { env := Env.put F S.env dst v, objs := H' } (a.put dst val) w' :=
  ⟨hc, put_ok (fun t => (hM.env t).mono hz hs) hM.nt dst hv, put_nt hM.nt dst val, hM.n0, by rw [put_df]; exact hM.df⟩

def gtmp : List (Nat × Nat) → Nat → Option Nat
  | [], _ => none
  | p :: r, j => if p.1 = j then some p.2 else gtmp r j
def evStep (F : Fp) (gs : List (Nat × Nat)) (e : List (Nat × V)) (H : List O) (o : Oper) : Option (List (Nat × V) × List O) :=
  match o.guard with
  | none => match evV F e H o with
    | some x => some (Env.put F e o.dst x.1, x.2)
    | none => none
  | some g => match gtmp gs g.1 with
    | none => none
    | some t => match Env.get e t with
      | .c (.d (.bo b)) => if b = g.2 then (match evV F e H o with
          | some x => some (Env.put F e o.dst x.1, x.2)
          | none => none) else some (Env.put F e o.dst (.tup []), H)
      | .tup [] => some (Env.put F e o.dst (.tup []), H)
      | _ => none
def evRun (F : Fp) (gs : List (Nat × Nat)) : List Oper → List (Nat × V) → List O → List (Nat × V) × List O × List Oper
  | [], e, H => (e, H, [])
  | o :: l, e, H => match evStep F gs e H o with
    | some x => evRun F gs l x.1 x.2
    | none => (e, H, o :: l)
def gsOk (ops : Array Oper) (gs : List (Nat × Nat)) : Prop := ∀ j t, gtmp gs j = some t → (ops[j]?).bind (·.dst) = some t

theorem wanted_none {o : Oper} (hg : o.guard = none) (y : Nat → Option Bool) : Region.wanted o y = true := by simp [Region.wanted, hg]
theorem wanted_some {Z : Zt} {σ : List Value} {a : Act} {w : World} (hM : Models F X df Z σ S a w) {o : Oper} {g : Nat × Bool} (hg : o.guard = some g) {gs : List (Nat × Nat)} (hgs : gsOk ops gs) {t : Nat} (ht : gtmp gs g.1 = some t) {b : Bool} (hb : Env.get S.env t = .c (.d (.bo b))) :
    Region.wanted o (yielded ops a.tmps) = decide (b = g.2) := by
  have hv := hM.env t
  rw [hb] at hv
  have hval : a.tmps.getD t undef = .bool b := by
    generalize a.tmps.getD t undef = x at hv
    cases hv with | c hv => cases hv with | d hv => cases hv; rfl
  have hget : a.tmps[t]? = some (.bool b) := by
    cases h : a.tmps[t]? with
    | none => simp [h, undef] at hval
    | some y => simp [h] at hval; rw [hval]
  have hy : yielded ops a.tmps g.1 = some b := by simp [yielded, hgs _ _ ht, hget]
  unfold Region.wanted
  rw [hg]
  show (yielded ops a.tmps g.1 == some g.2) = _
  rw [hy]
  cases b <;> cases g.2 <;> rfl
theorem VRel.undef {Z : Zt} {σ : List Value} : VRel Z σ (.tup []) Go.undef := .tup rfl (fun i x v h => by simp at h)
theorem wanted_tup {Z : Zt} {σ : List Value} {a : Act} {w : World} (hM : Models F X df Z σ S a w) {o : Oper} {g : Nat × Bool} (hg : o.guard = some g) {gs : List (Nat × Nat)} (hgs : gsOk ops gs) {t : Nat} (ht : gtmp gs g.1 = some t) (hb : Env.get S.env t = .tup []) :
    Region.wanted o (yielded ops a.tmps) = false := by
  have hv := hM.env t
  rw [hb] at hv
  have hval : ∃ vs, a.tmps.getD t Go.undef = .tuple vs := by
    generalize a.tmps.getD t Go.undef = x at hv
    cases hv with | tup _ _ => exact ⟨_, rfl⟩
  obtain ⟨vs, hval⟩ := hval
  have hy : yielded ops a.tmps g.1 = none := by
    unfold yielded
    rw [hgs _ _ ht]
    simp only [Option.bind_some]
    cases h : a.tmps[t]? with
    | none => rfl
    | some y => simp [h] at hval; subst hval; rfl
  unfold Region.wanted
  rw [hg]
  show (yielded ops a.tmps g.1 == some g.2) = _
  rw [hy]; rfl
theorem wpList_cons_wanted {Q' : Exit → Act → World → Prop} {o : Oper} {l : List Oper} {a : Act} {w : World} (hw : Region.wanted o (yielded ops a.tmps) = true) (h : o.wp P a w (wpList P ops Q' l) Q') : wpList P ops Q' (o :: l) a w := by
  unfold wpList; rw [if_pos hw]; exact .inl h
theorem wpList_cons_not {Q' : Exit → Act → World → Prop} {o : Oper} {l : List Oper} {a : Act} {w : World} (hw : Region.wanted o (yielded ops a.tmps) = false) (h : wpList P ops Q' l (a.put o.dst undef) w) : wpList P ops Q' (o :: l) a w := by
  unfold wpList; rw [if_neg (by simp [hw])]; exact h
theorem SatL_step (hT : Tok P F.T) {gs : List (Nat × Nat)} (hgs : gsOk ops gs) {o : Oper} {l : List Oper} {e' : List (Nat × V)} {H' : List O} (h : evStep F gs S.env S.objs o = some (e', H')) (k : SatL P F X df ops { env := e', objs := H' } l Q) : SatL P F X df ops S (o :: l) Q := by
  intro Z σ a w hM
  have go : ∀ x : V × List O, evV F S.env S.objs o = some x → (Env.put F S.env o.dst x.1, x.2) = (e', H') → o.wp P a w (wpList P ops (post F X df Q) l) (post F X df Q) := by
    intro x hx he
    injection he with he1 he2; subst he1 he2
    obtain ⟨val, w', Z', σ', q1, q2, q3, q4, q5, _⟩ := evV_ok hT hM (v := x.1) (H' := x.2) hx
    exact q1.wp (k Z' σ' _ w' (hM.put q2 q3 q4 q5 o.dst))
  unfold evStep at h
  split at h
  · rename_i hg
    split at h
    · rename_i x hx
      injection h with h
      exact wpList_cons_wanted (wanted_none hg _) (go x hx h)
    · cases h
  · rename_i g hg
    split at h
    · cases h
    · rename_i t ht
      split at h
      · rename_i b hb
        have hw := wanted_some hM hg hgs ht hb
        split at h
        · rename_i hbg
          split at h
          · rename_i x hx
            injection h with h
            exact wpList_cons_wanted (by rw [hw]; simp [hbg]) (go x hx h)
          · cases h
        · rename_i hbg
          injection h with h; injection h with h1 h2; subst h1 h2
          exact wpList_cons_not (by rw [hw]; simp [hbg]) (k Z σ _ w (hM.put hM.core VRel.undef (Zle.refl Z) (fun _ _ h => h) o.dst))
      · rename_i hb
        injection h with h; injection h with h1 h2; subst h1 h2
        exact wpList_cons_not (wanted_tup hM hg hgs ht hb) (k Z σ _ w (hM.put hM.core VRel.undef (Zle.refl Z) (fun _ _ h => h) o.dst))
      · cases h
theorem SatL_run (hT : Tok P F.T) {gs : List (Nat × Nat)} (hgs : gsOk ops gs) : ∀ {l : List Oper} {S : St} {e' : List (Nat × V)} {H' : List O} {l' : List Oper}, evRun F gs l S.env S.objs = (e', H', l') → SatL P F X df ops { env := e', objs := H' } l' Q → SatL P F X df ops S l Q
  | [], S, e', H', l', h, k => by
    simp only [evRun] at h
    injection h with h1 h; injection h with h2 h3; subst h1 h2 h3; exact k
  | o :: l, S, e', H', l', h, k => by
    simp only [evRun] at h
    split at h
    · rename_i x hx
      exact SatL_step hT hgs (e' := x.1) (H' := x.2) hx (SatL_run hT hgs h k)
    · injection h with h1 h; injection h with h2 h3; subst h1 h2 h3; exact k

/-! ### Statements -/
theorem Sat_weak {c : Code} (hw : Weak F X df S S') (h : Sat P F X df S' c Q) : Sat P F X df S c Q := fun Z σ a w hM => by
  obtain ⟨Z', σ', hM'⟩ := hw Z σ a w hM
  exact h Z' σ' a w hM'
theorem SatL_weak {l : List Oper} (hw : Weak F X df S S') (h : SatL P F X df ops S' l Q) : SatL P F X df ops S l Q := fun Z σ a w hM => by
  obtain ⟨Z', σ', hM'⟩ := hw Z σ a w hM
  exact h Z' σ' a w hM'
theorem Sat_mono {c : Code} {Q' : Ex → St → Prop} (h : Sat P F X df S c Q) (hq : ∀ x S', Q x S' → Q' x S') : Sat P F X df S c Q' := fun Z σ a w hM =>
  wp_mono (h Z σ a w hM) fun _ _ _ ⟨Z', σ', S', x, q1, q2, q3⟩ => ⟨Z', σ', S', x, q1, q2, hq _ _ q3⟩
theorem Sat_skip (h : Q .normal S) : Sat P F X df S .skip Q := fun Z σ _ _ hM => wp_skip ⟨Z, σ, S, .normal, hM, .normal, h⟩
theorem Sat_ret (h : Q .ret S) : Sat P F X df S .ret Q := fun Z σ _ _ hM => wp_ret ⟨Z, σ, S, .ret, hM, .ret, h⟩
theorem Sat_exit {id : Nat} (h : Q (.exit id) S) : Sat P F X df S (.exit id) Q := fun Z σ _ _ hM => wp_exit ⟨Z, σ, S, .exit id, hM, .exit id, h⟩
def thenQ (K : St → Prop) (Q : Ex → St → Prop) : Ex → St → Prop
  | .normal, S => K S
  | x, S => Q x S
theorem Sat_seq {c d : Code} (h : Sat P F X df S c (thenQ (fun S' => Sat P F X df S' d Q) Q)) : Sat P F X df S (.seq c d) Q := fun Z σ a w hM =>
  wp_seq (wp_mono (h Z σ a w hM) fun e a' w' ⟨Z', σ', S', x, q1, q2, q3⟩ => by
    cases q2 with
    | normal => exact q3 Z' σ' a' w' q1
    | exit id => exact ⟨Z', σ', S', _, q1, .exit id, q3⟩
    | ret => exact ⟨Z', σ', S', _, q1, .ret, q3⟩
    | panic hp => exact ⟨Z', σ', S', _, q1, .panic hp, q3⟩)
theorem Sat_region {id : Nat} {l : List Oper} (h : SatL P F X df l.toArray S l Q) : Sat P F X df S (.region id l.toArray false) Q := fun Z σ a w hM => wp_region_lit (h Z σ a w hM)
theorem Sat_cond {t : Nat} {x y : Code} {b : Bool} (hb : Env.get S.env t = .c (.d (.bo b))) (h1 : b = true → Sat P F X df S x Q) (h2 : b = false → Sat P F X df S y Q) : Sat P F X df S (.cond (.tmp t) x y) Q := fun Z σ a w hM => by
  have hv := hM.env t
  rw [hb] at hv
  have hval : a.eval (.tmp t) = .bool b := by
    show a.tmps.getD t undef = _
    generalize a.tmps.getD t undef = x at hv
    cases hv with | c hv => cases hv with | d hv => cases hv; rfl
  cases b with
  | true => exact wp_cond_true hval (h1 rfl Z σ a w hM)
  | false => exact wp_cond_false hval (h2 rfl Z σ a w hM)
def blockQ (id : Nat) (Q : Ex → St → Prop) : Ex → St → Prop
  | .exit i, S => if i = id then Q .normal S else Q (.exit i) S
  | x, S => Q x S
theorem Sat_block {id : Nat} {c : Code} (h : Sat P F X df S c (blockQ id Q)) : Sat P F X df S (.block id c) Q := fun Z σ a w hM =>
  wp_block (wp_mono (h Z σ a w hM) fun e a' w' ⟨Z', σ', S', x, q1, q2, q3⟩ => by
    cases q2 with
    | normal => exact ⟨Z', σ', S', _, q1, .normal, q3⟩
    | exit i =>
      simp only [blockQ] at q3
      simp only [Exit.inBlock]
      split
      · rename_i hi; rw [if_pos hi] at q3; exact ⟨Z', σ', S', _, q1, .normal, q3⟩
      · rename_i hi; rw [if_neg hi] at q3; exact ⟨Z', σ', S', _, q1, .exit i, q3⟩
    | ret => exact ⟨Z', σ', S', _, q1, .ret, q3⟩
    | panic hp => exact ⟨Z', σ', S', _, q1, .panic hp, q3⟩)
def loopQ (F : Fp) (X : Ctx) (df : List Deferred) (I : Nat → St → Prop) (n : Nat) (Q : Ex → St → Prop) : Ex → St → Prop
  | .normal, S => ∃ S' m, m < n ∧ Weak F X df S S' ∧ I m S'
  | x, S => Q x S
theorem Sat_loop {c : Code} (I : Nat → St → Prop) (n : Nat) (h0 : I n S) (hr : ∀ n S, I n S → Sat P F X df S c (loopQ F X df I n Q)) : Sat P F X df S (.loop c) Q := fun Z σ a w hM => by
  refine wp_loop_ghost (fun n a w => ∃ Z σ S, Models F X df Z σ S a w ∧ I n S) n ⟨Z, σ, S, hM, h0⟩ ?_
  rintro n a w ⟨Z, σ, S, hM, hI⟩
  refine wp_mono (hr n S hI Z σ a w hM) fun e a' w' ⟨Z', σ', S', x, q1, q2, q3⟩ => ?_
  cases q2 with
  | normal =>
    obtain ⟨S'', m, hm, hw, hI'⟩ := q3
    obtain ⟨Z'', σ'', hM''⟩ := hw Z' σ' a' w' q1
    exact ⟨m, hm, Z'', σ'', S'', hM'', hI'⟩
  | exit id => exact ⟨Z', σ', S', _, q1, .exit id, q3⟩
  | ret => exact ⟨Z', σ', S', _, q1, .ret, q3⟩
  | panic hp => exact ⟨Z', σ', S', _, q1, .panic hp, q3⟩

/-! ### What stands for the same -/
theorem Weak.refl (S : St) : Weak F X df S S := fun Z σ _ _ hM => ⟨Z, σ, hM⟩
theorem Weak.trans {S'' : St} (h : Weak F X df S S') (k : Weak F X df S' S'') : Weak F X df S S'' := fun Z σ a w hM => by
  obtain ⟨Z', σ', h'⟩ := h Z σ a w hM
  exact k Z' σ' a w h'
def keepCons (t : Nat) (v : V) (r : List (Nat × V)) : List (Nat × V) :=
  match v with
  | .dead => r
  | v => (t, v) :: r
def keepEnv (n : Nat) (e : List (Nat × V)) : List Nat → List (Nat × V)
  | [] => []
  | t :: L => keepCons t ((Env.get e t).cut n) (keepEnv n e L)
theorem Env.get_keepCons (t t' : Nat) (v : V) (r : List (Nat × V)) : Env.get (keepCons t v r) t' = (if t = t' then (match v with | .dead => Env.get r t' | v => v) else Env.get r t') := by
  cases v <;> simp [keepCons, Env.get]
theorem keepEnv_get (n : Nat) (e : List (Nat × V)) : ∀ (L : List Nat) (t : Nat), Env.get (keepEnv n e L) t = .dead ∨ Env.get (keepEnv n e L) t = (Env.get e t).cut n
  | [], t => .inl rfl
  | t' :: L, t => by
    simp only [keepEnv, Env.get_keepCons]
    by_cases h : t' = t
    · subst h
      rw [if_pos rfl]
      generalize hx : (Env.get e t').cut n = x
      cases x
      case dead => have := keepEnv_get n e L t'; rw [hx] at this; rcases this with q | q <;> exact .inl q
      all_goals exact .inr rfl
    · rw [if_neg h]; exact keepEnv_get n e L t
/-- Temporaries forgotten, and the last objects. -/
theorem Weak.keep (L : List Nat) (n : Nat) (hn : F.n0 ≤ n) : Weak F X df S { env := keepEnv n S.env L, objs := (S.objs.take n).map (O.cut n) } := fun Z σ a w hM => by
  refine ⟨Z, σ.take n, hM.core.take n (by rw [hM.n0]; exact hn), fun t => ?_, hM.nt, hM.n0, hM.df⟩
  rcases keepEnv_get n S.env L t with q | q
  · rw [q]; exact .dead
  · rw [q]; exact (hM.env t).cut n
end
end Go.Proofs.YtmkacifjegnehaaDoor.Ab
