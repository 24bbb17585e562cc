/-
  ALL OPERATIONS UNDER ONE ROOF, AND RUNS OF THEM: the abstract state of a frame, one operation's step, a row of operations. No program is named.
-/
import Derived.Test.YtmkacifjegnehaaDoorAb6
namespace Go.Proofs.YtmkacifjegnehaaDoor.Ab
open Go

/-- What is fixed for one function: the types, the temporaries whose literal slices may grow, how many temporaries, how many objects came in. -/
structure Fp where
  T : Nat → Option TI
  rw : List Nat
  nt : Nat
  n0 : Nat
structure St where
  env : List (Nat × V)
  objs : List O
def Env.get : List (Nat × V) → Nat → V
  | [], _ => .dead
  | p :: r, t => if p.1 = t then p.2 else Env.get r t
def Env.put (F : Fp) (e : List (Nat × V)) (dst : Option Nat) (v : V) : List (Nat × V) :=
  match dst with
  | none => e
  | some d => (d, if d < F.nt then v else .dead) :: e
def evK : Value → V
  | .bool b => .c (.d (.bo b))
  | .int k n => .c (.d (.int k n))
  | .string s => .c (.d (.str s.data.toList))
  | .slice none 0 0 => .c .nilS
  | .map none => .c (.d (.fm []))
  | .nilIface => .c .nilI
  | _ => .dead
def evO (e : List (Nat × V)) : Operand → V
  | .tmp t => Env.get e t
  | .const v => evK v
  | .func f => .c (.fn f [])
  | .global _ => .dead
def capsOf (e : List (Nat × V)) (H : List O) : List Operand → Option (List Nat)
  | [] => some []
  | x :: l => match evO e x with
    | .c (.ptr r 0) => match H[r]? with
      | some (.box _) => match capsOf e H l with
        | some rs => some (r :: rs)
        | none => none
      | _ => none
    | _ => none
def evV (F : Fp) (e : List (Nat × V)) (H : List O) (o : Oper) : Option (V × List O) :=
  match o.op with
  | .move x => some (evO e x, H)
  | .assign x => some (evO e x, H)
  | .pick c a b => match evO e c with
    | .c (.d (.bo t)) => some (if t = true then evO e a else evO e b, H)
    | _ => none
  | .alloc t => match F.T t with
    | some i => some (.c (.ptr H.length 0), H ++ [.box i.zero])
    | none => none
  | .box _ x => match (evO e x).cells? with
    | some cs => some (.c (.ptr H.length 0), H ++ [.box cs])
    | none => none
  | .build t ps => match evBuild F.T t (ps.toList.map fun p => (p.1, evO e p.2)) with
    | some v => some (v, H)
    | none => none
  | .buildSlice t n ps => evBuildSlice F.T (match o.dst with | some d => F.rw.contains d | none => false) H t n (ps.toList.map fun p => (p.1, evO e p.2))
  | .load t a => match evLoad F.T H t (evO e a) with
    | some v => some (v, H)
    | none => none
  | .store t a x => match evStore F.T H t (evO e a) (evO e x) with
    | some H' => some (.dead, H')
    | none => none
  | .nilCheck x => match evO e x with
    | .c (.ptr r off) => some (.c (.ptr r off), H)
    | _ => none
  | .binOp op t x y _ => match evBin F.T op t (evO e x) (evO e y) with
    | some v => some (v, H)
    | none => none
  | .unOp op _ x => match evUn op (evO e x) with
    | some v => some (v, H)
    | none => none
  | .convert src dst x => match F.T dst with
    | some ⟨.str, _, _, _⟩ => match evBytes F.T H src (evO e x) with
      | some v => some (v, H)
      | none => none
    | _ => match F.T src with
      | some _ => match evConv F.T dst (evO e x) with
        | some v => some (v, H)
        | none => none
      | none => none
  | .makeInterface t x => match F.T t with
    | some ⟨.struct _, _, _, _⟩ => match evO e x with
      | .agg cs => match toDs cs with
        | some ds => some (.c (.ifc t ds), H)
        | none => none
      | _ => none
    | _ => none
  | .makeFunc (.func f) first caps => match first.toList with
    | [] => match capsOf e H caps.toList with
      | some rs => some (.c (.fn f rs), H)
      | none => none
    | _ => none
  | .makeMap _ none => some (.c (.mp H.length), H ++ [.mp []])
  | .slice t x lo hi none => match evSlice F.T t (evO e x) (lo.map (evO e)) (hi.map (evO e)) with
    | some v => some (v, H)
    | none => none
  | .fieldAddr s x f => match evField F.T s f (evO e x) with
    | some v => some (v, H)
    | none => none
  | .indexAddr t x i => match evIdx F.T H t (evO e x) (evO e i) with
    | some v => some (v, H)
    | none => none
  | .index t x i => match evAt F.T t (evO e x) (evO e i) with
    | some v => some (v, H)
    | none => none
  | .lookup t m k true => match evLookup F.T H t (evO e m) (evO e k) with
    | some v => some (v, H)
    | none => none
  | .mapUpdate t m k x => match evUpdate F.T H t (evO e m) (evO e k) (evO e x) with
    | some H' => some (.dead, H')
    | none => none
  | .extract x i => match evO e x with
    | .tup vs => match vs[i]? with
      | some v => some (v, H)
      | none => none
    | _ => none
  | .call c => match c.callee with
    | .builtin .len => match c.args.toList with
      | [x] => match c.argTypes.toList with
        | [t] => match evLen F.T H t (evO e x) with
          | some v => some (v, H)
          | none => none
        | _ => none
      | _ => none
    | _ => none
  | _ => none

section
variable {P : Program} {F : Fp} {X : Ctx} {Z : Zt} {σ : List Value} {w : World}

structure Models (F : Fp) (X : Ctx) (df : List Deferred) (Z : Zt) (σ : List Value) (S : St) (a : Act) (w : World) : Prop where
  core : Core X Z σ S.objs w
  env : ∀ t, VRel Z σ (Env.get S.env t) (a.tmps.getD t undef)
  nt : a.tmps.size = F.nt
  n0 : X.s0.length = F.n0
  df : a.defers = df

theorem evK_ok (v : Value) : VRel Z σ (evK v) v := by
  unfold evK
  split
  · exact .c (.d (.bo _))
  · exact .c (.d (.int _ _))
  · rename_i s
    have e : Value.string s = Sv s.data.toList := by
      unfold Sv
      congr 1
    rw [e]; exact .c (.d (.str _))
  · exact .c .nilS
  · exact .c (.d .fm0)
  · exact .c .nilI
  · exact .dead
theorem evO_ok {a : Act} {e : List (Nat × V)} (he : ∀ t, VRel Z σ (Env.get e t) (a.tmps.getD t undef)) (x : Operand) : VRel Z σ (evO e x) (a.eval x) := by
  cases x with
  | tmp t => exact he t
  | const v => exact evK_ok v
  | global g => exact .dead
  | func f => exact .c (.fn (vs := #[]) .nil)
theorem put_ok {a : Act} {e : List (Nat × V)} (he : ∀ t, VRel Z σ (Env.get e t) (a.tmps.getD t undef)) (hn : a.tmps.size = F.nt) (dst : Option Nat) {v : V} {val : Value} (hv : VRel Z σ v val) :
    ∀ t, VRel Z σ (Env.get (Env.put F e dst v) t) ((a.put dst val).tmps.getD t undef) := by
  intro t
  cases dst with
  | none => exact he t
  | some d =>
    simp only [Env.put, Env.get, Act.put]
    by_cases hdt : d = t
    · subst hdt
      rw [if_pos rfl]
      by_cases hd : d < F.nt
      · rw [if_pos hd]
        have : (a.tmps.setIfInBounds d val).getD d undef = val := by simp [hn, hd]
        rw [this]; exact hv
      · rw [if_neg hd]; exact .dead
    · rw [if_neg hdt]
      have : (a.tmps.setIfInBounds d val).getD t undef = a.tmps.getD t undef := by simp [Array.getElem?_setIfInBounds_ne hdt]
      rw [this]; exact he t
theorem put_nt {a : Act} (hn : a.tmps.size = F.nt) (dst : Option Nat) (val : Value) : (a.put dst val).tmps.size = F.nt := by
  cases dst <;> simp [Act.put, hn]
theorem put_df (a : Act) (dst : Option Nat) (val : Value) : (a.put dst val).defers = a.defers := by
  cases dst <;> simp [Act.put]

/-- What the operation hands on. -/
def Does (P : Program) (o : Oper) (a : Act) (w : World) (val : Value) (w' : World) : Prop :=
  (execOp a.eval o).run P w = .ok (.value val) w' ∨ ((execOp a.eval o).run P w = .ok .skip w' ∧ val = undef)
theorem Does.wp {o : Oper} {a : Act} {w' : World} {val : Value} (h : Does P o a w val w') {K : Act → World → Prop} {Q : Exit → Act → World → Prop} (hk : K (a.put o.dst val) w') : o.wp P a w K Q := by
  unfold Oper.wp
  rcases h with h | ⟨h, rfl⟩
  · rw [h]; exact hk
  · rw [h]; exact hk

theorem parts_ok {a : Act} {e : List (Nat × V)} (he : ∀ t, VRel Z σ (Env.get e t) (a.tmps.getD t undef)) (ps : Array (Nat × Operand)) :
    All2 (fun (p : Nat × V) (q : Nat × Value) => p.1 = q.1 ∧ VRel Z σ p.2 q.2) (ps.toList.map fun p => (p.1, evO e p.2)) (ps.map fun x => (x.1, a.eval x.2)).toList := by
  rw [Array.toList_map]
  generalize ps.toList = l
  induction l with
  | nil => exact .nil
  | cons p l ih => exact .cons ⟨rfl, evO_ok he p.2⟩ ih
theorem opt_ok {a : Act} {e : List (Nat × V)} (he : ∀ t, VRel Z σ (Env.get e t) (a.tmps.getD t undef)) (x : Option Operand) : ORelV Z σ (x.map (evO e)) (x.map a.eval) := by
  cases x with
  | none => exact .none
  | some x => exact .some (evO_ok he x)
theorem caps_ok {H : List O} (hc : Core X Z σ H w) {a : Act} {e : List (Nat × V)} (he : ∀ t, VRel Z σ (Env.get e t) (a.tmps.getD t undef)) : ∀ {l : List Operand} {rs : List Nat}, capsOf e H l = some rs →
    All2 (fun r v => ∃ b, σ[r]? = some (.pointer (some ⟨b, 0, none⟩)) ∧ v = .pointer (some ⟨b, 0, none⟩)) rs (l.map a.eval)
  | [], rs, h => by injection h with h; subst h; exact .nil
  | x :: l, rs, h => by
    simp only [capsOf] at h
    split at h
    · rename_i r hx
      split at h
      · rename_i cs ho
        split at h
        · rename_i rs' hr
          injection h with h; subst h
          refine .cons ?_ (caps_ok hc he hr)
          have hv := evO_ok he x
          rw [hx] at hv
          generalize a.eval x = xv at hv
          cases hv with | c hv => cases hv with
          | ptr hs hb =>
            obtain ⟨b', carr, t, e1, _⟩ := hc.h.obj _ _ _ ho hs
            subst e1; injection hb with hb; subst hb
            exact ⟨_, hs, rfl⟩
        · cases h
      · cases h
    · cases h

/-- The objects that the operation may write. -/
def touched (e : List (Nat × V)) (o : Oper) : List Nat :=
  match o.op with
  | .store _ a _ => match evO e a with
    | .c (.ptr r _) => [r]
    | _ => []
  | .mapUpdate _ m _ _ => match evO e m with
    | .c (.mp r) => [r]
    | _ => []
  | _ => []
def Spares (σ : List Value) (rs : List Nat) (w w' : World) : Prop := w.heap.size ≤ w'.heap.size ∧ ∀ k, k < w.heap.size → (∀ r ∈ rs, ∀ u, σ[r]? = some u → blk u ≠ some k) → w'.heap[k]? = w.heap[k]?
theorem Old.spares {σ : List Value} {rs : List Nat} {w w' : World} (h : Old w w') : Spares σ rs w w' := ⟨h.1, fun k hk _ => h.2 k hk⟩
theorem Spares.refl {σ : List Value} {rs : List Nat} {w : World} : Spares σ rs w w := ⟨Nat.le_refl _, fun _ _ _ => rfl⟩
theorem evV_ok (hT : Tok P F.T) {df : List Deferred} {S : St} {a : Act} (hM : Models F X df Z σ S a w) {o : Oper} {v : V} {H' : List O} (h : evV F S.env S.objs o = some (v, H')) :
    ∃ val w' Z' σ', Does P o a w val w' ∧ Core X Z' σ' H' w' ∧ VRel Z' σ' v val ∧ Zle Z Z' ∧ (∀ (r : Nat) u, σ[r]? = some u → σ'[r]? = some u) ∧ Spares σ (touched S.env o) w w' := by
  have hv := fun x => evO_ok hM.env x
  -- the world stays, a value comes
  have stay : ∀ (val : Value), H' = S.objs → (execOp a.eval o).run P w = .ok (.value val) w → VRel Z σ v val →
      ∃ val w' Z' σ', Does P o a w val w' ∧ Core X Z' σ' H' w' ∧ VRel Z' σ' v val ∧ Zle Z Z' ∧ (∀ (r : Nat) u, σ[r]? = some u → σ'[r]? = some u) ∧ Spares σ (touched S.env o) w w' :=
    fun val e h1 h2 => ⟨val, w, Z, σ, .inl h1, e ▸ hM.core, h2, Zle.refl Z, fun _ _ h => h, Spares.refl⟩
  unfold evV at h
  cases hop : o.op <;> simp only [hop] at h
  case move x => injection h with h; injection h with h1 h2; exact stay (a.eval x) h2.symm (by simp [execOp, hop]) (h1 ▸ hv x)
  case assign x => injection h with h; injection h with h1 h2; exact stay (a.eval x) h2.symm (by simp [execOp, hop]) (h1 ▸ hv x)
  case pick c x y =>
    split at h
    · rename_i t ht
      injection h with h; injection h with h1 h2
      have hc := hv c
      rw [ht] at hc
      generalize hcv : a.eval c = cv at hc
      cases hc with | c hc => cases hc with | d hc => cases hc with
      | bo =>
        refine stay (if t = true then a.eval x else a.eval y) h2.symm (by simp only [execOp, hop, hcv, asBool]; simp) ?_
        subst h1
        cases t
        · exact hv y
        · exact hv x
    · cases h
  case alloc t =>
    split at h
    · rename_i i hi
      injection h with h; injection h with h1 h2; subst h1 h2
      obtain ⟨w', val, q1, q2, q3, q9⟩ := alloc_ok hT hM.core hi (.tuple #[])
      exact ⟨val, w', Z, σ ++ [val], .inl (by simp [execOp, hop, q1]), q2, q3, Zle.refl Z, fun _ _ h => get_app h, q9.spares⟩
    · cases h
  case box t x =>
    split at h
    · rename_i cs hcs
      injection h with h; injection h with h1 h2; subst h1 h2
      obtain ⟨w', val, q1, q2, q3, q9⟩ := box_ok (P := P) hM.core t (hv x) hcs
      exact ⟨val, w', Z, σ ++ [val], .inl (by simp [execOp, hop, q1]), q2, q3, Zle.refl Z, fun _ _ h => get_app h, q9.spares⟩
    · cases h
  case build t ps =>
    split at h
    · rename_i u hu
      injection h with h; injection h with h1 h2; subst h1
      obtain ⟨val, q1, q2⟩ := build_ok hT (parts_ok hM.env ps) hu
      exact stay val h2.symm (by simp [execOp, hop, q1]) q2
    · cases h
  case buildSlice t n ps =>
    obtain ⟨w', val, Z', σ', q1, q2, q3, q4, q5, q9⟩ := buildSlice_ok hT hM.core (parts_ok hM.env ps) h
    exact ⟨val, w', Z', σ', .inl (by simp [execOp, hop, q1]), q2, q3, q4, q5, q9.spares⟩
  case load t x =>
    split at h
    · rename_i u hu
      injection h with h; injection h with h1 h2; subst h1
      obtain ⟨val, q1', q2⟩ := load_ok hT hM.core (hv x) hu
      have q1 := q1' w hM.core.z (fun _ _ _ _ _ _ _ => rfl)
      exact stay val h2.symm (by simp [execOp, hop, q1]) q2
    · cases h
  case store t x y =>
    split at h
    · rename_i u hu
      injection h with h; injection h with h1 h2; subst h1 h2
      obtain ⟨w', q1, q2, q8, q9⟩ := store_ok hT hM.core (hv x) (hv y) hu
      refine ⟨undef, w', Z, σ, .inr ⟨by simp [execOp, hop, q1], rfl⟩, q2, .dead, Zle.refl Z, fun _ _ h => h, q8, fun k hk hne => q9 k hk fun r off u e hu' => ?_⟩
      exact hne r (by simp [touched, hop, e]) u hu'
    · cases h
  case nilCheck x =>
    split at h
    · rename_i r off hr
      injection h with h; injection h with h1 h2
      have hx := hv x
      rw [hr] at hx
      generalize hxv : a.eval x = xv at hx
      refine stay xv h2.symm ?_ (h1 ▸ hx)
      cases hx with | c hx => cases hx with
      | ptr _ _ => simp [execOp, hop, hxv]
    · cases h
  case binOp op t x y yt =>
    split at h
    · rename_i u hu
      injection h with h; injection h with h1 h2; subst h1
      obtain ⟨val, q1, q2⟩ := bin_ok (P := P) hT (xo := x) (yo := y) (hv x) (hv y) hu
      refine stay val h2.symm ?_ q2
      simp only [execOp, hop]
      rw [Sem.run_bind, q1]; rfl
    · cases h
  case unOp op t x =>
    split at h
    · rename_i u hu
      injection h with h; injection h with h1 h2; subst h1
      obtain ⟨val, q1, q2⟩ := un_ok (P := P) (hv x) hu
      exact stay val h2.symm (by simp [execOp, hop, q1]) q2
    · cases h
  case convert src dst x =>
    split at h
    · rename_i s1 s2 s3 hd
      split at h
      · rename_i u hu
        injection h with h; injection h with h1 h2; subst h1
        obtain ⟨val, q1, q2⟩ := bytes_ok hT hM.core hd (hv x) hu
        exact stay val h2.symm (by simp [execOp, hop, q1]) q2
      · cases h
    · split at h
      · rename_i is hs
        split at h
        · rename_i u hu
          injection h with h; injection h with h1 h2; subst h1
          obtain ⟨val, q1, q2⟩ := conv_ok hT hs (hv x) hu
          exact stay val h2.symm (by simp [execOp, hop, q1]) q2
        · cases h
      · cases h
  case makeInterface t x =>
    split at h
    · rename_i fs s1 s2 s3 ht
      split at h
      · rename_i cs hcs
        split at h
        · rename_i ds hds
          injection h with h; injection h with h1 h2; subst h1
          obtain ⟨arr, hu, _⟩ := (hT _ _ ht).und
          have hx := hv x
          rw [hcs] at hx
          generalize hxv : a.eval x = xv at hx
          cases hx with
          | agg hx =>
            refine stay _ h2.symm ?_ (.c (.ifc (toDs_ok hx hds)))
            simp [execOp, hop, hxv, Instr.makeInterface, run_underlying hu]
        · cases h
      · cases h
    · cases h
  case makeFunc fn first caps =>
    cases fn <;> simp only [] at h <;> try (cases h; done)
    rename_i f
    split at h
    · rename_i hfirst
      split at h
      · rename_i rs hrs
        injection h with h; injection h with h1 h2; subst h1
        have hf : first = #[] := by
          have := congrArg List.toArray hfirst
          simpa using this
        refine stay _ h2.symm ?_ (.c (.fn (vs := caps.map a.eval) (by rw [Array.toList_map]; exact caps_ok hM.core hM.env hrs)))
        simp [execOp, hop, Instr.makeFunc, hf]
      · cases h
    · cases h
  case makeMap t r =>
    cases r with
    | some r => simp only [] at h; cases h
    | none =>
      simp only [] at h
      injection h with h; injection h with h1 h2; subst h1 h2
      obtain ⟨w', val, q1, q2, q3, q9⟩ := makeMap_ok (P := P) hM.core t
      exact ⟨val, w', Z, σ ++ [val], .inl (by simp [execOp, hop, q1]), q2, q3, Zle.refl Z, fun _ _ h => get_app h, q9.spares⟩
  case slice t x lo hi mx =>
    cases mx with
    | some mx => simp only [] at h; cases h
    | none =>
      simp only [] at h
      split at h
      · rename_i u hu
        injection h with h; injection h with h1 h2; subst h1
        obtain ⟨val, q1, q2⟩ := slice_ok hT (hv x) (opt_ok hM.env lo) (opt_ok hM.env hi) hu
        exact stay val h2.symm (by simp [execOp, hop, q1]) q2
      · cases h
  case fieldAddr s x f =>
    split at h
    · rename_i u hu
      injection h with h; injection h with h1 h2; subst h1
      obtain ⟨val, q1, q2⟩ := field_ok hT (hv x) hu
      exact stay val h2.symm (by simp [execOp, hop, q1]) q2
    · cases h
  case indexAddr t x i =>
    split at h
    · rename_i u hu
      injection h with h; injection h with h1 h2; subst h1
      obtain ⟨val, q1, q2⟩ := idx_ok hT hM.core (hv x) (hv i) hu
      exact stay val h2.symm (by simp [execOp, hop, q1]) q2
    · cases h
  case index t x i =>
    split at h
    · rename_i u hu
      injection h with h; injection h with h1 h2; subst h1
      obtain ⟨val, q1, q2⟩ := at_ok hT (hv x) (hv i) hu
      exact stay val h2.symm (by simp [execOp, hop, q1]) q2
    · cases h
  case lookup t m k ok =>
    cases ok with
    | false => simp only [] at h; cases h
    | true =>
      simp only [] at h
      split at h
      · rename_i u hu
        injection h with h; injection h with h1 h2; subst h1
        obtain ⟨val, q1', q2⟩ := lookup_ok hT hM.core (hv m) (hv k) hu
        have q1 := q1' w hM.core.z (fun _ _ _ _ _ _ => rfl)
        exact stay val h2.symm (by simp [execOp, hop, q1]) q2
      · cases h
  case mapUpdate t m k x =>
    split at h
    · rename_i u hu
      injection h with h; injection h with h1 h2; subst h1 h2
      obtain ⟨w', q1, q2, q8, q9⟩ := update_ok hT hM.core (hv m) (hv k) (hv x) hu
      refine ⟨undef, w', Z, σ, .inr ⟨by simp [execOp, hop, q1], rfl⟩, q2, .dead, Zle.refl Z, fun _ _ h => h, q8, fun k hk hne => q9 k hk fun r u e hu' => ?_⟩
      exact hne r (by simp [touched, hop, e]) u hu'
    · cases h
  case extract x i =>
    split at h
    · rename_i vs hvs
      split at h
      · rename_i u hu
        injection h with h; injection h with h1 h2; subst h1
        have hx := hv x
        rw [hvs] at hx
        generalize hxv : a.eval x = xv at hx
        cases hx with
        | tup hl hx =>
          rename_i vals
          have hlt : i < vals.size := by rw [← hl]; exact (List.getElem?_eq_some_iff.1 hu).1
          have hg : vals[i]? = some vals[i] := Array.getElem?_eq_getElem hlt
          refine stay _ h2.symm ?_ (hx i u _ hu hg)
          simp [execOp, hop, hxv, Instr.extract, hg]
      · cases h
    · cases h
  case call c =>
    obtain ⟨callee, args, argTypes⟩ := c
    cases callee with
    | value f => simp only [] at h; cases h
    | invoke r m => simp only [] at h; cases h
    | builtin b =>
      cases b <;> simp only [] at h <;> try (cases h; done)
      split at h
      · rename_i x hx
        split at h
        · rename_i t ht
          split at h
          · rename_i u hu
            injection h with h; injection h with h1 h2; subst h1
            have ha : args = #[x] := by have := congrArg List.toArray hx; simpa using this
            have hta : argTypes = #[t] := by have := congrArg List.toArray ht; simpa using this
            obtain ⟨val, q1', q2⟩ := len_ok (ty := o.type) hT hM.core (hv x) hu
            have q1 := q1' w hM.core.z (fun _ _ _ _ _ _ => rfl)
            refine stay val h2.symm ?_ q2
            simp [execOp, hop, resolve, invoke, builtin, ha, hta, q1]
          · cases h
        · cases h
      · cases h
  all_goals (cases h)

end
end Go.Proofs.YtmkacifjegnehaaDoor.Ab
