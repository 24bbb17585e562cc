/-
  THE INTERPRETER TELLS THE TRUTH OF CODE THAT DRAWS NO ORDER, the temporaries told at a panic too. No program is named.
-/
import Derived.Test.YtmkacifjegnehaaDoorAb24
import Derived.Defers
import Derived.Recover
namespace Go.Proofs.YtmkacifjegnehaaDoor.Ab
open Go

section
variable {P : Program} {F : Fp} {X : Ctx} {df : List Deferred} {S : St} {Q : Ex → St → Prop}

theorem execX_nd (hT : Tok P F.T) {call : CallF} (hs : SoundCall P call) {keepA : Nat → Bool} {L : Nat → Lv} : ∀ (n : Nat) (c : Code) (e : List (Nat × V)) (H : List O) (x : Ex) (e' : List (Nat × V)) (H' : List O), execX call F keepA L (fun _ => none) n c e H = some (x, e', H') →
    ∀ Q : Ex → St → Prop, Q x ⟨e', H'⟩ → Sat P F X df ⟨e, H⟩ c Q := by
  intro n
  induction n using Nat.strongRecOn with
  | ind n ih =>
  intro c e H x e' H' h Q hq
  cases n with
  | zero => cases h
  | succ n =>
  have ihn := ih n (Nat.lt_succ_self n)
  cases c <;> simp only [execX] at h <;> try (cases h; done)
  case skip => injection h with h; injection h with h1 h; injection h with h2 h3; subst h1 h2 h3; exact Sat_skip hq
  case exit id => injection h with h; injection h with h1 h; injection h with h2 h3; subst h1 h2 h3; exact Sat_exit hq
  case ret => injection h with h; injection h with h1 h; injection h with h2 h3; subst h1 h2 h3; exact Sat_ret hq
  case seq c d =>
    split at h
    · rename_i e1 H1 hc
      exact Sat_seq (ihn c e H _ e1 H1 hc _ (ihn d e1 H1 x e' H' h Q hq))
    · rename_i r hr
      refine Sat_seq (ihn c e H x e' H' h _ ?_)
      cases x with
      | normal => exact (hr e' H' h).elim
      | exit id => exact hq
      | ret => exact hq
      | panic t cs => exact hq
  case region id ops dr =>
    have fin : ∀ (out : Out), endX F.n0 (L id) (some out) = some (x, e', H') → out.to (Go.Proofs.YtmkacifjegnehaaDoor.Ab.weakQ F X df Q) := by
      intro out he
      cases out with
      | go rs e1 H1 =>
        simp only [endX] at he
        injection he with he; injection he with h1 he; injection he with h2 h3; subst h1 h2 h3
        exact ⟨_, Weak.end_ e1 H1 (L id), hq⟩
      | pan t cs e1 H1 =>
        simp only [endX] at he
        injection he with he; injection he with h1 he; injection he with h2 h3; subst h1 h2 h3
        exact hq
    cases dr with
    | false =>
      simp only [] at h
      cases hr : runX call F keepA ops.toList ops.toList e H with
      | none => rw [hr] at h; cases h
      | some out =>
        rw [hr] at h
        refine Sat_weakQ ?_
        obtain ⟨l, rfl⟩ : ∃ l : List Oper, ops = l.toArray := ⟨ops.toList, by simp⟩
        exact Sat_region (runX_ok hT hs l e H out (by simpa using hr) (fin out h))
    | true => cases h
  case cond t c d =>
    cases t with
    | tmp t =>
      simp only [] at h
      split at h
      · rename_i hb
        exact Sat_cond (b := true) hb (fun _ => ihn c e H x e' H' h Q hq) (fun q => by cases q)
      · rename_i hb
        exact Sat_cond (b := false) hb (fun q => by cases q) (fun _ => ihn d e H x e' H' h Q hq)
      · cases h
    | const v => cases h
    | global g => cases h
    | func g => cases h
  case block id c =>
    split at h
    · rename_i i e1 H1 hc
      split at h
      · rename_i hi
        injection h with h; injection h with h1 h; injection h with h2 h3; subst h1 h2 h3
        exact Sat_block (ihn c e H _ e1 H1 hc _ (by simp only [blockQ]; rw [if_pos hi]; exact hq))
      · rename_i hi
        injection h with h; injection h with h1 h; injection h with h2 h3; subst h1 h2 h3
        exact Sat_block (ihn c e H _ e1 H1 hc _ (by simp only [blockQ]; rw [if_neg hi]; exact hq))
    · rename_i r hr
      refine Sat_block (ihn c e H x e' H' h _ ?_)
      cases x with
      | normal => exact hq
      | exit i => exact (hr i e' H' h).elim
      | ret => exact hq
      | panic t cs => exact hq
  case loop c =>
    refine Sat_loop (fun m S => m ≤ n + 1 ∧ execX call F keepA L (fun _ => none) m (.loop c) S.env S.objs = some (x, e', H')) (n + 1) ⟨Nat.le_refl _, by simp only [execX]; exact h⟩ ?_
    rintro m S ⟨hm1, hx⟩
    cases m with
    | zero => cases hx
    | succ m =>
      simp only [execX] at hx
      have ihm := ih m (by omega)
      split at hx
      · rename_i e1 H1 hc
        exact ihm c S.env S.objs _ e1 H1 hc _ ⟨_, m, Nat.lt_succ_self m, (WeakS.merge (keysE S.env) e1 H1).weak.trans (Weak.tidy _ _), by omega, hx⟩
      · rename_i r hr
        refine ihm c S.env S.objs x e' H' hx _ ?_
        cases x with
        | normal => exact (hr e' H' hx).elim
        | exit id => exact hq
        | ret => exact hq
        | panic t cs => exact hq
/-! ### A function whose results lie in two boxes, with a deferred closure over them -/
/-- What the body comes to. -/
def defQ (A B : List C) (pan : Option (Nat × List D)) (x : Ex) (S : St) : Prop := Env.get S.env 2 = .c (.ptr 0 0) ∧ Env.get S.env 3 = .c (.ptr 1 0) ∧ match pan with
  | none => x = .ret ∧ ∃ rest, S.objs = .box A :: .box B :: rest
  | some (t, cs) => x = .panic t cs ∧ ∃ a b rest, S.objs = .box [a] :: .box b :: rest ∧ b = B
theorem VRel.ptrS {Z Z' : Zt} {σ σ' : List Value} {r off : Nat} {v : Value} (h : VRel Z σ (.c (.ptr r off)) v) (e : σ'[r]? = σ[r]?) : VRel Z' σ' (.c (.ptr r off)) v := by
  cases h with | c h => cases h with | ptr h hb => exact .c (.ptr (by rw [e]; exact h) hb)
theorem acalls_defer {f g : FuncId} {fn : Func} {r0 rest : Code} {i1 : Nat} {ty1 ty2 : TypeId} {pos1 pos2 : String} {af : Array Edge} (hf : P.funcs[f]? = some fn)
    (hb : fn.body = some (.seq r0 (.seq (.region i1 #[⟨some 9, .makeFunc (.func g) #[] #[.tmp 2, .tmp 3], ty1, pos1, #[], none⟩, ⟨none, .defer ⟨.value (.tmp 9), #[], #[]⟩, ty2, pos2, af, none⟩] false) rest)))
    {T : Nat → Option TI} (hT : Tok P T) {nt : Nat} (hnt : fn.ntmps = nt) (h9 : 9 < nt) {res : List ResultVar} (hres : fn.results.toList = res) {v : V} {A0 B0 A B A1 B1 A2 B2 : List C} {pan : Option (Nat × List D)} {rs : List V}
    (hN : pan = none → A2 = A ∧ B2 = B) (hS : ∀ x, pan = some x → A2 = A1 ∧ B2 = B1)
    (h0 : ∀ X, Sat P ⟨T, [], nt, 0⟩ X [] ⟨[(0, v)], []⟩ r0 (fun x S => x = .normal ∧ S = ⟨[(0, v), (2, .c (.ptr 0 0)), (3, .c (.ptr 1 0))], [.box A0, .box B0]⟩))
    (h1 : ∀ X df, Sat P ⟨T, [], nt, 2⟩ X df ⟨[(0, v), (2, .c (.ptr 0 0)), (3, .c (.ptr 1 0))], [.box A0, .box B0]⟩ rest (defQ A B pan))
    (hg : Enters P g) (hidle : ∀ p q w, CallsD P g #[p, q] .returning w fun e u' w' => e = .returned (.tuple #[]) ∧ u' = .returning ∧ w' = w)
    (hcaught : ∀ (X : Ctx) Z σ w (a : C) rest t cs vs p q, X.s0.length = 2 → pan = some (t, cs) → Core X Z σ (.box [a] :: .box B :: rest) w → σ[0]? = some p → σ[1]? = some q → All2 (DRel Z) cs vs.toList →
      CallsD P g #[p, q] (.panicking [{ v := .iface t (.agg vs), recovered := false }]) w fun e u' w' => e = .returned (.tuple #[]) ∧ u' = .panicking [{ v := .iface t (.agg vs), recovered := true }] ∧ ∃ Z' σ' rest, Core X Z' σ' (.box A1 :: .box B1 :: rest) w')
    (hr : ∀ rest, resRaw T [(2, .c (.ptr 0 0)), (3, .c (.ptr 1 0))] (.box A2 :: .box B2 :: rest) res = some rs) (hd : ∀ n, rs.map (V.cut n) = rs) :
    ACalls P f [v] [] (fun r' H' => r' = .ret rs ∧ H' = []) := by
  intro Z σ w vargs hH hZ hargs
  have hσ : σ = [] := List.length_eq_zero_iff.1 hH.len
  subst hσ
  have hlen := hargs.length
  have hvl : vargs.size = 1 := by simpa using hlen.symm
  let X : Ctx := { w0 := w, M := fun _ => False, Z0 := Z, s0 := [] }
  have hcore : Core X Z [] [] w := ⟨hH, hZ, rfl, rfl, rfl, Nat.le_refl _, fun _ _ _ => rfl, fun r o v b ho _ _ _ => by simp at ho, Zle.refl Z, fun _ _ _ h => .inl h, fun _ _ h => .inl h, fun _ _ h => h⟩
  have hM : Models ⟨T, [], nt, 0⟩ X [] Z [] ⟨[(0, v)], []⟩ { tmps := vargs ++ Array.replicate (fn.ntmps - vargs.size) undef, defers := [] } w := by
    refine ⟨hcore, fun t => ?_, by simp [hvl]; omega, rfl, rfl⟩
    simp only [Env.get]
    split
    · rename_i e; subst e
      obtain ⟨u, hu, hr⟩ := hargs.get (i := 0) rfl
      have hu' : vargs[0]? = some u := by simpa using hu
      have hget : (vargs ++ Array.replicate (fn.ntmps - vargs.size) undef).getD 0 undef = u := by
        rw [Array.getD_eq_getD_getElem?, Array.getElem?_append_left (by omega), hu']; rfl
      rw [hget]; exact hr
    · exact .dead
  refine calls_of_wp_defers hf hb (wp_seq (wp_mono (h0 X Z [] _ w hM) ?_))
  rintro ex a1 w1 ⟨Z1, σ1, S1, x1, q1, q2, rfl, rfl⟩
  cases q2
  have v2 := q1.env 2
  have v3 := q1.env 3
  have vl := q1.env 0
  simp only [Env.get] at v2 v3 vl
  have c1 := q1.core
  obtain ⟨p0, e0⟩ : ∃ p, σ1[0]? = some p := by
    have : 0 < σ1.length := by rw [c1.h.len]; simp
    exact ⟨_, List.getElem?_eq_getElem this⟩
  obtain ⟨p1, e1⟩ : ∃ p, σ1[1]? = some p := by
    have : 1 < σ1.length := by rw [c1.h.len]; simp
    exact ⟨_, List.getElem?_eq_getElem this⟩
  obtain ⟨b0, cr0, ty0, rfl, hb0, _⟩ := c1.h.obj 0 _ _ rfl e0
  obtain ⟨b1, cr1, ty1', rfl, hb1, _⟩ := c1.h.obj 1 _ _ rfl e1
  have t2 : a1.tmps.getD 2 undef = .pointer (some ⟨b0, 0, none⟩) := by
    generalize a1.tmps.getD 2 undef = x at v2
    cases v2 with | c h => cases h with | ptr h hb => rw [e0] at h; injection h with h; subst h; injection hb with hb; subst hb; rfl
  have t3 : a1.tmps.getD 3 undef = .pointer (some ⟨b1, 0, none⟩) := by
    generalize a1.tmps.getD 3 undef = x at v3
    cases v3 with | c h => cases h with | ptr h hb => rw [e1] at h; injection h with h; subst h; injection hb with hb; subst hb; rfl
  have ow0 := c1.own 0 _ _ _ rfl rfl e0 rfl
  have ow1 := c1.own 1 _ _ _ rfl rfl e1 rfl
  let X1 : Ctx := { w0 := w1, M := fun b => ∃ (i : Nat) (v : Value), σ1[i]? = some v ∧ blk v = some b, Z0 := Z1, s0 := σ1 }
  have hs2 : σ1.length = 2 := by rw [c1.h.len]; rfl
  have hcore1 : Core X1 Z1 σ1 [.box A0, .box B0] w1 := ⟨c1.h, c1.z, rfl, rfl, rfl, Nat.le_refl _, fun _ _ _ => rfl, fun r o v b _ _ hv hb => ⟨fun _ => ⟨r, v, hv, hb⟩, fun q => by
      have := (List.getElem?_eq_some_iff.1 hv).1
      exact absurd q (by show ¬ σ1.length ≤ r; omega)⟩, Zle.refl Z1, fun _ _ _ h => .inl h, fun _ _ h => .inl h, fun _ _ h => h⟩
  -- what comes out at last
  have fin : ∀ Z2 σ2 rest w2 (tmps : Array Value), Core X1 Z2 σ2 (.box A2 :: .box B2 :: rest) w2 → tmps.size = nt → VRel Z2 σ2 (.c (.ptr 0 0)) (tmps.getD 2 undef) → VRel Z2 σ2 (.c (.ptr 1 0)) (tmps.getD 3 undef) →
      ∃ v, (results fn tmps).run P w2 = .ok v w2 ∧ ∃ Z' σ' r H', Zle Z Z' ∧ HRel Z' σ' H' w2 ∧ Zok Z' w2 ∧ ResRel Z' σ' r (.returned v) ∧ (r = .ret rs ∧ H' = []) ∧
      (∀ (i : Nat) v, ([] : List Value)[i]? = some v → σ'[i]? = some v) ∧
      w2.os = w.os ∧ w2.tape = w.tape ∧ w2.output = w.output ∧ w.heap.size ≤ w2.heap.size ∧
      (∀ k, k < w.heap.size → (∀ (i : Nat) v, ([] : List Value)[i]? = some v → blk v ≠ some k) → w2.heap[k]? = w.heap[k]?) ∧
      (∀ b o v, Z'.cell b o = some v → Z.cell b o = some v ∨ w.heap.size ≤ b) ∧ (∀ b es, Z'.mp b = some es → Z.mp b = some es ∨ w.heap.size ≤ b) ∧
      (∀ (i : Nat) o v b, H'[i]? = some o → o.live = true → ([] : List O).length ≤ i → σ'[i]? = some v → blk v = some b → w.heap.size ≤ b) := by
    intro Z2 σ2 rest w2 tmps c2 hsz r2 r3
    have hM2 : Models ⟨T, [], nt, 2⟩ X1 [] Z2 σ2 ⟨[(2, .c (.ptr 0 0)), (3, .c (.ptr 1 0))], .box A2 :: .box B2 :: rest⟩ { tmps := tmps, defers := [] } w2 := by
      refine ⟨c2, fun t => ?_, hsz, hs2, rfl⟩
      simp only [Env.get]
      split
      · rename_i e; subst e; exact r2
      split
      · rename_i e; subst e; exact r3
      · exact .dead
    obtain ⟨vals, g1, g2⟩ := resRaw_ok (F := ⟨T, [], nt, 2⟩) hT hM2 (hr rest)
    have gd : All2 (VRel Z2 []) rs vals := by
      have := All2.map_left (f := V.cut 0) (g2.mono fun _ _ r => r.cut 0)
      rw [hd 0] at this
      simpa using this
    refine ⟨_, run_results fn tmps (by rw [hres]; exact g1), Z2, [], _, [], c1.z0.trans c2.z0, ⟨rfl, fun r o v h => by simp at h, fun r r' o o' v v' b _ h => by simp at h, fun r o v b h => by simp at h⟩, c2.z, ?_, ⟨rfl, rfl⟩, fun i v h => by simp at h, c2.os.trans c1.os, c2.tape.trans c1.tape, c2.output.trans c1.output, Nat.le_trans c1.size c2.size, ?_, ?_, ?_, fun i o v b h => by simp at h⟩
    · match rs, vals, gd with
      | [], [], _ => exact .ret (.tup rfl (fun i x v h => by simp at h))
      | [v], [u], .cons r _ => exact .ret r
      | v :: v' :: vs, u :: u' :: us, g => exact .ret (.tup (by have := g.length; simpa using this) (fun i x y hx hy => g.get2 hx (by simpa using hy)))
    · intro k hk _
      have k1 : k < w1.heap.size := Nat.lt_of_lt_of_le hk c1.size
      rw [c2.frame k k1 ?_, c1.frame k hk (fun q => q)]
      rintro ⟨i, u, hu, hbu⟩
      have hi : i < 2 := by rw [← hs2]; exact (List.getElem?_eq_some_iff.1 hu).1
      rcases (by omega : i = 0 ∨ i = 1) with rfl | rfl
      · rw [e0] at hu; injection hu with hu; subst hu; have hbk : b0 = k := by injection hbu
        have hle : w.heap.size ≤ b0 := ow0.2 (Nat.zero_le _)
        omega
      · rw [e1] at hu; injection hu with hu; subst hu; have hbk : b1 = k := by injection hbu
        have hle : w.heap.size ≤ b1 := ow1.2 (Nat.zero_le _)
        omega
    · intro b o u hu
      rcases c2.zc b o u hu with h | h
      · exact c1.zc b o u h
      · exact .inr (Nat.le_trans c1.size h)
    · intro b es hu
      rcases c2.zm b es hu with h | h
      · exact c1.zm b es h
      · exact .inr (Nat.le_trans c1.size h)
  -- the closure is made and deferred
  refine wp_seq (wp_region_lit ?_)
  refine wpList_cons_wanted (wanted_none rfl _) (Does.wp (w' := w1) (val := .func (.func g) #[] #[.pointer (some ⟨b0, 0, none⟩), .pointer (some ⟨b1, 0, none⟩)]) (.inl ?_) ?_)
  · have t2' : a1.tmps[2]?.getD undef = Value.pointer (some { block := b0, off := 0 }) := by simpa using t2
    have t3' : a1.tmps[3]?.getD undef = Value.pointer (some { block := b1, off := 0 }) := by simpa using t3
    simp [execOp, go_sem, Act.eval, t2', t3']
  refine wpList_cons_wanted (wanted_none rfl _) ?_
  have hnt1 := q1.nt
  have hdef : (execOp (a1.put (some 9) (.func (.func g) #[] #[.pointer (some ⟨b0, 0, none⟩), .pointer (some ⟨b1, 0, none⟩)])).eval ⟨none, .defer ⟨.value (.tmp 9), #[], #[]⟩, ty2, pos2, af, none⟩).run P w1 = .ok (.defer ⟨.fn (.func g) #[.pointer (some ⟨b0, 0, none⟩), .pointer (some ⟨b1, 0, none⟩)], #[]⟩) w1 := by
    have h9' : 9 < a1.tmps.size := by rw [hnt1]; exact h9
    simp [execOp, go_sem, Act.eval, Act.put, h9', resolve]
  unfold Oper.wp
  rw [hdef, Oper.upon_defer]
  refine wpList_nil ?_
  have hM3 : Models ⟨T, [], nt, 2⟩ X1 [⟨.fn (.func g) #[.pointer (some ⟨b0, 0, none⟩), .pointer (some ⟨b1, 0, none⟩)], #[]⟩] Z1 σ1 ⟨[(0, v), (2, .c (.ptr 0 0)), (3, .c (.ptr 1 0))], [.box A0, .box B0]⟩ (({ a1.put (some 9) (.func (.func g) #[] #[.pointer (some ⟨b0, 0, none⟩), .pointer (some ⟨b1, 0, none⟩)]) with defers := ⟨.fn (.func g) #[.pointer (some ⟨b0, 0, none⟩), .pointer (some ⟨b1, 0, none⟩)], #[]⟩ :: (a1.put (some 9) (.func (.func g) #[] #[.pointer (some ⟨b0, 0, none⟩), .pointer (some ⟨b1, 0, none⟩)])).defers }).put none undef) w1 := by
    refine ⟨hcore1, fun t => ?_, by simpa [Act.put] using hnt1, hs2, by simp [Act.put, q1.df]⟩
    have hgo : ∀ t, t ≠ 9 → (a1.tmps.setIfInBounds 9 (.func (.func g) #[] #[.pointer (some ⟨b0, 0, none⟩), .pointer (some ⟨b1, 0, none⟩)])).getD t undef = a1.tmps.getD t undef := by
      intro t ht
      simp [Array.getElem?_setIfInBounds_ne (Ne.symm ht)]
    by_cases ht : t = 9
    · subst ht; exact .dead
    · have := q1.env t
      show VRel Z1 σ1 _ ((a1.tmps.setIfInBounds 9 _).getD t undef)
      rw [hgo t ht]; exact this
  have hinv : ∀ w' : World, (invoke (.fn (.func g) #[.pointer (some ⟨b0, 0, none⟩), .pointer (some ⟨b1, 0, none⟩)]) #[]).run P w' = .ok (.enter g #[.pointer (some ⟨b0, 0, none⟩), .pointer (some ⟨b1, 0, none⟩)]) w' := fun w' => by
    show (callFunc g (#[] ++ #[.pointer (some ⟨b0, 0, none⟩), .pointer (some ⟨b1, 0, none⟩)])).run P w' = _
    have := hg #[.pointer (some ⟨b0, 0, none⟩), .pointer (some ⟨b1, 0, none⟩)] w'
    simpa using this
  refine wp_mono (h1 X1 _ Z1 σ1 _ w1 hM3) ?_
  rintro ex a4 w4 ⟨Z4, σ4, S4, x4, r1, r2, r3, r4, r5⟩
  have s0 : σ4[0]? = some (.pointer (some ⟨b0, 0, none⟩)) := r1.core.pre 0 _ e0
  have s1 : σ4[1]? = some (.pointer (some ⟨b1, 0, none⟩)) := r1.core.pre 1 _ e1
  have y2 := r1.env 2
  have y3 := r1.env 3
  rw [r3] at y2
  rw [r4] at y3
  cases pan with
  | none =>
    obtain ⟨rfl, rest', r6⟩ := r5
    cases r2
    obtain ⟨rfl, rfl⟩ := hN rfl
    show Leaves P fn a4.tmps _ a4.defers .returning w4
    rw [r1.df]
    refine leaves_cons (by simp) (hinv _) ((hidle _ _ _).mono ?_)
    rintro e u' w' ⟨rfl, rfl, rfl⟩
    have c4 := r1.core
    rw [r6] at c4
    exact fin Z4 σ4 rest' _ a4.tmps c4 r1.nt y2 y3
  | some pp =>
    obtain ⟨t, cs⟩ := pp
    obtain ⟨rfl, a, b, rest', r6, rfl⟩ := r5
    obtain ⟨rfl, rfl⟩ := hS _ rfl
    have c4 := r1.core
    rw [r6] at c4
    cases r2 with
    | panic hp =>
      show Leaves P fn a4.tmps _ a4.defers (.panicking _) w4
      rw [r1.df]
      refine leaves_cons (by simp) (hinv _) ((hcaught X1 Z4 σ4 w4 a rest' t cs _ _ _ hs2 rfl c4 s0 s1 hp).mono ?_)
      rintro e u' w' ⟨rfl, rfl, Z5, σ5, rest5, c5⟩
      have u0 : σ5[0]? = σ4[0]? := by rw [s0]; exact c5.pre 0 _ e0
      have u1 : σ5[1]? = σ4[1]? := by rw [s1]; exact c5.pre 1 _ e1
      exact fin Z5 σ5 rest5 w' a4.tmps c5 r1.nt (y2.ptrS u0) (y3.ptrS u1)
end
end Go.Proofs.YtmkacifjegnehaaDoor.Ab
