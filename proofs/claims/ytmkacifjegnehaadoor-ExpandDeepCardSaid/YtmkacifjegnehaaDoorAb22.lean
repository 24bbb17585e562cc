/-
  THE INTERPRETER AS RULES: what a piece of code comes to, step by step. No program is named.
-/
import Derived.Test.YtmkacifjegnehaaDoorAb21
namespace Go.Proofs.YtmkacifjegnehaaDoor.Ab
open Go

/-- The code comes to an end, of which K holds. -/
def Runs (call : CallF) (F : Fp) (kA : Nat → Bool) (L : Nat → Lv) (pl : Plans) (c : Code) (e : List (Nat × V)) (H : List O) (K : Ex → List (Nat × V) → List O → Prop) : Prop :=
  ∃ n x e' H', execX call F kA L pl n c e H = some (x, e', H') ∧ K x e' H'
def normK (K : List (Nat × V) → List O → Prop) (K' : Ex → List (Nat × V) → List O → Prop) : Ex → List (Nat × V) → List O → Prop
  | .normal, e, H => K e H
  | x, e, H => K' x e H
section
variable {call : CallF} {F : Fp} {kA : Nat → Bool} {L : Nat → Lv} {pl : Plans} {c d : Code} {e e' : List (Nat × V)} {H H' : List O} {K K' : Ex → List (Nat × V) → List O → Prop}
theorem Runs.mono (h : Runs call F kA L pl c e H K) (hk : ∀ x e H, K x e H → K' x e H) : Runs call F kA L pl c e H K' := by
  obtain ⟨n, x, e', H', h1, h2⟩ := h
  exact ⟨n, x, e', H', h1, hk _ _ _ h2⟩
theorem Runs.skip (h : K .normal e H) : Runs call F kA L pl .skip e H K := ⟨1, _, _, _, rfl, h⟩
theorem Runs.ret (h : K .ret e H) : Runs call F kA L pl .ret e H K := ⟨1, _, _, _, rfl, h⟩
theorem Runs.exit {id : Nat} (h : K (.exit id) e H) : Runs call F kA L pl (.exit id) e H K := ⟨1, _, _, _, rfl, h⟩
theorem Runs.seq (h : Runs call F kA L pl c e H (normK (fun e H => Runs call F kA L pl d e H K) K)) : Runs call F kA L pl (.seq c d) e H K := by
  obtain ⟨n, x, e', H', h1, h2⟩ := h
  cases x with
  | normal =>
    obtain ⟨n2, x2, e2, H2, h3, h4⟩ := h2
    exact ⟨max n n2 + 1, x2, e2, H2, by simp only [execX, execX_more h1 (max n n2) (by omega), execX_more h3 (max n n2) (by omega)], h4⟩
  | exit id => exact ⟨n + 1, _, _, _, by simp only [execX, h1], h2⟩
  | ret => exact ⟨n + 1, _, _, _, by simp only [execX, h1], h2⟩
  | panic t cs => exact ⟨n + 1, _, _, _, by simp only [execX, h1], h2⟩
theorem Runs.region {id : Nat} {ops : Array Oper} {rs : List Nat} (h : runX call F kA ops.toList ops.toList e H = some (.go rs e' H')) (k : K .normal (endE F.n0 e' H' (L id)).1 (endE F.n0 e' H' (L id)).2) : Runs call F kA L pl (.region id ops false) e H K := ⟨1, _, _, _, by simp only [execX, h, endX], k⟩
theorem Runs.region_pan {id : Nat} {ops : Array Oper} {t : Nat} {cs : List D} (h : runX call F kA ops.toList ops.toList e H = some (.pan t cs e' H')) (k : K (.panic t cs) e' H') : Runs call F kA L pl (.region id ops false) e H K := ⟨1, _, _, _, by simp only [execX, h, endX], k⟩
theorem Runs.draw {id : Nat} {ops : Array Oper} {bl nm : List Nat} {segs : List Seg} (hp : pl id = some (bl, nm, segs)) {rs : List Nat} (h : runD call F kA ops.toList bl none segs e H = some (.go rs e' H')) (k : K .normal (endE F.n0 e' H' (L id)).1 (endE F.n0 e' H' (L id)).2) : Runs call F kA L pl (.region id ops true) e H K := ⟨1, _, _, _, by simp only [execX, hp, h, endX], k⟩
theorem Runs.draw_pan {id : Nat} {ops : Array Oper} {bl nm : List Nat} {segs : List Seg} (hp : pl id = some (bl, nm, segs)) {t : Nat} {cs : List D} (h : runD call F kA ops.toList bl none segs e H = some (.pan t cs e' H')) (k : K (.panic t cs) e' H') : Runs call F kA L pl (.region id ops true) e H K := ⟨1, _, _, _, by simp only [execX, hp, h, endX], k⟩
theorem Runs.cond {t : Nat} {b : Bool} (hb : Env.get e t = .c (.d (.bo b))) (h1 : b = true → Runs call F kA L pl c e H K) (h2 : b = false → Runs call F kA L pl d e H K) : Runs call F kA L pl (.cond (.tmp t) c d) e H K := by
  cases b with
  | true => obtain ⟨n, x, e', H', h3, h4⟩ := h1 rfl; exact ⟨n + 1, x, e', H', by simp only [execX, hb]; exact h3, h4⟩
  | false => obtain ⟨n, x, e', H', h3, h4⟩ := h2 rfl; exact ⟨n + 1, x, e', H', by simp only [execX, hb]; exact h3, h4⟩
def blockK (id : Nat) (K : Ex → List (Nat × V) → List O → Prop) : Ex → List (Nat × V) → List O → Prop
  | .exit i, e, H => if i = id then K .normal e H else K (.exit i) e H
  | x, e, H => K x e H
theorem Runs.block {id : Nat} (h : Runs call F kA L pl c e H (blockK id K)) : Runs call F kA L pl (.block id c) e H K := by
  obtain ⟨n, x, e', H', h1, h2⟩ := h
  cases x with
  | exit i =>
    simp only [blockK] at h2
    by_cases hi : i = id
    · rw [if_pos hi] at h2; exact ⟨n + 1, _, _, _, by simp only [execX, h1, if_pos hi], h2⟩
    · rw [if_neg hi] at h2; exact ⟨n + 1, _, _, _, by simp only [execX, h1, if_neg hi], h2⟩
  | normal => exact ⟨n + 1, _, _, _, by simp only [execX, h1], h2⟩
  | ret => exact ⟨n + 1, _, _, _, by simp only [execX, h1], h2⟩
  | panic t cs => exact ⟨n + 1, _, _, _, by simp only [execX, h1], h2⟩
theorem Runs.loop (h : Runs call F kA L pl c e H (normK (fun e' H' => Runs call F kA L pl (.loop c) (tidy F.n0 (mergeE e' (keysE e)) H').1 (tidy F.n0 (mergeE e' (keysE e)) H').2 K) K)) : Runs call F kA L pl (.loop c) e H K := by
  obtain ⟨n, x, e', H', h1, h2⟩ := h
  cases x with
  | normal =>
    obtain ⟨n2, x2, e2, H2, h3, h4⟩ := h2
    exact ⟨max n n2 + 1, x2, e2, H2, by simp only [execX, execX_more h1 (max n n2) (by omega), execX_more h3 (max n n2) (by omega)], h4⟩
  | exit id => exact ⟨n + 1, _, _, _, by simp only [execX, h1], h2⟩
  | ret => exact ⟨n + 1, _, _, _, by simp only [execX, h1], h2⟩
  | panic t cs => exact ⟨n + 1, _, _, _, by simp only [execX, h1], h2⟩
/-- A loop, its states in a family, a measure that falls. -/
theorem Runs.loop_inv {ι : Type} (env : ι → List (Nat × V)) (heap : ι → List O) (good : ι → Prop) (m : ι → Nat) (hstep : ∀ i, good i → Runs call F kA L pl c (env i) (heap i) (normK (fun e H => ∃ j, m j < m i ∧ good j ∧ tidy F.n0 (mergeE e (keysE (env i))) H = (env j, heap j)) K)) (i : ι) (h : good i) : Runs call F kA L pl (.loop c) (env i) (heap i) K := by
  have key : ∀ n i, m i < n → good i → Runs call F kA L pl (.loop c) (env i) (heap i) K := by
    intro n
    induction n with
    | zero => intro i hi; omega
    | succ n ih =>
      intro i hi hg
      refine Runs.loop ((hstep i hg).mono fun x e H hx => ?_)
      cases x with
      | normal =>
        obtain ⟨j, h1, h2, h3⟩ := hx
        show Runs call F kA L pl (.loop c) (tidy F.n0 (mergeE e (keysE (env i))) H).1 (tidy F.n0 (mergeE e (keysE (env i))) H).2 K
        rw [h3]
        exact ih j (by omega) h2
      | exit id => exact hx
      | ret => exact hx
      | panic t cs => exact hx
  exact key (m i + 1) i (Nat.lt_succ_self _) h
/-- What the end of a body says of the call. -/
def finK (I : Ip) (g : Nat) (fn : Func) (n0 : Nat) (r : Res × List O) : Ex → List (Nat × V) → List O → Prop := fun x e H => finX I g fn n0 (some (x, e, H)) = some r
theorem callW_runs {I : Ip} {g : Nat} {args : List V} {H : List O} {r : Res × List O} {fn : Func} (hf : I.fns g = some fn) {c : Code} (hb : fn.body = some c) (hp : I.prim g args H = none) {nt n0 : Nat} (hnt : fn.ntmps = nt) (hn0 : H.length = n0) (ha : Nat.ble args.length nt = true)
    {T : Nat → Option TI} (hT : I.T = T) {rw' : List Nat} (hrw : I.rw g = rw') {L : Nat → Lv} (hL : I.long g = L) {kA : Nat → Bool} (hkA : I.keepA = kA) (h : Runs (callW I) ⟨T, rw', nt, n0⟩ kA L (I.plan g) c (args0 0 args) H (finK I g fn n0 r)) : callW I g args H = some r := by
  subst hnt hn0 hT hrw hL hkA
  obtain ⟨n, x, e', H', h1, h2⟩ := h
  refine callW_body (n := n) hp ?_
  unfold bodyX
  simp only [hf, hb, ha, h1]
  exact h2
end
end Go.Proofs.YtmkacifjegnehaaDoor.Ab
