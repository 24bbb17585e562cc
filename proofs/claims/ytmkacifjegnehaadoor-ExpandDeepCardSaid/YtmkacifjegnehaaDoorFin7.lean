/-
  Inlines, with its deferred closure that recovers: what the calls of it come to.
-/
import Derived.Test.YtmkacifjegnehaaDoorM15
import Derived.Test.YtmkacifjegnehaaDoorAb25
import Derived.Defers
import Derived.Recover
namespace Go.Proofs.YtmkacifjegnehaaDoor
open Go Go.Proofs Go.Proofs.YtmkacifjegnehaaDoor.Ab
set_option linter.unusedSimpArgs false
set_option linter.unusedVariables false
set_option maxRecDepth 10000
set_option maxHeartbeats 8000000
section
variable {P : Program} {F : Fp} {X : Ctx} {df : List Deferred} {Q : Ex → St → Prop} {call : CallF} {kA : Nat → Bool} {L : Nat → Lv} {e : List (Nat × V)} {H : List O} {K : Ex → List (Nat × V) → List O → Prop}
/-- One statement of a row, run; the rest is left as it is. -/
theorem sat_then (hT : Ab.Tok P F.T) (hs : SoundCall P call) {a b d : Code} (h : Runs call F kA L (fun _ => none) (.seq a b) e H K) (hb : ∀ e H, Runs call F kA L (fun _ => none) b e H K → Sat P F X df ⟨e, H⟩ d Q) (hk : ∀ x e H, x ≠ .normal → K x e H → Q x ⟨e, H⟩) : Sat P F X df ⟨e, H⟩ (.seq a d) Q := by
  obtain ⟨n, x, e', H', h, hK⟩ := h
  cases n with
  | zero => cases h
  | succ n =>
    simp only [execX] at h
    split at h
    · rename_i e1 H1 hc
      exact Sat_seq (execX_nd hT hs n a e H _ e1 H1 hc _ (hb e1 H1 ⟨n, x, e', H', h, hK⟩))
    · rename_i r hr
      refine Sat_seq (execX_nd hT hs n a e H x e' H' h _ ?_)
      have hx : x ≠ .normal := fun q => by subst q; exact hr e' H' h
      cases x with
      | normal => exact absurd rfl hx
      | exit id => exact hk _ _ _ hx hK
      | ret => exact hk _ _ _ hx hK
      | panic t cs => exact hk _ _ _ hx hK
theorem sat_last (hT : Ab.Tok P F.T) (hs : SoundCall P call) {a d : Code} (h : Runs call F kA L (fun _ => none) a e H K) (hb : ∀ e H, K .normal e H → Sat P F X df ⟨e, H⟩ d Q) (hk : ∀ x e H, x ≠ .normal → K x e H → Q x ⟨e, H⟩) : Sat P F X df ⟨e, H⟩ (.seq a d) Q := by
  obtain ⟨n, x, e', H', h, hK⟩ := h
  refine Sat_seq (execX_nd hT hs n a e H x e' H' h _ ?_)
  cases x with
  | normal => exact hb _ _ hK
  | exit id => exact hk _ _ _ (by simp) hK
  | ret => exact hk _ _ _ (by simp) hK
  | panic t cs => exact hk _ _ _ (by simp) hK
end
/-- What the body comes to. -/
def out7 : Xr (List Uni) → List Uni
  | .ok out _ => out
  | .pan _ _ _ => []
def pan7 : Xr (List Uni) → Option (Nat × List D)
  | .ok _ _ => none
  | .pan c z _ => some (26, [.int .i64 c, .int .i64 z])
abbrev z26 : List C := [.d (.int .i64 0), .d (.int .i64 0)]
def Q7 (r : Xr (List Uni)) : Ex → St → Prop := defQ [.d (.sl ((out7 r).map uniD))] z26 (pan7 r)
def pl7 (k : Nat) : Option (List Nat × List Nat × List Seg) := if k = 20 then some ([], [], [.fork [2, 3] 4 [[0, 1, 2, 3], [0, 2, 1, 3], [1, 0, 2, 3]]]) else none
theorem tail7 {out : List Uni} {m : MS} : Runs (callW ip) ⟨tab, [], 53, 2⟩ keepA L7 pl7 d7 [(2, .c (.ptr 0 0)), (3, .c (.ptr 1 0))] [.box [.row 3], box26, mBox7 m, .row 46 21 out.length (rowC uniD out), mMap m] (fun x e H => x = .ret ∧ Q7 (.ok out m) x ⟨e, H⟩) := by
  refine Runs.seq ?_
  refine Runs.drw rfl (by simp only [go_sem, seval, runFork]; rfl) (by simp only [L7, go_sem, seval]; rfl) ?_
  refine Runs.ret ?_
  exact ⟨rfl, rfl, rfl, rfl, _, rfl⟩
theorem sat7 (hs : SoundCall Tryd.prog (callW ip)) {X : Ctx} {df : List Deferred} {n : Nat} (st : ExpSH n) {l : List Uni} {r : Xr (List Uni)} (h : inlX n l = some r) : Sat Tryd.prog ⟨tab, [], 53, 2⟩ X df ⟨[(0, slV uniD l), (2, .c (.ptr 0 0)), (3, .c (.ptr 1 0))], [.box [.nilS], box26]⟩ (.seq c7a (.seq c7b (.seq c7c d7))) (Q7 r) := by
  have hk : ∀ x e H, x ≠ .normal → K7 r x e H → Q7 r x ⟨e, H⟩ := by
    rintro x e H hx ⟨h1, h2, h3⟩
    refine ⟨h1, h2, ?_⟩
    cases r with
    | ok out m => exact absurd h3.1 hx
    | pan c z m => obtain ⟨h3, rest, h4⟩ := h3; exact ⟨h3, _, _, rest, h4, rfl⟩
  refine sat_then tab_ok hs (R7 st h) (fun e H h => sat_then tab_ok hs h (fun e H h => sat_last tab_ok hs h ?_ hk) hk) hk
  rintro e H ⟨h1, h2, h3⟩
  cases r with
  | pan c z m => cases h3.1
  | ok out m =>
    obtain ⟨_, rfl⟩ := h3
    obtain ⟨k, x, e', H', g1, rfl, g2⟩ := tail7 (out := out) (m := m)
    have hsat : Sat Tryd.prog ⟨tab, [], 53, 2⟩ X df ⟨mergeE e [2, 3], [.box [.row 3], box26, mBox7 m, .row 46 21 out.length (rowC uniD out), mMap m]⟩ d7 (fun x S => x = .ret ∧ Q7 (.ok out m) x S) := by
      refine execX_ok (keepA := keepA) (L := L7) (pl := pl7) follows tab_ok hs k d7 _ _ .ret e' H' (by kernel_rfl) ?_ _ ?_ ⟨rfl, g2⟩
      · simp only [mergeE, h1, h2]; exact g1
      · intro t cs S S' _ q; cases q.1
    intro Z σ a w hM
    obtain ⟨Z', _, hM'⟩ := WeakS.merge [2, 3] e _ Z σ a w hM
    refine wp_mono (hsat Z' σ a w hM') ?_
    rintro ex a' w' ⟨Z2, σ2, S2, x2, q1, q2, q3, q4⟩
    exact ⟨Z2, σ2, S2, x2, q1, q2, q4⟩
/-! ### The closure -/
theorem idle15 (p q : Value) (w : World) : CallsD Tryd.prog 14 #[p, q] .returning w fun e u' w' => e = .returned (.tuple #[]) ∧ u' = .returning ∧ w' = w := by
  refine callsD_of_wpS Tryd.func14 rfl fun c₀ cs hu => ?_
  apply wpS_seq
  apply wpS_region
  simp [wpOpsS, go_sem, recoverD, hu, Tryd.ntmps14, Exit.thenS]
  refine wpS_of_wp ?_
  apply wp_block
  apply wp_seq
  apply wp_region
  simp [wpOps, wpList, Oper.wp, go_sem, Exit.then]
  refine .inl (wp_cond_true (by simp [Act.eval]) ?_)
  apply wp_region
  simp [wpOps, wpList, Oper.wp, go_sem, Exit.inBlock, bodyPostS, results, Tryd.results14]
  cases c₀
  simp_all
theorem ta26 (v : Value) (w : World) : (Instr.typeAssert (.iface 26 v) 20 26 true).run Tryd.prog w = .ok (.tuple #[v, .bool true]) w := by
  obtain ⟨arr, hu, _⟩ := (tab_ok 26 _ rfl).und
  simp [Instr.typeAssert, run_underlying hu]
noncomputable def c15 : Code := match sndC (Tryd.f14.body.getD .skip) with
  | .block _ (.seq _ (.cond _ _ (.seq _ (.cond _ x _)))) => x
  | c => c
def L15 (k : Nat) : Lv := if k = 6 then ([0, 1, 3], []) else ([0, 1], [])
def pl15 (k : Nat) : Option (List Nat × List Nat × List Seg) := if k = 7 then some ([], [], [.fork [0, 1] 3 [[0, 1, 2], [1, 0, 2]]]) else none
theorem run15 {x0 : C} {c z : Int} : Runs (callW ip) ⟨tab, [], 12, 2⟩ keepA L15 pl15 c15 [(0, .c (.ptr 0 0)), (1, .c (.ptr 1 0)), (10, .agg [.d (.int .i64 c), .d (.int .i64 z)])] [.box [x0], box26] (fun x e H => x = .normal ∧ ∃ rest, H = .box [.nilS] :: .box [.d (.int .i64 c), .d (.int .i64 z)] :: rest) := by
  refine Runs.seq ?_
  refine Runs.reg (by simp only [go_sem, seval]; rfl) (by simp only [L15, go_sem, seval]; rfl) ?_
  refine Runs.drw rfl (by simp only [go_sem, seval, runFork]; rfl) (by simp only [L15, go_sem, seval]; rfl) ?_
  exact ⟨rfl, _, rfl⟩
theorem caught15 (hs : SoundCall Tryd.prog (callW ip)) {X : Ctx} {Z : Zt} {σ : List Value} {w : World} {x0 : C} {rest : List O} {c z : Int} {vs : Array Value} {p q : Value} (hX : X.s0.length = 2) (hc : Core X Z σ (.box [x0] :: box26 :: rest) w) (hp : σ[0]? = some p) (hq : σ[1]? = some q) (hv : All2 (DRel Z) [.int .i64 c, .int .i64 z] vs.toList) :
    CallsD Tryd.prog 14 #[p, q] (.panicking [{ v := .iface 26 (.agg vs), recovered := false }]) w fun e u' w' => e = .returned (.tuple #[]) ∧ u' = .panicking [{ v := .iface 26 (.agg vs), recovered := true }] ∧ ∃ Z' σ' rest, Core X Z' σ' (.box [.nilS] :: .box [.d (.int .i64 c), .d (.int .i64 z)] :: rest) w' := by
  refine callsD_of_wpS Tryd.func14 rfl fun c₀ cs hu => ?_
  apply wpS_seq
  apply wpS_region
  simp [wpOpsS, go_sem, recoverD, hu, Tryd.ntmps14, Exit.thenS]
  refine wpS_of_wp ?_
  apply wp_block
  apply wp_seq
  apply wp_region
  simp [wpOps, wpList, Oper.wp, go_sem, Exit.then]
  refine .inl (wp_cond_false (by simp [Act.eval]) ?_)
  apply wp_seq
  refine wp_region_lit ?_
  refine wpList_cons_wanted (wanted_none rfl _) (Does.wp (w' := w) (val := .tuple #[.agg vs, .bool true]) (.inl ?_) ?_)
  · have hev : (Act.mk (#[p, q] ++ ((Array.replicate 10 undef).setIfInBounds 3 (Value.iface 26 (Value.agg vs))).setIfInBounds 5 (Value.bool false)) []).eval (.tmp 5) = .iface 26 (.agg vs) := by simp [Act.eval]
    simp only [execOp, hev, Sem.run_bind]
    rw [ta26]
    rfl
  refine wpList_cons_wanted (wanted_none rfl _) (Does.wp (w' := w) (val := .bool true) (.inl (by simp [execOp, go_sem])) ?_)
  refine wpList_cons_wanted (wanted_none rfl _) (Does.wp (w' := w) (val := .agg vs) (.inl (by simp [execOp, go_sem])) ?_)
  refine wpList_nil ?_
  simp only [Exit.then]
  refine wp_cond_true (by simp [Act.eval, Act.put]) ?_
  have ht := hc.take 2 (by omega)
  have hM : Models ⟨tab, [], 12, 2⟩ X [] Z (σ.take 2) ⟨[(0, .c (.ptr 0 0)), (1, .c (.ptr 1 0)), (10, .agg [.d (.int .i64 c), .d (.int .i64 z)])], [.box [x0.cut 2], box26]⟩ (((({ tmps := #[p, q] ++ ((Array.replicate 10 undef).setIfInBounds 3 (Value.iface 26 (Value.agg vs))).setIfInBounds 5 (Value.bool false), defers := [] } : Act).put (some 8) (Value.tuple #[Value.agg vs, Value.bool true])).put (some 9) (Value.bool true)).put (some 10) (Value.agg vs)) w := by
    refine ⟨ht, fun t => ?_, by simp [Act.put], hX, rfl⟩
    by_cases h0 : t = 0
    · subst h0
      obtain ⟨b, _, _, e, _, _⟩ := hc.h.obj 0 _ _ rfl hp
      subst e
      exact .c (.ptr (take_get (by omega) hp) rfl)
    by_cases h1 : t = 1
    · subst h1
      obtain ⟨b, _, _, e, _, _⟩ := hc.h.obj 1 _ _ rfl hq
      subst e
      exact .c (.ptr (take_get (by omega) hq) rfl)
    by_cases h10 : t = 10
    · subst h10
      exact .agg (cs := [.d (.int .i64 c), .d (.int .i64 z)]) (by
        match vs, hv with
        | ⟨l⟩, hv => cases hv with | cons r1 hv => cases hv with | cons r2 hv => cases hv; exact .cons (.d r1) (.cons (.d r2) .nil))
    simp only [Env.get]
    rw [if_neg (Ne.symm h0), if_neg (Ne.symm h1), if_neg (Ne.symm h10)]
    exact .dead
  obtain ⟨k, x, e', H', g1, g2⟩ := run15 (x0 := x0.cut 2) (c := c) (z := z)
  refine wp_mono (execX_ok follows tab_ok hs k c15 _ _ x e' H' (by kernel_rfl) g1 (fun x S => x = .normal ∧ ∃ rest, S.objs = .box [.nilS] :: .box [.d (.int .i64 c), .d (.int .i64 z)] :: rest) (fun t cs S S' _ q => by cases q.1) g2 Z _ _ w hM) ?_
  rintro ex a' w' ⟨Z2, σ2, S2, x2, q1, q2, q3, rest2, q4⟩
  subst q3
  cases q2
  have := q1.core
  rw [q4] at this
  have hdf := q1.df
  refine ⟨hdf, _, rfl, _, ?_, rfl, rfl, Z2, σ2, rest2, this⟩
  simp [results, Tryd.results14]
def res7 (r : Xr (List Uni)) : List V := match r with
  | .ok out _ => [slV uniD out, .agg z26]
  | .pan c z _ => [.c .nilS, .agg [.d (.int .i64 c), .d (.int .i64 z)]]
theorem first7 {X : Ctx} {l : List Uni} (hs : SoundCall Tryd.prog (callW ip)) : Sat Tryd.prog ⟨tab, [], 53, 0⟩ X [] ⟨[(0, slV uniD l)], []⟩ (fstC b7) (fun x S => x = .normal ∧ S = ⟨[(0, slV uniD l), (2, .c (.ptr 0 0)), (3, .c (.ptr 1 0))], [.box [.nilS], .box z26]⟩) := by
  have hrun : Runs (callW ip) ⟨tab, [], 53, 0⟩ keepA L7 (fun _ => none) (fstC b7) [(0, slV uniD l)] [] (fun x e H => x = .normal ∧ e = [(0, slV uniD l), (2, .c (.ptr 0 0)), (3, .c (.ptr 1 0))] ∧ H = [.box [.nilS], .box z26]) := by
    refine Runs.reg (by simp only [go_sem, seval]; rfl) (by simp only [L7, long7, go_sem, seval]; rfl) ?_
    exact ⟨rfl, rfl, rfl⟩
  obtain ⟨k, x, e', H', g1, rfl, rfl, rfl⟩ := hrun
  exact execX_nd tab_ok hs k (fstC b7) _ _ _ _ _ g1 _ ⟨rfl, rfl⟩
theorem A7 (hs : SoundCall Tryd.prog (callW ip)) {n : Nat} (st : ExpSH n) {l : List Uni} {r : Xr (List Uni)} (h : inlX n l = some r) : ACalls Tryd.prog 7 [slV uniD l] [] (fun r' H' => r' = .ret (res7 r) ∧ H' = []) := by
  refine acalls_defer (A := [.d (.sl ((out7 r).map uniD))]) (B := z26) (pan := pan7 r) (A1 := [.nilS]) (B1 := match r with | .ok _ _ => z26 | .pan c z _ => [.d (.int .i64 c), .d (.int .i64 z)]) (A2 := match r with | .ok out _ => [.d (.sl (out.map uniD))] | .pan _ _ _ => [.nilS]) (B2 := match r with | .ok _ _ => z26 | .pan c z _ => [.d (.int .i64 c), .d (.int .i64 z)])
    (r0 := fstC b7) (rest := .seq c7a (.seq c7b (.seq c7c d7))) Tryd.func7 rfl tab_ok Tryd.ntmps7 (by decide) rfl ?_ ?_ (fun X => first7 hs) (fun X df => sat7 hs st h) ?_ (fun p q w => idle15 p q w) ?_ ?_ ?_
  · cases r <;> simp [pan7, out7]
  · cases r <;> simp [pan7]
  · exact enters_of Tryd.func14 rfl rfl
  · intro X Z σ w a rest t cs vs p q hX hp hc h0 h1 hv
    cases r with
    | ok out m => cases hp
    | pan c z m => cases hp; exact caught15 hs hX hc h0 h1 hv
  · intro rest
    cases r <;> rfl
  · intro n
    cases r <;> rfl
end Go.Proofs.YtmkacifjegnehaaDoor
