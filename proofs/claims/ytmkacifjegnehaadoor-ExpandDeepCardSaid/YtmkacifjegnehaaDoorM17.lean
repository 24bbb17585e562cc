import Derived.Test.YtmkacifjegnehaaDoorM16
namespace Go.Proofs.YtmkacifjegnehaaDoor
open Go Go.Proofs Go.Proofs.YtmkacifjegnehaaDoor.Ab
set_option linter.unusedSimpArgs false
set_option linter.unusedVariables false
set_option maxRecDepth 10000
set_option maxHeartbeats 8000000
theorem Ab.Runs.assoc {call : CallF} {F : Fp} {kA : Nat → Bool} {L : Nat → Lv} {pl : Plans} {a b c : Code} {e : List (Nat × V)} {H : List O} {K : Ex → List (Nat × V) → List O → Prop} (h : Runs call F kA L pl (.seq (.seq a b) c) e H K) : Runs call F kA L pl (.seq a (.seq b c)) e H K := by
  obtain ⟨n, x, e', H', h, hK⟩ := h
  cases n with
  | zero => cases h
  | succ n =>
    cases n with
    | zero => simp [execX] at h
    | succ n =>
      simp only [execX] at h
      cases ha : execX call F kA L pl n a e H with
      | none => rw [ha] at h; cases h
      | some y =>
        obtain ⟨y, e1, H1⟩ := y
        rw [ha] at h
        refine Runs.seq ⟨n, y, e1, H1, ha, ?_⟩
        cases y with
        | normal =>
          simp only [] at h
          cases hb : execX call F kA L pl n b e1 H1 with
          | none => rw [hb] at h; cases h
          | some z =>
            obtain ⟨z, e2, H2⟩ := z
            rw [hb] at h
            refine Runs.seq ⟨n, z, e2, H2, hb, ?_⟩
            cases z with
            | normal => exact ⟨n + 1, x, e', H', by simp only [execX]; exact h, hK⟩
            | exit id => cases h; exact hK
            | ret => cases h; exact hK
            | panic t cs => cases h; exact hK
        | exit id => cases h; exact hK
        | ret => cases h; exact hK
        | panic t cs => cases h; exact hK
theorem Ab.Runs.assoc3 {call : CallF} {F : Fp} {kA : Nat → Bool} {L : Nat → Lv} {pl : Plans} {a b c d : Code} {e : List (Nat × V)} {H : List O} {K : Ex → List (Nat × V) → List O → Prop} (h : Runs call F kA L pl (.seq (.seq a b) (.seq c d)) e H K) : Runs call F kA L pl (.seq a (.seq (.seq b c) d)) e H K := by
  obtain ⟨n, x, e', H', h, hK⟩ := h
  cases n with
  | zero => cases h
  | succ n =>
    cases n with
    | zero => simp [execX] at h
    | succ n =>
      rw [execX] at h
      cases ha : execX call F kA L pl (n + 1) (.seq a b) e H with
      | none => rw [ha] at h; cases h
      | some y =>
        obtain ⟨y, e1, H1⟩ := y
        rw [ha] at h
        simp only [execX] at ha
        cases ha2 : execX call F kA L pl n a e H with
        | none => rw [ha2] at ha; cases ha
        | some z =>
          obtain ⟨z, e2, H2⟩ := z
          rw [ha2] at ha
          refine Runs.seq ⟨n, z, e2, H2, ha2, ?_⟩
          cases z with
          | normal =>
            simp only [] at ha
            have key : Runs call F kA L pl (.seq b (.seq c d)) e2 H2 K := by
              refine Runs.seq ⟨n, y, e1, H1, ha, ?_⟩
              cases y with
              | normal => exact ⟨n + 1, x, e', H', h, hK⟩
              | exit id => cases h; exact hK
              | ret => cases h; exact hK
              | panic t cs => cases h; exact hK
            obtain ⟨n', x', e'', H'', h', hK'⟩ := key
            cases n' with
            | zero => cases h'
            | succ n' =>
              cases n' with
              | zero => simp [execX] at h'
              | succ n' =>
                rw [execX] at h'
                cases hb : execX call F kA L pl (n' + 1) b e2 H2 with
                | none => rw [hb] at h'; cases h'
                | some w =>
                  obtain ⟨w, e3, H3⟩ := w
                  rw [hb] at h'
                  cases w with
                  | normal =>
                    simp only [execX] at h'
                    cases hc : execX call F kA L pl n' c e3 H3 with
                    | none => rw [hc] at h'; cases h'
                    | some v =>
                      obtain ⟨v, e4, H4⟩ := v
                      rw [hc] at h'
                      refine Runs.seq ⟨n' + 2, v, e4, H4, by rw [execX, hb]; exact execX_more hc _ (by omega), ?_⟩
                      cases v with
                      | normal => exact ⟨n', x', e'', H'', h', hK'⟩
                      | exit id => cases h'; exact hK'
                      | ret => cases h'; exact hK'
                      | panic t cs => cases h'; exact hK'
                  | exit id => cases h'; exact Runs.seq ⟨n' + 2, .exit _, _, _, by rw [execX, hb], hK'⟩
                  | ret => cases h'; exact Runs.seq ⟨n' + 2, .ret, _, _, by rw [execX, hb], hK'⟩
                  | panic t cs => cases h'; exact Runs.seq ⟨n' + 2, .panic _ _, _, _, by rw [execX, hb], hK'⟩
          | exit id => cases ha; cases h; exact hK
          | ret => cases ha; cases h; exact hK
          | panic t cs => cases ha; cases h; exact hK
abbrev NU := List (Bytes × Unit)
def entI (x : Bytes × Unit) : Bytes × Bool × List D := (x.1, false, [.int .i64 1])
theorem lookI (l : NU) (k : Bytes) : lookE (l.map entI) k = (lookP l k).map fun _ => (false, [.int .i64 1]) := by
  induction l with
  | nil => rfl
  | cons x l ih => simp only [List.map_cons, lookE, lookP, ih, entI]; split <;> rfl
theorem updI (l : NU) (k : Bytes) : updE (l.map entI) k (false, [.int .i64 1]) = (putM l k ()).map entI := by
  induction l with
  | nil => rfl
  | cons x l ih =>
    simp only [List.map_cons, updE, putM, ih, entI]
    split <;> rfl
def frK (g : List Stmt → NU → Option (Bool × NU)) (k : NU → Option (Bool × NU)) (s : Stmt) (m : NU) : Option (Bool × NU) := (g s.body m).bind fun (b, m) => cond b (k m) (some (false, m))
def frO (g : List Stmt → NU → Option (Bool × NU)) (k : NU → Option (Bool × NU)) (s : Stmt) (m : NU) (x : Bytes) : Option Unit → Option (Bool × NU)
  | some _ => some (false, m)
  | none => frK g k s (putM m x ())
def frN (g : List Stmt → NU → Option (Bool × NU)) (k : NU → Option (Bool × NU)) (s : Stmt) (m : NU) (x : Bytes) : Option (Bool × NU) := cond (x == []) (frK g k s m) (frO g k s m x (lookP m x))
def frL (g : List Stmt → NU → Option (Bool × NU)) (k : NU → Option (Bool × NU)) (s : Stmt) (m : NU) (x : Bytes) : Option (Bool × NU) := cond (s.kind == 11) (frN g k s m s.name) (frN g k s m x)
def frS (g : List Stmt → NU → Option (Bool × NU)) (k : NU → Option (Bool × NU)) (s : Stmt) (m : NU) : Option (Bool × NU) := cond (s.kind == 1) (cond (decide (0 < (s.decl.vars.length : Int))) ((getP s.decl.vars 0).bind fun v => frL g k s m v.name) (frL g k s m [])) (frL g k s m [])
def freshL (g : List Stmt → NU → Option (Bool × NU)) : List Stmt → NU → Option (Bool × NU)
  | [], m => some (true, m)
  | s :: l, m => frS g (freshL g l) s m
def freshX : Nat → List Stmt → NU → Option (Bool × NU)
  | 0, _, _ => none
  | n + 1, l, m => lenO l (freshL (freshX n) l m)
def addS (a b : Bytes) : Option Bytes := cond (decide (a.length + b.length ≤ 100000)) (some (a ++ b)) none
theorem addS_some {a b r : Bytes} (h : addS a b = some r) : a.length + b.length ≤ 100000 ∧ r = a ++ b := by
  unfold addS at h
  cases hd : decide (a.length + b.length ≤ 100000) with
  | false => rw [hd] at h; cases h
  | true => rw [hd] at h; injection h with h; exact ⟨of_decide_eq_true hd, h.symm⟩
theorem leR1 {a b K : Nat} (h1 : a ≤ 200000) (h2 : b ≤ 200000) (h3 : 600000 ≤ K) : (a + b ≤ K) = True := by simp only [eq_iff_iff, iff_true]; omega
theorem leR2 {a b K : Nat} (h1 : a ≤ 700000) (h2 : b ≤ 700000) (h3 : 2000000 ≤ K) : (a + b ≤ K) = True := by simp only [eq_iff_iff, iff_true]; omega
theorem leR3 {a b K : Nat} (h1 : a ≤ 2500000) (h2 : b ≤ 2500000) (h3 : 6000000 ≤ K) : (a + b ≤ K) = True := by simp only [eq_iff_iff, iff_true]; omega
theorem leB {x : Bytes} (h : x.length ≤ 100000) : ∀ K, 100000 ≤ K → (x.length ≤ K) = True := fun K hK => by simp only [eq_iff_iff, iff_true]; omega
def ab1 (n : Int) : Int := cond (decide (n < 0)) (IntKind.i64.wrap (0 - wadd n 1)) n
def apB (n : Int) (x : Int × Bytes) : Option ((Int × Bytes) ⊕ Bytes) := cond (decide (x.1 < n)) ((addS x.2 [102, 40, 120, 41, 59, 32]).bind fun s => some (.inl (wadd x.1 1, s))) (some (.inr x.2))
def apart6 (n k : Int) (u1 : Uni) : Option Bool := (freshX 200 u1.body []).bind fun (b, m) => cond b (some ((m.length : Int) == IntKind.i64.wrap (IntKind.i64.wrap (2 * n) * wadd 1 (k.tmod 2)))) (some false)
def apart5 (n k c : Int) (out : List Uni) : Option Bool := match out with
  | [_, u1] => cond (c == 0) (apart6 n k u1) none
  | _ => none
theorem apart5_some {n k c : Int} {out : List Uni} {b : Bool} (h : apart5 n k c out = some b) : ∃ u0 u1, out = [u0, u1] ∧ c = 0 ∧ apart6 n k u1 = some b := by
  unfold apart5 at h
  split at h
  · cases hc : (c == 0) with
    | false => rw [hc] at h; cases h
    | true => rw [hc] at h; exact ⟨_, _, rfl, eq_of_beq hc, h⟩
  · cases h
def apart4 (n k c : Int) (l : List Uni) : Option Bool := (inlX 200 l).bind fun r => match r with
  | .pan _ _ _ => none
  | .ok out m => apart5 n k c out
def textA (inner calls : Bytes) : Option Bytes := (addS [98, 121, 116, 101, 32, 120, 59, 32, 105, 110, 108, 105, 110, 101, 32, 103, 40, 41, 32, 123, 32, 98, 121, 116, 101, 32, 117, 59, 32, 77, 58, 32, 117, 32, 61, 32, 49, 32, 125, 32, 105, 110, 108, 105, 110, 101, 32, 102, 40, 97, 41, 32, 123, 32, 98, 121, 116, 101, 32, 116, 59, 32] inner).bind fun a => (addS a [76, 58, 32, 116, 32, 61, 32, 97, 32, 125, 32, 105, 110, 105, 116, 32, 123, 32]).bind fun a => (addS a calls).bind fun a => addS a [115, 107, 105, 112, 32, 125]
def apart3 (n k : Int) (calls inner : Bytes) : Option Bool := (addS [98, 121, 116, 101, 32, 120, 59, 32, 105, 110, 108, 105, 110, 101, 32, 103, 40, 41, 32, 123, 32, 98, 121, 116, 101, 32, 117, 59, 32, 77, 58, 32, 117, 32, 61, 32, 49, 32, 125, 32, 105, 110, 108, 105, 110, 101, 32, 102, 40, 97, 41, 32, 123, 32, 98, 121, 116, 101, 32, 116, 59, 32] inner).bind fun a => (addS a [76, 58, 32, 116, 32, 61, 32, 97, 32, 125, 32, 105, 110, 105, 116, 32, 123, 32]).bind fun a => (addS a calls).bind fun a => (addS a [115, 107, 105, 112, 32, 125]).bind fun t => (parseP 200 t).bind fun (l, c, a) => apart4 n k c l
def apart2 (n k : Int) (calls : Bytes) : Option Bool := cond (k.tmod 2 == 1) (apart3 n k calls [103, 40, 41, 59, 32]) (apart3 n k calls [])
def apart1 (n k : Int) : Option Bool := (loopO (apB n) 40 (0, [])).bind fun calls => apart2 n k calls
def apart0 (n k : Int) : Option Bool := apart1 (wadd ((ab1 n).tmod 8) 1) (ab1 k)
/-! ### ExpandDeep -/
def dpB (n : Int) (x : Int × Bytes × Bytes) : Option ((Int × Bytes × Bytes) ⊕ Option (Bytes × Bytes)) := cond (decide (x.1 < n)) ((addS x.2.1 [122]).bind fun nx => cond (decide (30 < (nx.length : Int))) (some (.inr none)) ((addS [105, 110, 108, 105, 110, 101, 32] nx).bind fun a => (addS a [40, 41, 32, 123, 32]).bind fun a => (addS a x.2.1).bind fun a => (addS a [40, 41, 32, 125, 32]).bind fun a => (addS x.2.2 a).bind fun tx => some (.inl (wadd x.1 1, nx, tx)))) (some (.inr (some x.2)))
def deep2 (f : Int → Int → Xr (List Uni) → Option Bool) (n : Int) : Option (Bytes × Bytes) → Option Bool
  | none => some true
  | some (nm, tx) => (addS tx [105, 110, 105, 116, 32, 123, 32]).bind fun a => (addS a nm).bind fun a => (addS a [40, 41, 32, 125]).bind fun t => (parseP 200 t).bind fun (l, c, a) => (inlX 200 l).bind fun r => f n c r
def deep1 (f : Int → Int → Xr (List Uni) → Option Bool) (n : Int) : Option Bool := (loopO (dpB n) 40 (1, [102, 48], [98, 121, 116, 101, 32, 120, 59, 32, 105, 110, 108, 105, 110, 101, 32, 102, 48, 40, 41, 32, 123, 32, 120, 32, 61, 32, 49, 32, 125, 32])).bind fun r => deep2 f n r
def deep0 (f : Int → Int → Xr (List Uni) → Option Bool) (n : Int) : Option Bool := deep1 f (wadd ((ab1 n).tmod 25) 1)
def deepA3 (n c : Int) (r : Xr (List Uni)) : Option Bool := match r with
  | .pan k z _ => cond (c == 0 && decide (20 < n) && k == 43 && z == 0) (some true) none
  | _ => none
theorem deepA3_some {n c : Int} {r : Xr (List Uni)} {b : Bool} (h : deepA3 n c r = some b) : ∃ m, r = .pan 43 0 m ∧ c = 0 ∧ 20 < n ∧ b = true := by
  unfold deepA3 at h
  split at h
  · rename_i k z m
    cases hc : (c == 0 && decide (20 < n) && k == 43 && z == 0) with
    | false => rw [hc] at h; cases h
    | true =>
      rw [hc] at h; injection h with h
      simp only [Bool.and_eq_true, beq_iff_eq, decide_eq_true_eq] at hc
      obtain ⟨⟨⟨h1, h2⟩, h3⟩, h4⟩ := hc
      subst h1 h3 h4
      exact ⟨m, rfl, rfl, h2, h.symm⟩
  · cases h
def dpD (i : Int) (s : Stmt) : Option ((Int × Stmt) ⊕ Stmt) := cond (s.kind == 14) (match s.body with
  | [t] => some (.inl (wadd i 1, t))
  | _ => none) none
def dpE (n : Int) (x : Int × Stmt) : Option ((Int × Stmt) ⊕ Stmt) := cond (decide (x.1 < n)) (dpD x.1 x.2) (some (.inr x.2))
theorem dpD_some {i : Int} {s : Stmt} {r : (Int × Stmt) ⊕ Stmt} (h : dpD i s = some r) : s.kind = 14 ∧ ∃ t, s.body = [t] ∧ some (.inl (wadd i 1, t)) = some r := by
  unfold dpD at h
  cases h2 : (s.kind == 14) with
  | false => rw [h2] at h; cases h
  | true =>
    rw [h2, cond_true] at h
    split at h
    · rename_i t ht; exact ⟨eq_of_beq h2, t, ht, h⟩
    · cases h
def deepB3 (n c : Int) (r : Xr (List Uni)) : Option Bool := match r with
  | .ok [_, u1] _ => cond (c == 0 && decide (n ≤ 20)) (match u1.body with
    | [s] => (loopO (dpE n) 40 (0, s)).bind fun s => some (s.kind == 3)
    | _ => none) none
  | _ => none
theorem deepB3_some {n c : Int} {r : Xr (List Uni)} {b : Bool} (h : deepB3 n c r = some b) : ∃ u0 u1 m s, r = .ok [u0, u1] m ∧ c = 0 ∧ n ≤ 20 ∧ u1.body = [s] ∧ ((loopO (dpE n) 40 (0, s)).bind fun s => some (s.kind == 3)) = some b := by
  unfold deepB3 at h
  split at h
  · rename_i u0 u1 m
    cases hc : (c == 0 && decide (n ≤ 20)) with
    | false => rw [hc] at h; cases h
    | true =>
      rw [hc, cond_true] at h
      simp only [Bool.and_eq_true, beq_iff_eq, decide_eq_true_eq] at hc
      split at h
      · rename_i s hs; exact ⟨u0, u1, m, s, rfl, hc.1, hc.2, hs, h⟩
      · cases h
  · cases h

theorem W8 {n : Nat} (ih : ∀ {l : List Stmt} {m q : NU} {b : Bool}, freshX n l m = some (b, q) → callW ip 8 [slV stmtD l, .c (.mp 0)] [.mp (m.map entI)] = some (.ret [bI b], [.mp (q.map entI)])) {l : List Stmt} {m q : NU} {b : Bool} (h : freshX (n + 1) l m = some (b, q)) : callW ip 8 [slV stmtD l, .c (.mp 0)] [.mp (m.map entI)] = some (.ret [bI b], [.mp (q.map entI)]) := by
 simp only [freshX] at h
 refine callW_runs (fn := Tryd.f8) (L := long8) (nt := 72) (n0 := 1) (T := tab) (rw' := []) (kA := keepA) Tryd.func8 rfl rfl rfl rfl rfl rfl rfl rfl rfl ?_
 refine Runs.seq ?_
 refine Runs.reg (by simp only [go_sem, seval, updI, V.isAgg, packV, zeroV]; rfl) (by simp only [long8, go_sem, seval]; rfl) ?_
 refine Runs.seq ?_
 refine Runs.seq ?_
 refine Runs.reg (by simp only [go_sem, seval, updI, V.isAgg, packV, zeroV]; rfl) (by simp only [long8, go_sem, seval]; rfl) ?_
 refine Runs.block ?_
 obtain ⟨hL1, h⟩ := lenO_some h
 refine Runs.loop_rel (m := (l).length) (fun mz_ en hp => ∃ (i : Nat) (m : NU), freshL (freshX n) (List.drop i (l)) m = some (b, q) ∧ mz_ + i = (l).length ∧ en = [(0, slV stmtD l), (1, .c (.mp 0)), (5, .c (.d (.int .i64 (i : Int))))] ∧ hp = [.mp (m.map entI)]) ?_ ⟨0, _, h, rfl, (by first | rfl | (simp only [go_sem, seval, updI, V.isAgg, packV, zeroV]; done) | (simp only [go_sem, seval, updI, V.isAgg, packV, zeroV]; rfl)), (by first | rfl | (simp only [go_sem, seval, updI, V.isAgg, packV, zeroV]; done) | (simp only [go_sem, seval, updI, V.isAgg, packV, zeroV]; rfl))⟩
 clear h
 rintro m1 en hp ⟨i1, m_, h, hm1, rfl, rfl⟩
 refine Runs.seq ?_
 refine Runs.seq ?_
 refine Runs.reg (by simp only [go_sem, seval, updI, V.isAgg, packV, zeroV]; rfl) (by simp only [long8, go_sem, seval]; rfl) ?_
 refine Runs.cond (t := 13) rfl (fun hc2 => ?_) (fun hc2 => ?_)
 ·
  try simp only [N3] at hc2
  try simp only [hc2, C5] at h
  have hi1 := of_decide_eq_true hc2
  obtain ⟨x1, xs1, hx1⟩ := drop_ex (l := l) (i := i1) (by omega)
  obtain ⟨ha1, hb1, hd1⟩ := drop_cons hx1
  rw [hx1] at h
  simp only [freshL, frS, frL] at h
  have g1 := trivial
  have hn1 := cast_nonneg i1
  have hw1 := wrap_succ (n := i1) (by omega)
  refine Runs.skip ?_
  refine Runs.seq ?_
  refine Runs.block ?_
  refine Runs.assoc ?_
  refine Runs.assoc ?_
  refine Runs.assoc3 ?_
  refine Runs.seqJ (fun en hp => ∃ (x : Bytes), frN (freshX n) (freshL (freshX n) xs1) x1 m_ x = some (b, q) ∧ en = [(0, slV stmtD l), (1, .c (.mp 0)), (5, .c (.d (.int .i64 (i1 : Int)))), (6, sI x), (53, bI (x != []))] ∧ hp = [.mp (m_.map entI)]) ?_ ?_
  ·
   refine Runs.seq ?_
   refine Runs.seq ?_
   refine Runs.seq ?_
   refine Runs.reg (by simp only [go_sem, seval, updI, V.isAgg, packV, zeroV, ha1, hn1, hw1, hc2]; rfl) (by simp only [long8, go_sem, seval]; rfl) ?_
   refine Runs.seq ?_
   refine Runs.row ?_
   refine Row.run 7 (by simp only [go_sem, seval, updI, V.isAgg, packV, zeroV, ha1, hn1, hw1, hc2]; rfl) ?_
   refine Row.guard (t := 22) (by simp only [go_sem, seval]; rfl) (fun hg3 => ?_) (fun hg3 => ?_)
   ·
    try simp only [N3] at hg3
    try simp only [hg3, C5] at h
    refine Row.run 9 (by simp only [go_sem, seval, updI, V.isAgg, packV, zeroV, ha1, hn1, hw1, hc2, hg3]; rfl) ?_
    refine Row.end_ (by simp only [long8, go_sem, seval]; rfl) ?_
    refine Runs.cond (t := 31) rfl (fun hc4 => ?_) (fun hc4 => ?_)
    ·
     try simp only [N3] at hc4
     try simp only [hc4, C5] at h
     obtain ⟨v_, hv_, h⟩ := some_bind h
     obtain ⟨gev_, atv_⟩ := getP_some hv_
     try simp only [seval] at atv_
     try dsimp only at h
     refine Runs.reg (by simp only [go_sem, seval, updI, V.isAgg, packV, zeroV, gev_, atv_, ha1, hn1, hw1, hc2, hg3, hc4]; rfl) (by simp only [long8, go_sem, seval]; rfl) ?_
     refine Runs.seq ?_
     refine Runs.reg (by simp only [go_sem, seval, updI, V.isAgg, packV, zeroV, ha1, hn1, hw1, hc2, hg3, hc4]; rfl) (by simp only [long8, go_sem, seval]; rfl) ?_
     refine Runs.cond (t := 46) rfl (fun hc5 => ?_) (fun hc5 => ?_)
     ·
      try simp only [N3] at hc5
      try simp only [hc5, C5] at h
      refine Runs.reg (by simp only [go_sem, seval, updI, V.isAgg, packV, zeroV, ha1, hn1, hw1, hc2, hg3, hc4, hc5]; rfl) (by simp only [long8, go_sem, seval]; rfl) ?_
      refine Runs.reg (by simp only [go_sem, seval, updI, V.isAgg, packV, zeroV, ha1, hn1, hw1, hc2, hg3, hc4, hc5]; rfl) (by simp only [long8, go_sem, seval]; rfl) ?_
      exact ⟨_, h, by first | rfl | (simp only [go_sem, seval, updI, V.isAgg, packV, zeroV, ha1, hn1, hw1, hc2, hg3, hc4, hc5]; try rfl), by first | rfl | (simp only [go_sem, seval, updI, V.isAgg, packV, zeroV, ha1, hn1, hw1, hc2, hg3, hc4, hc5]; try rfl)⟩
     try simp only [N3] at hc5
     try simp only [hc5, C5] at h
     refine Runs.skip ?_
     refine Runs.reg (by simp only [go_sem, seval, updI, V.isAgg, packV, zeroV, ha1, hn1, hw1, hc2, hg3, hc4, hc5]; rfl) (by simp only [long8, go_sem, seval]; rfl) ?_
     exact ⟨_, h, by first | rfl | (simp only [go_sem, seval, updI, V.isAgg, packV, zeroV, ha1, hn1, hw1, hc2, hg3, hc4, hc5]; try rfl), by first | rfl | (simp only [go_sem, seval, updI, V.isAgg, packV, zeroV, ha1, hn1, hw1, hc2, hg3, hc4, hc5]; try rfl)⟩
    try simp only [N3] at hc4
    try simp only [hc4, C5] at h
    refine Runs.skip ?_
    refine Runs.seq ?_
    refine Runs.reg (by simp only [go_sem, seval, updI, V.isAgg, packV, zeroV, ha1, hn1, hw1, hc2, hg3, hc4]; rfl) (by simp only [long8, go_sem, seval]; rfl) ?_
    refine Runs.cond (t := 46) rfl (fun hc6 => ?_) (fun hc6 => ?_)
    ·
     try simp only [N3] at hc6
     try simp only [hc6, C5] at h
     refine Runs.reg (by simp only [go_sem, seval, updI, V.isAgg, packV, zeroV, ha1, hn1, hw1, hc2, hg3, hc4, hc6]; rfl) (by simp only [long8, go_sem, seval]; rfl) ?_
     refine Runs.reg (by simp only [go_sem, seval, updI, V.isAgg, packV, zeroV, ha1, hn1, hw1, hc2, hg3, hc4, hc6]; rfl) (by simp only [long8, go_sem, seval]; rfl) ?_
     exact ⟨_, h, by first | rfl | (simp only [go_sem, seval, updI, V.isAgg, packV, zeroV, ha1, hn1, hw1, hc2, hg3, hc4, hc6]; try rfl), by first | rfl | (simp only [go_sem, seval, updI, V.isAgg, packV, zeroV, ha1, hn1, hw1, hc2, hg3, hc4, hc6]; try rfl)⟩
    try simp only [N3] at hc6
    try simp only [hc6, C5] at h
    refine Runs.skip ?_
    refine Runs.reg (by simp only [go_sem, seval, updI, V.isAgg, packV, zeroV, ha1, hn1, hw1, hc2, hg3, hc4, hc6]; rfl) (by simp only [long8, go_sem, seval]; rfl) ?_
    exact ⟨_, h, by first | rfl | (simp only [go_sem, seval, updI, V.isAgg, packV, zeroV, ha1, hn1, hw1, hc2, hg3, hc4, hc6]; try rfl), by first | rfl | (simp only [go_sem, seval, updI, V.isAgg, packV, zeroV, ha1, hn1, hw1, hc2, hg3, hc4, hc6]; try rfl)⟩
   ·
    try simp only [N3] at hg3
    try simp only [hg3, C5] at h
    refine Row.run 9 (by simp only [go_sem, seval, updI, V.isAgg, packV, zeroV, ha1, hn1, hw1, hc2, hg3]; rfl) ?_
    refine Row.end_ (by simp only [long8, go_sem, seval]; rfl) ?_
    refine Runs.cond (t := 31) rfl (fun hc7 => ?_) (fun hc7 => ?_)
    · exact absurd hc7 (by first | decide | (simp only [hc2, hg3]; decide))
    try simp only [N3] at hc7
    try simp only [hc7, C5] at h
    refine Runs.skip ?_
    refine Runs.seq ?_
    refine Runs.reg (by simp only [go_sem, seval, updI, V.isAgg, packV, zeroV, ha1, hn1, hw1, hc2, hg3]; rfl) (by simp only [long8, go_sem, seval]; rfl) ?_
    refine Runs.cond (t := 46) rfl (fun hc8 => ?_) (fun hc8 => ?_)
    ·
     try simp only [N3] at hc8
     try simp only [hc8, C5] at h
     refine Runs.reg (by simp only [go_sem, seval, updI, V.isAgg, packV, zeroV, ha1, hn1, hw1, hc2, hg3, hc8]; rfl) (by simp only [long8, go_sem, seval]; rfl) ?_
     refine Runs.reg (by simp only [go_sem, seval, updI, V.isAgg, packV, zeroV, ha1, hn1, hw1, hc2, hg3, hc8]; rfl) (by simp only [long8, go_sem, seval]; rfl) ?_
     exact ⟨_, h, by first | rfl | (simp only [go_sem, seval, updI, V.isAgg, packV, zeroV, ha1, hn1, hw1, hc2, hg3, hc8]; try rfl), by first | rfl | (simp only [go_sem, seval, updI, V.isAgg, packV, zeroV, ha1, hn1, hw1, hc2, hg3, hc8]; try rfl)⟩
    try simp only [N3] at hc8
    try simp only [hc8, C5] at h
    refine Runs.skip ?_
    refine Runs.reg (by simp only [go_sem, seval, updI, V.isAgg, packV, zeroV, ha1, hn1, hw1, hc2, hg3, hc8]; rfl) (by simp only [long8, go_sem, seval]; rfl) ?_
    exact ⟨_, h, by first | rfl | (simp only [go_sem, seval, updI, V.isAgg, packV, zeroV, ha1, hn1, hw1, hc2, hg3, hc8]; try rfl), by first | rfl | (simp only [go_sem, seval, updI, V.isAgg, packV, zeroV, ha1, hn1, hw1, hc2, hg3, hc8]; try rfl)⟩
  clear h
  rintro en hp ⟨x_, h, rfl, rfl⟩
  simp only [frN, frK] at h
  refine Runs.seq ?_
  refine Runs.cond (t := 53) rfl (fun hc9 => ?_) (fun hc9 => ?_)
  ·
   try simp only [N3] at hc9
   try simp only [hc9, C5] at h
   refine Runs.seq ?_
   rcases hl10 : lookP m_ x_ with _ | u_
   ·
    simp only [hl10] at h
    try simp only [frO, frK] at h
    try simp only [hc9, cond_true, cond_false] at h
    refine Runs.reg (by simp only [go_sem, seval, updI, V.isAgg, packV, zeroV, ha1, hn1, hw1, hl10, lookI, Option.map_none, hc9]; rfl) (by simp only [long8, go_sem, seval]; rfl) ?_
    refine Runs.seq ?_
    refine Runs.seq ?_
    refine Runs.reg (by simp only [go_sem, seval, updI, V.isAgg, packV, zeroV, ha1, hn1, hw1, hc9]; rfl) (by simp only [long8, go_sem, seval]; rfl) ?_
    refine Runs.cond (t := 60) rfl (fun hc11 => ?_) (fun hc11 => ?_)
    · exact absurd hc11 (by first | decide | (simp only [hc9]; decide))
    try simp only [N3] at hc11
    try simp only [hc11, C5] at h
    refine Runs.skip ?_
    refine Runs.reg (by simp only [go_sem, seval, updI, V.isAgg, packV, zeroV, ha1, hn1, hw1, hc9]; rfl) (by simp only [long8, go_sem, seval]; rfl) ?_
    refine Runs.seq ?_
    obtain ⟨⟨b12, q12⟩, h12, h⟩ := some_bind h
    have w12 := ih h12
    try dsimp only at h
    refine Runs.reg (by simp only [go_sem, seval, updI, V.isAgg, packV, zeroV, ha1, hn1, hw1, w12, hc9]; rfl) (by simp only [long8, go_sem, seval]; rfl) ?_
    refine Runs.seq ?_
    refine Runs.reg (by simp only [go_sem, seval, updI, V.isAgg, packV, zeroV, ha1, hn1, hw1, hc9]; rfl) (by simp only [long8, go_sem, seval]; rfl) ?_
    refine Runs.cond (t := 71) rfl (fun hc13 => ?_) (fun hc13 => ?_)
    ·
     try simp only [N3] at hc13
     try simp only [hc13, C5] at h
     refine Runs.seq ?_
     refine Runs.reg (by simp only [go_sem, seval, updI, V.isAgg, packV, zeroV, ha1, hn1, hw1, hc9, hc13]; rfl) (by simp only [long8, go_sem, seval]; rfl) ?_
     refine Runs.ret ?_
     cases h
     try cases h
     try dsimp only [outX]
     first
     | rfl
     | (exact fk (res := [.tmp 4]) rfl rfl rfl (by simp only [fin1, go_sem, seval, updI, V.isAgg, packV, zeroV, ha1, hn1, hw1, hc9, hc13]; try rfl))
    try simp only [N3] at hc13
    try simp only [hc13, C5] at h
    refine Runs.skip ?_
    refine Runs.reg (by simp only [go_sem, seval, updI, V.isAgg, packV, zeroV, ha1, hn1, hw1, hc9, hc13]; rfl) (by simp only [long8, go_sem, seval]; rfl) ?_
    clear g1
    have g1 := h
    rw [← hd1] at g1
    refine ⟨m1 - 1, by omega, _, _, by simp only [go_sem, seval, updI, V.isAgg, packV, zeroV, ha1, hn1, hw1]; try rfl, i1 + 1, _, g1, by omega, rfl, rfl⟩
   ·
    simp only [hl10] at h
    try simp only [frO, frK] at h
    try simp only [hc9, cond_true, cond_false] at h
    refine Runs.reg (by simp only [go_sem, seval, updI, V.isAgg, packV, zeroV, ha1, hn1, hw1, hl10, lookI, Option.map_some, hc9]; rfl) (by simp only [long8, go_sem, seval]; rfl) ?_
    refine Runs.seq ?_
    refine Runs.seq ?_
    refine Runs.reg (by simp only [go_sem, seval, updI, V.isAgg, packV, zeroV, ha1, hn1, hw1, hc9]; rfl) (by simp only [long8, go_sem, seval]; rfl) ?_
    refine Runs.cond (t := 60) rfl (fun hc14 => ?_) (fun hc14 => ?_)
    rotate_left
    · exact absurd hc14 (by first | decide | (simp only [hc9]; decide))
    try simp only [N3] at hc14
    try simp only [hc14, C5] at h
    refine Runs.seq ?_
    refine Runs.reg (by simp only [go_sem, seval, updI, V.isAgg, packV, zeroV, ha1, hn1, hw1, hc9]; rfl) (by simp only [long8, go_sem, seval]; rfl) ?_
    refine Runs.ret ?_
    cases h
    try cases h
    try dsimp only [outX]
    first
    | rfl
    | (exact fk (res := [.tmp 4]) rfl rfl rfl (by simp only [fin1, go_sem, seval, updI, V.isAgg, packV, zeroV, ha1, hn1, hw1, hc9]; try rfl))
  try simp only [N3] at hc9
  try simp only [hc9, C5] at h
  refine Runs.skip ?_
  refine Runs.seq ?_
  obtain ⟨⟨b15, q15⟩, h15, h⟩ := some_bind h
  have w15 := ih h15
  try dsimp only at h
  refine Runs.reg (by simp only [go_sem, seval, updI, V.isAgg, packV, zeroV, ha1, hn1, hw1, w15, hc9]; rfl) (by simp only [long8, go_sem, seval]; rfl) ?_
  refine Runs.seq ?_
  refine Runs.reg (by simp only [go_sem, seval, updI, V.isAgg, packV, zeroV, ha1, hn1, hw1, hc9]; rfl) (by simp only [long8, go_sem, seval]; rfl) ?_
  refine Runs.cond (t := 71) rfl (fun hc16 => ?_) (fun hc16 => ?_)
  ·
   try simp only [N3] at hc16
   try simp only [hc16, C5] at h
   refine Runs.seq ?_
   refine Runs.reg (by simp only [go_sem, seval, updI, V.isAgg, packV, zeroV, ha1, hn1, hw1, hc9, hc16]; rfl) (by simp only [long8, go_sem, seval]; rfl) ?_
   refine Runs.ret ?_
   cases h
   try cases h
   try dsimp only [outX]
   first
   | rfl
   | (exact fk (res := [.tmp 4]) rfl rfl rfl (by simp only [fin1, go_sem, seval, updI, V.isAgg, packV, zeroV, ha1, hn1, hw1, hc9, hc16]; try rfl))
  try simp only [N3] at hc16
  try simp only [hc16, C5] at h
  refine Runs.skip ?_
  refine Runs.reg (by simp only [go_sem, seval, updI, V.isAgg, packV, zeroV, ha1, hn1, hw1, hc9, hc16]; rfl) (by simp only [long8, go_sem, seval]; rfl) ?_
  clear g1
  have g1 := h
  rw [← hd1] at g1
  refine ⟨m1 - 1, by omega, _, _, by simp only [go_sem, seval, updI, V.isAgg, packV, zeroV, ha1, hn1, hw1]; try rfl, i1 + 1, _, g1, by omega, rfl, rfl⟩
 try simp only [N3] at hc2
 try simp only [hc2, C5] at h
 have hi1 := of_decide_eq_false hc2
 rw [List.drop_eq_nil_of_le (by omega)] at h
 simp only [freshL, frS, frL] at h
 refine Runs.exit ?_
 cases h
 refine Runs.seq ?_
 refine Runs.reg (by simp only [go_sem, seval, updI, V.isAgg, packV, zeroV, hc2]; rfl) (by simp only [long8, go_sem, seval]; rfl) ?_
 refine Runs.ret ?_
 try cases h
 try dsimp only [outX]
 first
 | rfl
 | (exact fk (res := [.tmp 4]) rfl rfl rfl (by simp only [fin1, go_sem, seval, updI, V.isAgg, packV, zeroV, hc2]; try rfl))
theorem D8 : ∀ {n : Nat} {l : List Stmt} {m q : NU} {b : Bool}, freshX n l m = some (b, q) → callW ip 8 [slV stmtD l, .c (.mp 0)] [.mp (m.map entI)] = some (.ret [bI b], [.mp (q.map entI)])
  | 0, _, _, _, _, h => by cases h
  | n + 1, _, _, _, _, h => W8 D8 h
theorem D8u {n : Nat} {l : List Stmt} {m q : NU} {b : Bool} (h : freshX n l m = some (b, q)) : callW ip2 8 [slV stmtD l, .c (.mp 0)] [.mp (m.map entI)] = some (.ret [bI b], [.mp (q.map entI)]) := up (D8 h) (by decide) (by decide) (by decide) (by decide)
theorem W3 {n k : Int} {b : Bool} (h : apart0 n k = some b) : callW ip2 3 [iI n, iI k] [] = some (.ret [bI b], []) := by
 have hA1_ : True := trivial
 have hA2_ : True := trivial
 have hA3_ : True := trivial
 simp only [apart0, ab1, wadd] at h
 refine callW_runs (fn := Tryd.f3) (L := long3) (nt := 91) (n0 := 0) (T := tab) (rw' := []) (kA := keepA) Tryd.func3 rfl rfl rfl rfl rfl rfl rfl rfl rfl ?_
 refine Runs.seq ?_
 refine Runs.reg (by simp only [go_sem, seval, List.append_eq, List.length_map, V.isAgg, capsOf]; rfl) (by simp only [long3, go_sem, seval]; rfl) ?_
 refine Runs.seq ?_
 refine Runs.reg (by simp only [go_sem, seval, List.append_eq, List.length_map, V.isAgg, capsOf, W5T]; rfl) (by simp only [long3, go_sem, seval]; rfl) ?_
 refine Runs.seq ?_
 refine Runs.seq ?_
 refine Runs.reg (by simp only [go_sem, seval, List.append_eq, List.length_map, V.isAgg, capsOf]; rfl) (by simp only [long3, go_sem, seval]; rfl) ?_
 refine Runs.cond (t := 17) rfl (fun hc1 => ?_) (fun hc1 => ?_)
 · exact absurd hc1 (by first | decide)
 try simp only [N3] at hc1
 try simp only [hc1, C5] at h
 refine Runs.skip ?_
 refine Runs.assoc ?_
 refine Runs.assoc ?_
 refine Runs.assoc ?_
 refine Runs.seqJ (fun en hp => ∃ (N K : Int), apart1 N K = some b ∧ en = [(0, iI N), (1, iI K), (5, bI true), (6, sI [])] ∧ hp = []) ?_ ?_
 ·
  refine Runs.seq ?_
  refine Runs.seq ?_
  refine Runs.seq ?_
  refine Runs.reg (by simp only [go_sem, seval, List.append_eq, List.length_map, V.isAgg, capsOf]; rfl) (by simp only [long3, go_sem, seval]; rfl) ?_
  refine Runs.seq ?_
  refine Runs.reg (by simp only [go_sem, seval, List.append_eq, List.length_map, V.isAgg, capsOf]; rfl) (by simp only [long3, go_sem, seval]; rfl) ?_
  refine Runs.cond (t := 19) rfl (fun hc2 => ?_) (fun hc2 => ?_)
  ·
   try simp only [N3] at hc2
   try simp only [hc2, C5] at h
   refine Runs.reg (by simp only [go_sem, seval, List.append_eq, List.length_map, V.isAgg, capsOf, hc2]; rfl) (by simp only [long3, go_sem, seval]; rfl) ?_
   refine Runs.seq ?_
   refine Runs.reg (by simp only [go_sem, seval, List.append_eq, List.length_map, V.isAgg, capsOf, hc2]; rfl) (by simp only [long3, go_sem, seval]; rfl) ?_
   refine Runs.cond (t := 24) rfl (fun hc3 => ?_) (fun hc3 => ?_)
   ·
    try simp only [N3] at hc3
    try simp only [hc3, C5] at h
    refine Runs.reg (by simp only [go_sem, seval, List.append_eq, List.length_map, V.isAgg, capsOf, hc2, hc3]; rfl) (by simp only [long3, go_sem, seval]; rfl) ?_
    refine Runs.reg (by simp only [go_sem, seval, List.append_eq, List.length_map, V.isAgg, capsOf, hc2, hc3]; rfl) (by simp only [long3, go_sem, seval]; rfl) ?_
    exact ⟨_, _, h, by first | rfl | (simp only [go_sem, seval, List.append_eq, List.length_map, V.isAgg, capsOf, hc2, hc3]; try rfl), by first | rfl | (simp only [go_sem, seval, List.append_eq, List.length_map, V.isAgg, capsOf, hc2, hc3]; try rfl)⟩
   try simp only [N3] at hc3
   try simp only [hc3, C5] at h
   refine Runs.skip ?_
   refine Runs.reg (by simp only [go_sem, seval, List.append_eq, List.length_map, V.isAgg, capsOf, hc2, hc3]; rfl) (by simp only [long3, go_sem, seval]; rfl) ?_
   exact ⟨_, _, h, by first | rfl | (simp only [go_sem, seval, List.append_eq, List.length_map, V.isAgg, capsOf, hc2, hc3]; try rfl), by first | rfl | (simp only [go_sem, seval, List.append_eq, List.length_map, V.isAgg, capsOf, hc2, hc3]; try rfl)⟩
  try simp only [N3] at hc2
  try simp only [hc2, C5] at h
  refine Runs.skip ?_
  refine Runs.seq ?_
  refine Runs.reg (by simp only [go_sem, seval, List.append_eq, List.length_map, V.isAgg, capsOf, hc2]; rfl) (by simp only [long3, go_sem, seval]; rfl) ?_
  refine Runs.cond (t := 24) rfl (fun hc4 => ?_) (fun hc4 => ?_)
  ·
   try simp only [N3] at hc4
   try simp only [hc4, C5] at h
   refine Runs.reg (by simp only [go_sem, seval, List.append_eq, List.length_map, V.isAgg, capsOf, hc2, hc4]; rfl) (by simp only [long3, go_sem, seval]; rfl) ?_
   refine Runs.reg (by simp only [go_sem, seval, List.append_eq, List.length_map, V.isAgg, capsOf, hc2, hc4]; rfl) (by simp only [long3, go_sem, seval]; rfl) ?_
   exact ⟨_, _, h, by first | rfl | (simp only [go_sem, seval, List.append_eq, List.length_map, V.isAgg, capsOf, hc2, hc4]; try rfl), by first | rfl | (simp only [go_sem, seval, List.append_eq, List.length_map, V.isAgg, capsOf, hc2, hc4]; try rfl)⟩
  try simp only [N3] at hc4
  try simp only [hc4, C5] at h
  refine Runs.skip ?_
  refine Runs.reg (by simp only [go_sem, seval, List.append_eq, List.length_map, V.isAgg, capsOf, hc2, hc4]; rfl) (by simp only [long3, go_sem, seval]; rfl) ?_
  exact ⟨_, _, h, by first | rfl | (simp only [go_sem, seval, List.append_eq, List.length_map, V.isAgg, capsOf, hc2, hc4]; try rfl), by first | rfl | (simp only [go_sem, seval, List.append_eq, List.length_map, V.isAgg, capsOf, hc2, hc4]; try rfl)⟩
 clear h
 rintro en hp ⟨n1, k1, h, rfl, rfl⟩
 simp only [apart1] at h
 refine Runs.seq ?_
 refine Runs.seq ?_
 refine Runs.reg (by simp only [go_sem, seval, List.append_eq, List.length_map, V.isAgg, capsOf]; rfl) (by simp only [long3, go_sem, seval]; rfl) ?_
 refine Runs.block ?_
 obtain ⟨j5, h, hk5⟩ := some_bind h
 refine Runs.loop_rel (fun mz_ en hp => ∃ (x : Int × Bytes), loopO (apB n1) mz_ x = some j5 ∧ en = [(0, iI n1), (1, iI k1), (5, bI true), (6, sI x.2), (7, iI x.1)] ∧ hp = []) ?_ ⟨_, h, (by first | rfl | (simp only [go_sem, seval, List.append_eq, List.length_map, V.isAgg, capsOf]; done) | (simp only [go_sem, seval, List.append_eq, List.length_map, V.isAgg, capsOf]; rfl)), (by first | rfl | (simp only [go_sem, seval, List.append_eq, List.length_map, V.isAgg, capsOf]; done) | (simp only [go_sem, seval, List.append_eq, List.length_map, V.isAgg, capsOf]; rfl))⟩
 clear h
 rintro m5 en hp ⟨⟨i, s⟩, h, rfl, rfl⟩
 obtain _ | m5 := m5
 · cases h
 simp only [loopO, apB, wadd] at h
 obtain ⟨r5, h, g5⟩ := some_bind h
 refine Runs.seq ?_
 refine Runs.seq ?_
 refine Runs.reg (by simp only [go_sem, seval, List.append_eq, List.length_map, V.isAgg, capsOf]; rfl) (by simp only [long3, go_sem, seval]; rfl) ?_
 refine Runs.cond (t := 33) rfl (fun hc6 => ?_) (fun hc6 => ?_)
 ·
  try simp only [N3] at hc6
  try simp only [hc6, C5] at h
  refine Runs.skip ?_
  refine Runs.seq ?_
  refine Runs.block ?_
  obtain ⟨y_, hy_, h⟩ := some_bind h
  obtain ⟨hl1_, rfl⟩ := addS_some hy_
  try dsimp only at h
  have hA1_ := leB (x := s) (by (try simp only [List.length_append] at hl1_); omega)
  refine Runs.reg (by simp only [go_sem, seval, List.append_eq, List.length_map, V.isAgg, capsOf, hA1_, hA2_, hA3_, leR1, leR2, leR3, hc6]; rfl) (by simp only [long3, go_sem, seval]; rfl) ?_
  refine Runs.reg (by simp only [go_sem, seval, List.append_eq, List.length_map, V.isAgg, capsOf, hc6]; rfl) (by simp only [long3, go_sem, seval]; rfl) ?_
  cases h
  refine ⟨m5, Nat.lt_succ_self _, _, _, by simp only [go_sem, seval, List.append_eq, List.length_map, V.isAgg, capsOf]; try rfl, _, g5, rfl, rfl⟩
 try simp only [N3] at hc6
 try simp only [hc6, C5] at h
 refine Runs.exit ?_
 cases h
 cases g5
 have h := hk5
 try dsimp only at h
 try simp only [hc6, cond_true, cond_false] at h
 refine Runs.assoc ?_
 refine Runs.assoc ?_
 refine Runs.seqJ (fun en hp => ∃ (L : List Uni) (C A : Int), apart4 n1 k1 C L = some b ∧ en = [(0, iI n1), (1, iI k1), (5, bI true), (9, slV uniD L), (10, .c (.ptr 0 0))] ∧ hp = [.box [.d (.int .i64 C), .d (.int .i64 A)]]) ?_ ?_
 ·
  refine Runs.seq ?_
  refine Runs.seq ?_
  simp only [apart2, apart3] at h
  refine Runs.reg (by simp only [go_sem, seval, List.append_eq, List.length_map, V.isAgg, capsOf, hc6]; rfl) (by simp only [long3, go_sem, seval]; rfl) ?_
  refine Runs.seq ?_
  refine Runs.reg (by simp only [go_sem, seval, List.append_eq, List.length_map, V.isAgg, capsOf, hc6]; rfl) (by simp only [long3, go_sem, seval]; rfl) ?_
  refine Runs.cond (t := 40) rfl (fun hc7 => ?_) (fun hc7 => ?_)
  ·
   try simp only [N3] at hc7
   try simp only [hc7, C5] at h
   refine Runs.reg (by simp only [go_sem, seval, List.append_eq, List.length_map, V.isAgg, capsOf, hc6, hc7]; rfl) (by simp only [long3, go_sem, seval]; rfl) ?_
   obtain ⟨y_, hy_, h⟩ := some_bind h
   obtain ⟨hl1_, rfl⟩ := addS_some hy_
   try dsimp only at h
   obtain ⟨y_, hy_, h⟩ := some_bind h
   obtain ⟨hl2_, rfl⟩ := addS_some hy_
   try dsimp only at h
   obtain ⟨y_, hy_, h⟩ := some_bind h
   obtain ⟨hl3_, rfl⟩ := addS_some hy_
   try dsimp only at h
   obtain ⟨y_, hy_, h⟩ := some_bind h
   obtain ⟨hl4_, rfl⟩ := addS_some hy_
   try dsimp only at h
   have hA1_ := leB (x := j5) (by (try simp only [List.length_append] at hl4_); omega)
   obtain ⟨⟨l8, c8, a8⟩, h8, h⟩ := some_bind h
   have w8 := V6 h8
   try dsimp only at h
   try simp only [go_sem, seval] at w8
   refine Runs.reg (by simp only [go_sem, seval, List.append_eq, List.length_map, V.isAgg, capsOf, hA1_, hA2_, hA3_, leR1, leR2, leR3, w8, hc6, hc7]; rfl) (by simp only [long3, go_sem, seval]; rfl) ?_
   exact ⟨_, _, _, h, by first | rfl | (simp only [go_sem, seval, List.append_eq, List.length_map, V.isAgg, capsOf, hA1_, hA2_, hA3_, leR1, leR2, leR3, hc6, hc7]; try rfl), by first | rfl | (simp only [go_sem, seval, List.append_eq, List.length_map, V.isAgg, capsOf, hA1_, hA2_, hA3_, leR1, leR2, leR3, hc6, hc7]; try rfl)⟩
  try simp only [N3] at hc7
  try simp only [hc7, C5] at h
  refine Runs.skip ?_
  obtain ⟨y_, hy_, h⟩ := some_bind h
  obtain ⟨hl1_, rfl⟩ := addS_some hy_
  try dsimp only at h
  obtain ⟨y_, hy_, h⟩ := some_bind h
  obtain ⟨hl2_, rfl⟩ := addS_some hy_
  try dsimp only at h
  obtain ⟨y_, hy_, h⟩ := some_bind h
  obtain ⟨hl3_, rfl⟩ := addS_some hy_
  try dsimp only at h
  obtain ⟨y_, hy_, h⟩ := some_bind h
  obtain ⟨hl4_, rfl⟩ := addS_some hy_
  try dsimp only at h
  have hA1_ := leB (x := j5) (by (try simp only [List.length_append] at hl4_); omega)
  obtain ⟨⟨l9, c9, a9⟩, h9, h⟩ := some_bind h
  have w9 := V6 h9
  try dsimp only at h
  try simp only [go_sem, seval] at w9
  refine Runs.reg (by simp only [go_sem, seval, List.append_eq, List.length_map, V.isAgg, capsOf, hA1_, hA2_, hA3_, leR1, leR2, leR3, w9, hc6, hc7]; rfl) (by simp only [long3, go_sem, seval]; rfl) ?_
  exact ⟨_, _, _, h, by first | rfl | (simp only [go_sem, seval, List.append_eq, List.length_map, V.isAgg, capsOf, hA1_, hA2_, hA3_, leR1, leR2, leR3, hc6, hc7]; try rfl), by first | rfl | (simp only [go_sem, seval, List.append_eq, List.length_map, V.isAgg, capsOf, hA1_, hA2_, hA3_, leR1, leR2, leR3, hc6, hc7]; try rfl)⟩
 clear h
 rintro en hp ⟨l1, c1, a1, h, rfl, rfl⟩
 simp only [apart4] at h
 refine Runs.seq ?_
 obtain ⟨⟨out10, m10⟩ | ⟨c10, z10, mm10⟩, h10, h⟩ := some_bind h
 rotate_left
 · cases h
 have w10 := V7 h10
 try dsimp only at h
 try dsimp only [res7] at w10
 refine Runs.reg (by simp only [go_sem, seval, List.append_eq, List.length_map, V.isAgg, capsOf, w10]; rfl) (by simp only [long3, go_sem, seval]; rfl) ?_
 refine Runs.seq ?_
 refine Runs.seq ?_
 obtain ⟨u0_, u1_, rfl, rfl, h⟩ := apart5_some h
 refine Runs.row ?_
 refine Row.run 13 (by simp only [go_sem, seval, List.append_eq, List.length_map, V.isAgg, capsOf]; rfl) ?_
 refine Row.end_ (by simp only [long3, go_sem, seval]; rfl) ?_
 refine Runs.cond (t := 68) rfl (fun hc11 => ?_) (fun hc11 => ?_)
 · exact absurd hc11 (by first | decide)
 try simp only [N3] at hc11
 try simp only [hc11, C5] at h
 refine Runs.skip ?_
 refine Runs.seq ?_
 refine Runs.reg (by simp only [go_sem, seval, List.append_eq, List.length_map, V.isAgg, capsOf]; rfl) (by simp only [long3, go_sem, seval]; rfl) ?_
 refine Runs.seq ?_
 try simp only [apart6] at h
 obtain ⟨⟨b12, q12⟩, h12, h⟩ := some_bind h
 have w12 := D8u h12
 try dsimp only at h
 try simp only [List.map_nil] at w12
 refine Runs.reg (by simp only [go_sem, seval, List.append_eq, List.length_map, V.isAgg, capsOf, w12]; rfl) (by simp only [long3, go_sem, seval]; rfl) ?_
 refine Runs.seq ?_
 refine Runs.row ?_
 refine Row.run 5 (by simp only [go_sem, seval, List.append_eq, List.length_map, V.isAgg, capsOf]; rfl) ?_
 refine Row.guard (t := 80) (by simp only [go_sem, seval]; rfl) (fun hg13 => ?_) (fun hg13 => ?_)
 ·
  try simp only [N3] at hg13
  try simp only [hg13, C5] at h
  refine Row.run 11 (by simp only [go_sem, seval, List.append_eq, List.length_map, V.isAgg, capsOf, hg13]; rfl) ?_
  refine Row.end_ (by simp only [long3, go_sem, seval]; rfl) ?_
  refine Runs.ret ?_
  try cases h
  try dsimp only [outX]
  first
  | rfl
  | (exact fk (res := [.tmp 4]) rfl rfl rfl (by simp only [fin1, go_sem, seval, List.append_eq, List.length_map, V.isAgg, capsOf, hg13]; try rfl))
 ·
  try simp only [N3] at hg13
  try simp only [hg13, C5] at h
  refine Row.run 11 (by simp only [go_sem, seval, List.append_eq, List.length_map, V.isAgg, capsOf, hg13]; rfl) ?_
  refine Row.end_ (by simp only [long3, go_sem, seval]; rfl) ?_
  refine Runs.ret ?_
  try cases h
  try dsimp only [outX]
  first
  | rfl
  | (exact fk (res := [.tmp 4]) rfl rfl rfl (by simp only [fin1, go_sem, seval, List.append_eq, List.length_map, V.isAgg, capsOf, hg13]; try rfl))
theorem W4a {n : Int} {b : Bool} (h : deep0 deepA3 n = some b) : callW ip2 4 [iI n] [] = some (.ret [bI b], []) := by
 have hA1_ : True := trivial
 have hA2_ : True := trivial
 have hA3_ : True := trivial
 have hd_ : True := trivial
 simp only [deep0, ab1, wadd] at h
 refine callW_runs (fn := Tryd.f4) (L := long4) (nt := 126) (n0 := 0) (T := tab) (rw' := []) (kA := keepA) Tryd.func4 rfl rfl rfl rfl rfl rfl rfl rfl rfl ?_
 refine Runs.seq ?_
 refine Runs.reg (by simp only [go_sem, seval, List.append_eq, List.length_map, V.isAgg, capsOf]; rfl) (by simp only [long4, go_sem, seval]; rfl) ?_
 refine Runs.seq ?_
 refine Runs.reg (by simp only [go_sem, seval, List.append_eq, List.length_map, V.isAgg, capsOf, W5T]; rfl) (by simp only [long4, go_sem, seval]; rfl) ?_
 refine Runs.seq ?_
 refine Runs.seq ?_
 refine Runs.reg (by simp only [go_sem, seval, List.append_eq, List.length_map, V.isAgg, capsOf]; rfl) (by simp only [long4, go_sem, seval]; rfl) ?_
 refine Runs.cond (t := 16) rfl (fun hc1 => ?_) (fun hc1 => ?_)
 · exact absurd hc1 (by first | decide)
 try simp only [N3] at hc1
 try simp only [hc1, C5] at h
 refine Runs.skip ?_
 refine Runs.assoc ?_
 refine Runs.seqJ (fun en hp => ∃ (N : Int), deep1 deepA3 N = some b ∧ en = [(0, iI N), (3, bI true)] ∧ hp = []) ?_ ?_
 ·
  refine Runs.seq ?_
  refine Runs.seq ?_
  refine Runs.reg (by simp only [go_sem, seval, List.append_eq, List.length_map, V.isAgg, capsOf]; rfl) (by simp only [long4, go_sem, seval]; rfl) ?_
  refine Runs.cond (t := 18) rfl (fun hc2 => ?_) (fun hc2 => ?_)
  ·
   try simp only [N3] at hc2
   try simp only [hc2, C5] at h
   refine Runs.reg (by simp only [go_sem, seval, List.append_eq, List.length_map, V.isAgg, capsOf, hc2]; rfl) (by simp only [long4, go_sem, seval]; rfl) ?_
   refine Runs.reg (by simp only [go_sem, seval, List.append_eq, List.length_map, V.isAgg, capsOf, hc2]; rfl) (by simp only [long4, go_sem, seval]; rfl) ?_
   exact ⟨_, h, by first | rfl | (simp only [go_sem, seval, List.append_eq, List.length_map, V.isAgg, capsOf, hc2]; try rfl), by first | rfl | (simp only [go_sem, seval, List.append_eq, List.length_map, V.isAgg, capsOf, hc2]; try rfl)⟩
  try simp only [N3] at hc2
  try simp only [hc2, C5] at h
  refine Runs.skip ?_
  refine Runs.reg (by simp only [go_sem, seval, List.append_eq, List.length_map, V.isAgg, capsOf, hc2]; rfl) (by simp only [long4, go_sem, seval]; rfl) ?_
  exact ⟨_, h, by first | rfl | (simp only [go_sem, seval, List.append_eq, List.length_map, V.isAgg, capsOf, hc2]; try rfl), by first | rfl | (simp only [go_sem, seval, List.append_eq, List.length_map, V.isAgg, capsOf, hc2]; try rfl)⟩
 clear h
 rintro en hp ⟨n1, h, rfl, rfl⟩
 simp only [deep1] at h
 refine Runs.seq ?_
 refine Runs.reg (by simp only [go_sem, seval, List.append_eq, List.length_map, V.isAgg, capsOf]; rfl) (by simp only [long4, go_sem, seval]; rfl) ?_
 refine Runs.seq ?_
 refine Runs.reg (by simp only [go_sem, seval, List.append_eq, List.length_map, V.isAgg, capsOf]; rfl) (by simp only [long4, go_sem, seval]; rfl) ?_
 refine Runs.seq ?_
 refine Runs.seq ?_
 refine Runs.reg (by simp only [go_sem, seval, List.append_eq, List.length_map, V.isAgg, capsOf]; rfl) (by simp only [long4, go_sem, seval]; rfl) ?_
 refine Runs.block ?_
 obtain ⟨j3, h, hk3⟩ := some_bind h
 refine Runs.loop_rel (fun mz_ en hp => ∃ (x : Int × Bytes × Bytes), loopO (dpB n1) mz_ x = some j3 ∧ en = [(0, iI n1), (3, bI true), (4, sI x.2.2), (5, sI x.2.1), (6, iI x.1)] ∧ hp = []) ?_ ⟨_, h, (by first | rfl | (simp only [go_sem, seval, List.append_eq, List.length_map, V.isAgg, capsOf]; done) | (simp only [go_sem, seval, List.append_eq, List.length_map, V.isAgg, capsOf]; rfl)), (by first | rfl | (simp only [go_sem, seval, List.append_eq, List.length_map, V.isAgg, capsOf]; done) | (simp only [go_sem, seval, List.append_eq, List.length_map, V.isAgg, capsOf]; rfl))⟩
 clear h
 rintro m3 en hp ⟨⟨i, nm, tx⟩, h, rfl, rfl⟩
 obtain _ | m3 := m3
 · cases h
 simp only [loopO, dpB, wadd] at h
 obtain ⟨r3, h, g3⟩ := some_bind h
 refine Runs.seq ?_
 refine Runs.seq ?_
 refine Runs.reg (by simp only [go_sem, seval, List.append_eq, List.length_map, V.isAgg, capsOf]; rfl) (by simp only [long4, go_sem, seval]; rfl) ?_
 refine Runs.cond (t := 27) rfl (fun hc4 => ?_) (fun hc4 => ?_)
 ·
  try simp only [N3] at hc4
  try simp only [hc4, C5] at h
  refine Runs.skip ?_
  refine Runs.seq ?_
  refine Runs.block ?_
  refine Runs.seq ?_
  obtain ⟨y_, hy_, h⟩ := some_bind h
  obtain ⟨hl1_, rfl⟩ := addS_some hy_
  try dsimp only at h
  have hA1_ := leB (x := nm) (by (try simp only [List.length_append] at hl1_); omega)
  try simp only [List.length_append, List.length_cons, List.length_nil, seval] at h
  refine Runs.reg (by simp only [go_sem, seval, List.append_eq, List.length_map, V.isAgg, capsOf, hA1_, hA2_, hA3_, leR1, leR2, leR3, hc4]; rfl) (by simp only [long4, go_sem, seval]; rfl) ?_
  refine Runs.seq ?_
  refine Runs.seq ?_
  refine Runs.reg (by simp only [go_sem, seval, List.append_eq, List.length_map, V.isAgg, capsOf, hc4]; rfl) (by simp only [long4, go_sem, seval]; rfl) ?_
  refine Runs.cond (t := 34) rfl (fun hc5 => ?_) (fun hc5 => ?_)
  ·
   try simp only [N3] at hc5
   try simp only [hc5, C5] at h
   refine Runs.seq ?_
   refine Runs.reg (by simp only [go_sem, seval, List.append_eq, List.length_map, V.isAgg, capsOf, hc4, hc5]; rfl) (by simp only [long4, go_sem, seval]; rfl) ?_
   refine Runs.ret ?_
   cases h
   cases g3
   have h := hk3
   try dsimp only at h
   try simp only [hc4, hc5, cond_true, cond_false] at h
   try simp only [deep2] at h
   try cases h
   try dsimp only [outX]
   first
   | rfl
   | (exact fk (res := [.tmp 2]) rfl rfl rfl (by simp only [fin1, go_sem, seval, List.append_eq, List.length_map, V.isAgg, capsOf, hc4, hc5]; try rfl))
  try simp only [N3] at hc5
  try simp only [hc5, C5] at h
  refine Runs.skip ?_
  refine Runs.seq ?_
  obtain ⟨y_, hy_, h⟩ := some_bind h
  obtain ⟨hl1_, rfl⟩ := addS_some hy_
  try dsimp only at h
  obtain ⟨y_, hy_, h⟩ := some_bind h
  obtain ⟨hl2_, rfl⟩ := addS_some hy_
  try dsimp only at h
  obtain ⟨y_, hy_, h⟩ := some_bind h
  obtain ⟨hl3_, rfl⟩ := addS_some hy_
  try dsimp only at h
  obtain ⟨y_, hy_, h⟩ := some_bind h
  obtain ⟨hl4_, rfl⟩ := addS_some hy_
  try dsimp only at h
  obtain ⟨y_, hy_, h⟩ := some_bind h
  obtain ⟨hl5_, rfl⟩ := addS_some hy_
  try dsimp only at h
  have hA1_ := leB (x := nm) (by (try simp only [List.length_append] at hl5_); omega)
  have hA2_ := leB (x := tx) (by (try simp only [List.length_append] at hl5_); omega)
  have hA3_ : ∀ K, 1000000 ≤ K → (List.length tx + (List.length nm + 1 + 5 + List.length nm + 5 + 1 + 1 + 1 + 1 + 1 + 1 + 1) ≤ K) = True := by
   have h1 := hA1_ 100000 (Nat.le_refl _)
   have h2 := hA2_ 100000 (Nat.le_refl _)
   simp only [eq_iff_iff, iff_true] at h1 h2 ⊢
   omega
  refine Runs.reg (by simp only [go_sem, seval, List.append_eq, List.length_map, V.isAgg, capsOf, hA1_, hA2_, hA3_, leR1, leR2, leR3, hc4, hc5]; rfl) (by simp only [long4, go_sem, seval]; rfl) ?_
  refine Runs.reg (by simp only [go_sem, seval, List.append_eq, List.length_map, V.isAgg, capsOf, hc4, hc5]; rfl) (by simp only [long4, go_sem, seval]; rfl) ?_
  refine Runs.reg (by simp only [go_sem, seval, List.append_eq, List.length_map, V.isAgg, capsOf, hc4, hc5]; rfl) (by simp only [long4, go_sem, seval]; rfl) ?_
  cases h
  refine ⟨m3, Nat.lt_succ_self _, _, _, by simp only [go_sem, seval, List.append_eq, List.length_map, V.isAgg, capsOf]; try rfl, _, g3, rfl, rfl⟩
 try simp only [N3] at hc4
 try simp only [hc4, C5] at h
 refine Runs.exit ?_
 cases h
 cases g3
 have h := hk3
 try dsimp only at h
 try simp only [hc4, cond_true, cond_false] at h
 refine Runs.seq ?_
 simp only [deep2] at h
 obtain ⟨y_, hy_, h⟩ := some_bind h
 obtain ⟨hl1_, rfl⟩ := addS_some hy_
 try dsimp only at h
 obtain ⟨y_, hy_, h⟩ := some_bind h
 obtain ⟨hl2_, rfl⟩ := addS_some hy_
 try dsimp only at h
 obtain ⟨y_, hy_, h⟩ := some_bind h
 obtain ⟨hl3_, rfl⟩ := addS_some hy_
 try dsimp only at h
 have hA1_ := leB (x := nm) (by (try simp only [List.length_append] at hl3_); omega)
 have hA2_ := leB (x := tx) (by (try simp only [List.length_append] at hl3_); omega)
 obtain ⟨⟨l6, c6, a6⟩, h6, h⟩ := some_bind h
 have w6 := V6 h6
 try dsimp only at h
 try simp only [go_sem, seval] at w6
 refine Runs.reg (by simp only [go_sem, seval, List.append_eq, List.length_map, V.isAgg, capsOf, hA1_, hA2_, hA3_, leR1, leR2, leR3, w6, hc4]; rfl) (by simp only [long4, go_sem, seval]; rfl) ?_
 refine Runs.seq ?_
 obtain ⟨r7, h7, h⟩ := some_bind h
 have w7 := V7 h7
 try dsimp only at h
 try dsimp only at h
 obtain ⟨m_, rfl, rfl, hn_, rfl⟩ := deepA3_some h
 have hd_ := decide_eq_true hn_
 try dsimp only [res7] at w7
 refine Runs.reg (by simp only [go_sem, seval, List.append_eq, List.length_map, V.isAgg, capsOf, w7, hc4]; rfl) (by simp only [long4, go_sem, seval]; rfl) ?_
 refine Runs.seq ?_
 refine Runs.seq ?_
 refine Runs.reg (by simp only [go_sem, seval, List.append_eq, List.length_map, V.isAgg, capsOf, hc4]; rfl) (by simp only [long4, go_sem, seval]; rfl) ?_
 refine Runs.cond (t := 61) rfl (fun hc8 => ?_) (fun hc8 => ?_)
 · exact absurd hc8 (by first | decide | (simp only [hc4]; decide))
 try simp only [N3] at hc8
 try simp only [hc8, C5] at h
 refine Runs.skip ?_
 refine Runs.seq ?_
 refine Runs.seq ?_
 refine Runs.reg (by simp only [go_sem, seval, List.append_eq, List.length_map, V.isAgg, capsOf, hc4]; rfl) (by simp only [long4, go_sem, seval]; rfl) ?_
 refine Runs.cond (t := 63) rfl (fun hc9 => ?_) (fun hc9 => ?_)
 rotate_left
 · exact absurd hc9 (by first | decide | (simp only [hc4]; decide) | (simp only [hd_]; decide))
 try simp only [N3] at hc9
 try simp only [hc9, C5] at h
 refine Runs.seq ?_
 refine Runs.row ?_
 refine Row.run 12 (by simp only [go_sem, seval, List.append_eq, List.length_map, V.isAgg, capsOf, hc4]; rfl) ?_
 refine Row.end_ (by simp only [long4, go_sem, seval]; rfl) ?_
 refine Runs.ret ?_
 try simp only [deep2] at h
 try cases h
 try dsimp only [outX]
 first
 | rfl
 | (exact fk (res := [.tmp 2]) rfl rfl rfl (by simp only [fin1, go_sem, seval, List.append_eq, List.length_map, V.isAgg, capsOf, hc4]; try rfl))
theorem W4b {n : Int} {b : Bool} (h : deep0 deepB3 n = some b) : callW ip2 4 [iI n] [] = some (.ret [bI b], []) := by
 have hA1_ : True := trivial
 have hA2_ : True := trivial
 have hA3_ : True := trivial
 have hd_ : True := trivial
 simp only [deep0, ab1, wadd] at h
 refine callW_runs (fn := Tryd.f4) (L := long4) (nt := 126) (n0 := 0) (T := tab) (rw' := []) (kA := keepA) Tryd.func4 rfl rfl rfl rfl rfl rfl rfl rfl rfl ?_
 refine Runs.seq ?_
 refine Runs.reg (by simp only [go_sem, seval, List.append_eq, List.length_map, V.isAgg, capsOf]; rfl) (by simp only [long4, go_sem, seval]; rfl) ?_
 refine Runs.seq ?_
 refine Runs.reg (by simp only [go_sem, seval, List.append_eq, List.length_map, V.isAgg, capsOf, W5T]; rfl) (by simp only [long4, go_sem, seval]; rfl) ?_
 refine Runs.seq ?_
 refine Runs.seq ?_
 refine Runs.reg (by simp only [go_sem, seval, List.append_eq, List.length_map, V.isAgg, capsOf]; rfl) (by simp only [long4, go_sem, seval]; rfl) ?_
 refine Runs.cond (t := 16) rfl (fun hc1 => ?_) (fun hc1 => ?_)
 · exact absurd hc1 (by first | decide)
 try simp only [N3] at hc1
 try simp only [hc1, C5] at h
 refine Runs.skip ?_
 refine Runs.assoc ?_
 refine Runs.seqJ (fun en hp => ∃ (N : Int), deep1 deepB3 N = some b ∧ en = [(0, iI N), (3, bI true)] ∧ hp = []) ?_ ?_
 ·
  refine Runs.seq ?_
  refine Runs.seq ?_
  refine Runs.reg (by simp only [go_sem, seval, List.append_eq, List.length_map, V.isAgg, capsOf]; rfl) (by simp only [long4, go_sem, seval]; rfl) ?_
  refine Runs.cond (t := 18) rfl (fun hc2 => ?_) (fun hc2 => ?_)
  ·
   try simp only [N3] at hc2
   try simp only [hc2, C5] at h
   refine Runs.reg (by simp only [go_sem, seval, List.append_eq, List.length_map, V.isAgg, capsOf, hc2]; rfl) (by simp only [long4, go_sem, seval]; rfl) ?_
   refine Runs.reg (by simp only [go_sem, seval, List.append_eq, List.length_map, V.isAgg, capsOf, hc2]; rfl) (by simp only [long4, go_sem, seval]; rfl) ?_
   exact ⟨_, h, by first | rfl | (simp only [go_sem, seval, List.append_eq, List.length_map, V.isAgg, capsOf, hc2]; try rfl), by first | rfl | (simp only [go_sem, seval, List.append_eq, List.length_map, V.isAgg, capsOf, hc2]; try rfl)⟩
  try simp only [N3] at hc2
  try simp only [hc2, C5] at h
  refine Runs.skip ?_
  refine Runs.reg (by simp only [go_sem, seval, List.append_eq, List.length_map, V.isAgg, capsOf, hc2]; rfl) (by simp only [long4, go_sem, seval]; rfl) ?_
  exact ⟨_, h, by first | rfl | (simp only [go_sem, seval, List.append_eq, List.length_map, V.isAgg, capsOf, hc2]; try rfl), by first | rfl | (simp only [go_sem, seval, List.append_eq, List.length_map, V.isAgg, capsOf, hc2]; try rfl)⟩
 clear h
 rintro en hp ⟨n1, h, rfl, rfl⟩
 simp only [deep1] at h
 refine Runs.seq ?_
 refine Runs.reg (by simp only [go_sem, seval, List.append_eq, List.length_map, V.isAgg, capsOf]; rfl) (by simp only [long4, go_sem, seval]; rfl) ?_
 refine Runs.seq ?_
 refine Runs.reg (by simp only [go_sem, seval, List.append_eq, List.length_map, V.isAgg, capsOf]; rfl) (by simp only [long4, go_sem, seval]; rfl) ?_
 refine Runs.seq ?_
 refine Runs.seq ?_
 refine Runs.reg (by simp only [go_sem, seval, List.append_eq, List.length_map, V.isAgg, capsOf]; rfl) (by simp only [long4, go_sem, seval]; rfl) ?_
 refine Runs.block ?_
 obtain ⟨j3, h, hk3⟩ := some_bind h
 refine Runs.loop_rel (fun mz_ en hp => ∃ (x : Int × Bytes × Bytes), loopO (dpB n1) mz_ x = some j3 ∧ en = [(0, iI n1), (3, bI true), (4, sI x.2.2), (5, sI x.2.1), (6, iI x.1)] ∧ hp = []) ?_ ⟨_, h, (by first | rfl | (simp only [go_sem, seval, List.append_eq, List.length_map, V.isAgg, capsOf]; done) | (simp only [go_sem, seval, List.append_eq, List.length_map, V.isAgg, capsOf]; rfl)), (by first | rfl | (simp only [go_sem, seval, List.append_eq, List.length_map, V.isAgg, capsOf]; done) | (simp only [go_sem, seval, List.append_eq, List.length_map, V.isAgg, capsOf]; rfl))⟩
 clear h
 rintro m3 en hp ⟨⟨i, nm, tx⟩, h, rfl, rfl⟩
 obtain _ | m3 := m3
 · cases h
 simp only [loopO, dpB, wadd] at h
 obtain ⟨r3, h, g3⟩ := some_bind h
 refine Runs.seq ?_
 refine Runs.seq ?_
 refine Runs.reg (by simp only [go_sem, seval, List.append_eq, List.length_map, V.isAgg, capsOf]; rfl) (by simp only [long4, go_sem, seval]; rfl) ?_
 refine Runs.cond (t := 27) rfl (fun hc4 => ?_) (fun hc4 => ?_)
 ·
  try simp only [N3] at hc4
  try simp only [hc4, C5] at h
  refine Runs.skip ?_
  refine Runs.seq ?_
  refine Runs.block ?_
  refine Runs.seq ?_
  obtain ⟨y_, hy_, h⟩ := some_bind h
  obtain ⟨hl1_, rfl⟩ := addS_some hy_
  try dsimp only at h
  have hA1_ := leB (x := nm) (by (try simp only [List.length_append] at hl1_); omega)
  try simp only [List.length_append, List.length_cons, List.length_nil, seval] at h
  refine Runs.reg (by simp only [go_sem, seval, List.append_eq, List.length_map, V.isAgg, capsOf, hA1_, hA2_, hA3_, leR1, leR2, leR3, hc4]; rfl) (by simp only [long4, go_sem, seval]; rfl) ?_
  refine Runs.seq ?_
  refine Runs.seq ?_
  refine Runs.reg (by simp only [go_sem, seval, List.append_eq, List.length_map, V.isAgg, capsOf, hc4]; rfl) (by simp only [long4, go_sem, seval]; rfl) ?_
  refine Runs.cond (t := 34) rfl (fun hc5 => ?_) (fun hc5 => ?_)
  ·
   try simp only [N3] at hc5
   try simp only [hc5, C5] at h
   refine Runs.seq ?_
   refine Runs.reg (by simp only [go_sem, seval, List.append_eq, List.length_map, V.isAgg, capsOf, hc4, hc5]; rfl) (by simp only [long4, go_sem, seval]; rfl) ?_
   refine Runs.ret ?_
   cases h
   cases g3
   have h := hk3
   try dsimp only at h
   try simp only [hc4, hc5, cond_true, cond_false] at h
   try simp only [deep2] at h
   try cases h
   try dsimp only [outX]
   first
   | rfl
   | (exact fk (res := [.tmp 2]) rfl rfl rfl (by simp only [fin1, go_sem, seval, List.append_eq, List.length_map, V.isAgg, capsOf, hc4, hc5]; try rfl))
  try simp only [N3] at hc5
  try simp only [hc5, C5] at h
  refine Runs.skip ?_
  refine Runs.seq ?_
  obtain ⟨y_, hy_, h⟩ := some_bind h
  obtain ⟨hl1_, rfl⟩ := addS_some hy_
  try dsimp only at h
  obtain ⟨y_, hy_, h⟩ := some_bind h
  obtain ⟨hl2_, rfl⟩ := addS_some hy_
  try dsimp only at h
  obtain ⟨y_, hy_, h⟩ := some_bind h
  obtain ⟨hl3_, rfl⟩ := addS_some hy_
  try dsimp only at h
  obtain ⟨y_, hy_, h⟩ := some_bind h
  obtain ⟨hl4_, rfl⟩ := addS_some hy_
  try dsimp only at h
  obtain ⟨y_, hy_, h⟩ := some_bind h
  obtain ⟨hl5_, rfl⟩ := addS_some hy_
  try dsimp only at h
  have hA1_ := leB (x := nm) (by (try simp only [List.length_append] at hl5_); omega)
  have hA2_ := leB (x := tx) (by (try simp only [List.length_append] at hl5_); omega)
  have hA3_ : ∀ K, 1000000 ≤ K → (List.length tx + (List.length nm + 1 + 5 + List.length nm + 5 + 1 + 1 + 1 + 1 + 1 + 1 + 1) ≤ K) = True := by
   have h1 := hA1_ 100000 (Nat.le_refl _)
   have h2 := hA2_ 100000 (Nat.le_refl _)
   simp only [eq_iff_iff, iff_true] at h1 h2 ⊢
   omega
  refine Runs.reg (by simp only [go_sem, seval, List.append_eq, List.length_map, V.isAgg, capsOf, hA1_, hA2_, hA3_, leR1, leR2, leR3, hc4, hc5]; rfl) (by simp only [long4, go_sem, seval]; rfl) ?_
  refine Runs.reg (by simp only [go_sem, seval, List.append_eq, List.length_map, V.isAgg, capsOf, hc4, hc5]; rfl) (by simp only [long4, go_sem, seval]; rfl) ?_
  refine Runs.reg (by simp only [go_sem, seval, List.append_eq, List.length_map, V.isAgg, capsOf, hc4, hc5]; rfl) (by simp only [long4, go_sem, seval]; rfl) ?_
  cases h
  refine ⟨m3, Nat.lt_succ_self _, _, _, by simp only [go_sem, seval, List.append_eq, List.length_map, V.isAgg, capsOf]; try rfl, _, g3, rfl, rfl⟩
 try simp only [N3] at hc4
 try simp only [hc4, C5] at h
 refine Runs.exit ?_
 cases h
 cases g3
 have h := hk3
 try dsimp only at h
 try simp only [hc4, cond_true, cond_false] at h
 refine Runs.seq ?_
 simp only [deep2] at h
 obtain ⟨y_, hy_, h⟩ := some_bind h
 obtain ⟨hl1_, rfl⟩ := addS_some hy_
 try dsimp only at h
 obtain ⟨y_, hy_, h⟩ := some_bind h
 obtain ⟨hl2_, rfl⟩ := addS_some hy_
 try dsimp only at h
 obtain ⟨y_, hy_, h⟩ := some_bind h
 obtain ⟨hl3_, rfl⟩ := addS_some hy_
 try dsimp only at h
 have hA1_ := leB (x := nm) (by (try simp only [List.length_append] at hl3_); omega)
 have hA2_ := leB (x := tx) (by (try simp only [List.length_append] at hl3_); omega)
 obtain ⟨⟨l6, c6, a6⟩, h6, h⟩ := some_bind h
 have w6 := V6 h6
 try dsimp only at h
 try simp only [go_sem, seval] at w6
 refine Runs.reg (by simp only [go_sem, seval, List.append_eq, List.length_map, V.isAgg, capsOf, hA1_, hA2_, hA3_, leR1, leR2, leR3, w6, hc4]; rfl) (by simp only [long4, go_sem, seval]; rfl) ?_
 refine Runs.seq ?_
 obtain ⟨r7, h7, h⟩ := some_bind h
 have w7 := V7 h7
 try dsimp only at h
 try dsimp only at h
 obtain ⟨u0_, u1_, m_, s_, rfl, rfl, hn_, hb_, h⟩ := deepB3_some h
 have hd_ := decide_eq_false (Int.not_lt.2 hn_)
 try dsimp only [res7] at w7
 refine Runs.reg (by simp only [go_sem, seval, List.append_eq, List.length_map, V.isAgg, capsOf, w7, hc4]; rfl) (by simp only [long4, go_sem, seval]; rfl) ?_
 refine Runs.seq ?_
 refine Runs.seq ?_
 refine Runs.reg (by simp only [go_sem, seval, List.append_eq, List.length_map, V.isAgg, capsOf, hc4]; rfl) (by simp only [long4, go_sem, seval]; rfl) ?_
 refine Runs.cond (t := 61) rfl (fun hc8 => ?_) (fun hc8 => ?_)
 · exact absurd hc8 (by first | decide | (simp only [hc4]; decide))
 try simp only [N3] at hc8
 try simp only [hc8, C5] at h
 refine Runs.skip ?_
 refine Runs.seq ?_
 refine Runs.seq ?_
 refine Runs.reg (by simp only [go_sem, seval, List.append_eq, List.length_map, V.isAgg, capsOf, hc4]; rfl) (by simp only [long4, go_sem, seval]; rfl) ?_
 refine Runs.cond (t := 63) rfl (fun hc9 => ?_) (fun hc9 => ?_)
 · exact absurd hc9 (by first | decide | (simp only [hc4]; decide) | (simp only [hd_]; decide))
 try simp only [N3] at hc9
 try simp only [hc9, C5] at h
 refine Runs.skip ?_
 refine Runs.seq ?_
 refine Runs.seq ?_
 refine Runs.row ?_
 refine Row.run 16 (by simp only [go_sem, seval, List.append_eq, List.length_map, V.isAgg, capsOf, hb_, hc4]; rfl) ?_
 refine Row.end_ (by simp only [long4, go_sem, seval]; rfl) ?_
 refine Runs.cond (t := 90) rfl (fun hc10 => ?_) (fun hc10 => ?_)
 · exact absurd hc10 (by first | decide | (simp only [hc4]; decide))
 try simp only [N3] at hc10
 try simp only [hc10, C5] at h
 refine Runs.skip ?_
 refine Runs.seq ?_
 refine Runs.reg (by simp only [go_sem, seval, List.append_eq, List.length_map, V.isAgg, capsOf, hb_, hc4]; rfl) (by simp only [long4, go_sem, seval]; rfl) ?_
 refine Runs.seq ?_
 refine Runs.seq ?_
 refine Runs.reg (by simp only [go_sem, seval, List.append_eq, List.length_map, V.isAgg, capsOf, hc4]; rfl) (by simp only [long4, go_sem, seval]; rfl) ?_
 refine Runs.block ?_
 obtain ⟨j11, h, hk11⟩ := some_bind h
 refine Runs.loop_rel (fun mz_ en hp => ∃ (x : Int × Stmt), loopO (dpE n1) mz_ x = some j11 ∧ en = [(0, iI n1), (3, bI true), (11, .c (.ptr 0 0)), (12, .c (.ptr 1 0)), (13, iI x.1)] ∧ hp = [.box [.d (.int .i64 0), .d (.int .i64 0)], sBox x.2]) ?_ ⟨_, h, (by first | rfl | (simp only [go_sem, seval, List.append_eq, List.length_map, V.isAgg, capsOf]; done) | (simp only [go_sem, seval, List.append_eq, List.length_map, V.isAgg, capsOf]; rfl)), (by first | rfl | (simp only [go_sem, seval, List.append_eq, List.length_map, V.isAgg, capsOf]; done) | (simp only [go_sem, seval, List.append_eq, List.length_map, V.isAgg, capsOf]; rfl))⟩
 clear h
 rintro m11 en hp ⟨⟨i, s⟩, h, rfl, rfl⟩
 obtain _ | m11 := m11
 · cases h
 simp only [loopO, dpE, wadd] at h
 obtain ⟨r11, h, g11⟩ := some_bind h
 refine Runs.seq ?_
 refine Runs.seq ?_
 refine Runs.reg (by simp only [go_sem, seval, List.append_eq, List.length_map, V.isAgg, capsOf]; rfl) (by simp only [long4, go_sem, seval]; rfl) ?_
 refine Runs.cond (t := 99) rfl (fun hc12 => ?_) (fun hc12 => ?_)
 ·
  try simp only [N3] at hc12
  try simp only [hc12, C5] at h
  refine Runs.skip ?_
  refine Runs.seq ?_
  refine Runs.block ?_
  refine Runs.seq ?_
  refine Runs.seq ?_
  obtain ⟨hk_, t_, hbb_, h⟩ := dpD_some h
  refine Runs.row ?_
  refine Row.run 9 (by simp only [go_sem, seval, List.append_eq, List.length_map, V.isAgg, capsOf, hk_, hbb_, hc12]; rfl) ?_
  refine Row.end_ (by simp only [long4, go_sem, seval]; rfl) ?_
  refine Runs.cond (t := 110) rfl (fun hc13 => ?_) (fun hc13 => ?_)
  · exact absurd hc13 (by first | decide | (simp only [hc12]; decide))
  try simp only [N3] at hc13
  try simp only [hc13, C5] at h
  refine Runs.skip ?_
  refine Runs.reg (by simp only [go_sem, seval, List.append_eq, List.length_map, V.isAgg, capsOf, hk_, hbb_, hc12]; rfl) (by simp only [long4, go_sem, seval]; rfl) ?_
  refine Runs.reg (by simp only [go_sem, seval, List.append_eq, List.length_map, V.isAgg, capsOf, hc12]; rfl) (by simp only [long4, go_sem, seval]; rfl) ?_
  cases h
  refine ⟨m11, Nat.lt_succ_self _, _, _, by simp only [go_sem, seval, List.append_eq, List.length_map, V.isAgg, capsOf]; try rfl, _, g11, rfl, rfl⟩
 try simp only [N3] at hc12
 try simp only [hc12, C5] at h
 refine Runs.exit ?_
 cases h
 cases g11
 have h := hk11
 try dsimp only at h
 try simp only [hc12, cond_true, cond_false] at h
 refine Runs.seq ?_
 refine Runs.row ?_
 refine Row.run 12 (by simp only [go_sem, seval, List.append_eq, List.length_map, V.isAgg, capsOf, hc12]; rfl) ?_
 refine Row.end_ (by simp only [long4, go_sem, seval]; rfl) ?_
 refine Runs.ret ?_
 try simp only [deep2] at h
 try cases h
 try dsimp only [outX]
 first
 | rfl
 | (exact fk (res := [.tmp 2]) rfl rfl rfl (by simp only [fin1, go_sem, seval, List.append_eq, List.length_map, V.isAgg, capsOf, hc12]; try rfl))
end Go.Proofs.YtmkacifjegnehaaDoor
