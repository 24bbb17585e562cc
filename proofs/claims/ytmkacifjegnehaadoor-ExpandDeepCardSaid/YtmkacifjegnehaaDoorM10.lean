import Derived.Test.YtmkacifjegnehaaDoorM9
namespace Go.Proofs.YtmkacifjegnehaaDoor
open Go Go.Proofs Go.Proofs.YtmkacifjegnehaaDoor.Ab
set_option linter.unusedSimpArgs false
set_option linter.unusedVariables false
set_option maxRecDepth 10000
set_option maxHeartbeats 8000000
theorem Ab.finK_nrm {I : Ip} {g : Nat} {fn : Func} {n0 : Nat} {T : Nat → Option TI} (hT : I.T = T) {res : List ResultVar} (hres : fn.results.toList = res) (hk : I.keepR g = false) {e e' : List (Nat × V)} {H H' H2 : List O} {vs vs' : List V} (h1 : resRaw T e H res = some vs) (h2 : sealAll n0 (vs.flatMap rowRefs) e H = (e', H')) (h3 : resOf T ⟨e', H'⟩ res = some vs') (h4 : (H'.take n0).map (O.cut n0) = H2) : finK I g fn n0 (.ret vs', H2) .normal e H := by
  subst hT hres h4
  simp only [finK, finX, h1, hk, h2, h3]
theorem Ab.finK_pan {I : Ip} {g : Nat} {fn : Func} {n0 t : Nat} {cs : List D} {e : List (Nat × V)} {H H2 : List O} (h4 : (H.take n0).map (O.cut n0) = H2) : finK I g fn n0 (.panic t cs, H2) (.panic t cs) e H := by
  subst h4; rfl
theorem Ab.Runs.seqJ {call : CallF} {F : Fp} {kA : Nat → Bool} {L : Nat → Lv} {pl : Plans} {c d : Code} {e : List (Nat × V)} {H : List O} {K : Ex → List (Nat × V) → List O → Prop} (mid : List (Nat × V) → List O → Prop) (h1 : Runs call F kA L pl c e H (normK mid K)) (h2 : ∀ e H, mid e H → Runs call F kA L pl d e H K) : Runs call F kA L pl (.seq c d) e H K :=
  Runs.seq (h1.mono fun x e H hx => by
    cases x with
    | normal => exact h2 e H hx
    | exit id => exact hx
    | ret => exact hx
    | panic t cs => exact hx)
structure MS where
  inl : List (Bytes × Uni)
  parts : Int
  calls : Int
  pos : Int
structure Sc where
  args : List (Bytes × Ast)
  names : List (Bytes × Bytes)
  marks : List (Bytes × Bytes)
  deep : Int
def sc0 : Sc := ⟨[], [], [], 0⟩
def entU (x : Bytes × Uni) : Bytes × Bool × List D := (x.1, true, uniD x.2)
def entA (x : Bytes × Ast) : Bytes × Bool × List D := (x.1, true, astD x.2)
def entS (x : Bytes × Bytes) : Bytes × Bool × List D := (x.1, false, [.str x.2])
abbrev mBox (m : MS) : O := .box [.mp 1, .d (.int .i64 m.parts), .d (.int .i64 m.calls), .d (.int .i64 m.pos)]
abbrev mMap (m : MS) : O := .mp (m.inl.map entU)
abbrev scV (s : Sc) : V := .agg [.d (.fm (s.args.map entA)), .d (.fm (s.names.map entS)), .d (.fm (s.marks.map entS)), .d (.int .i64 s.deep)]
inductive Xr (α : Type) (σ : Type := MS) where
  | ok (a : α) (m : σ)
  | pan (c z : Int) (m : σ)
def outX {α : Type} (f : α → List V) (r : Xr α) : Res × List O := match r with
  | .ok a m => (.ret (f a), [mBox m, mMap m])
  | .pan c z m => (.panic 26 [.int .i64 c, .int .i64 z], [mBox m, mMap m])
def bindX {α β σ : Type} (x : Option (Xr α σ)) (f : α → σ → Option (Xr β σ)) : Option (Xr β σ) := x.bind fun r => match r with
  | .ok a m => f a m
  | .pan c z m => some (.pan c z m)
theorem bindX_some {α β σ : Type} {x : Option (Xr α σ)} {f : α → σ → Option (Xr β σ)} {r : Xr β σ} (h : bindX x f = some r) : ∃ r1, x = some r1 ∧ (match r1 with
    | .ok a m => f a m = some r
    | .pan c z m => r = .pan c z m) := by
  cases x with
  | none => cases h
  | some r1 =>
    refine ⟨r1, rfl, ?_⟩
    cases r1 with
    | ok a m => exact h
    | pan c z m => injection h with h; exact h.symm
def foldX {α β σ : Type} (f : α → β → σ → Option (Xr β σ)) : List α → β → σ → Option (Xr β σ)
  | [], b, m => some (.ok b m)
  | x :: l, b, m => bindX (f x b m) fun b m => foldX f l b m
def lookP {α : Type} : List (Bytes × α) → Bytes → Option α
  | [], _ => none
  | x :: l, k => if x.1 = k then some x.2 else lookP l k
theorem lookU (l : List (Bytes × Uni)) (k : Bytes) : lookE (l.map entU) k = (lookP l k).map fun u => (true, uniD u) := by
  induction l with
  | nil => rfl
  | cons x l ih => simp only [List.map_cons, lookE, lookP, ih, entU]; split <;> rfl
theorem lookA (l : List (Bytes × Ast)) (k : Bytes) : lookE (l.map entA) k = (lookP l k).map fun u => (true, astD u) := by
  induction l with
  | nil => rfl
  | cons x l ih => simp only [List.map_cons, lookE, lookP, ih, entA]; split <;> rfl
theorem lookS (l : List (Bytes × Bytes)) (k : Bytes) : lookE (l.map entS) k = (lookP l k).map fun u => (false, [.str u]) := by
  induction l with
  | nil => rfl
  | cons x l ih => simp only [List.map_cons, lookE, lookP, ih, entS]; split <;> rfl
def countX (m : MS) : Option (Xr Unit) := cond (decide (20000 < wadd m.parts 1)) (some (.pan 43 0 { m with parts := wadd m.parts 1 })) (some (.ok () { m with parts := wadd m.parts 1 }))

/-! ### Texts in rows -/
def idxB (w : Bytes) : List Bytes → Nat → Int
  | [], _ => -1
  | x :: l, i => cond (w == x) (i : Int) (idxB w l (i + 1))
def hasW (l : List Bytes) (w : Bytes) : Bool := l.contains w
def asX (f : Sc → Ast → MS → Option (Xr Ast)) (s : Sc) (e : Ast) (out : List Ast) (m : MS) : Option (Xr (List Ast)) := bindX (f s e m) fun e m => (appP out [e]).bind fun out => some (.ok out m)
def astsX (f : Sc → Ast → MS → Option (Xr Ast)) (s : Sc) (l : List Ast) (m : MS) : Option (Xr (List Ast)) := lenO l (foldX (asX f s) l [] m)
def agX (f : Sc → Ast → MS → Option (Xr Ast)) (s : Sc) (a : Arg) (out : List Arg) (m : MS) : Option (Xr (List Arg)) := bindX (f s a.e m) fun e m => cond a.mtch ((appP out [⟨true, a.any, e⟩]).bind fun out => some (.ok out m)) (cond a.any ((appP out [⟨false, true, e⟩]).bind fun out => some (.ok out m)) ((appP out [⟨e.kind != 2, false, e⟩]).bind fun out => some (.ok out m)))
def argsX (f : Sc → Ast → MS → Option (Xr Ast)) (s : Sc) (l : List Arg) (m : MS) : Option (Xr (List Arg)) := lenO l (foldX (agX f s) l [] m)
def endA (f : Sc → Ast → MS → Option (Xr Ast)) (s : Sc) (e : Ast) (m : MS) : Option (Xr Ast) := bindX (astsX f s e.kids m) fun k m => bindX (argsX f s e.args m) fun a m => some (.ok { e with kids := k, args := a } m)
def refA (f : Sc → Ast → MS → Option (Xr Ast)) (g : Sc → Ref → MS → Option (Xr Ref)) (s : Sc) (e : Ast) (m : MS) : Option (Xr Ast) := bindX (g s e.ref m) fun r m => endA f s { e with ref := r } m
def restA (f : Sc → Ast → MS → Option (Xr Ast)) (g : Sc → Ref → MS → Option (Xr Ref)) (s : Sc) (e : Ast) (m : MS) : Option (Xr Ast) := bindX (countX m) fun _ m => cond (e.kind == 2) (refA f g s e m) (cond (e.kind == 6) (refA f g s e m) (cond (e.kind == 7) (refA f g s e m) (endA f s e m)))
def argA (f : Sc → Ast → MS → Option (Xr Ast)) (g : Sc → Ref → MS → Option (Xr Ref)) (s : Sc) (e : Ast) (m : MS) : Option Ast → Option (Xr Ast)
  | some a => bindX (f sc0 a m) fun e m => some (.ok e m)
  | none => restA f g s e m
def astQ (f : Sc → Ast → MS → Option (Xr Ast)) (g : Sc → Ref → MS → Option (Xr Ref)) (s : Sc) (e : Ast) (m : MS) : Option (Xr Ast) := cond (e.kind == 0) (some (.ok e m)) (cond (e.kind == 2) (cond ((e.ref.names.length : Int) == 1) ((getP e.ref.has 0).bind fun h => cond h (restA f g s e m) ((getP e.ref.names 0).bind fun x => argA f g s e m (lookP s.args x))) (restA f g s e m)) (restA f g s e m))

def setP {α : Type} (l : List α) (i : Int) (x : α) : Option (List α) := cond (decide (0 ≤ i)) (cond (decide (i.toNat < l.length)) (some (l.set i.toNat x)) none) none
def refN (xs : List Bytes) (bs : List Bool) (is : List Ast) (bn : List Bytes) (bi : List Ast) (bh : List Bool) (m : MS) : Option (Xr Ref) := (appP bn xs).bind fun n => (appP bh bs).bind fun h => (appP bi is).bind fun i => some (.ok ⟨n, i, h⟩ m)
def refM (b : Bool) (xs : List Bytes) (bs : List Bool) (q : Ref) (m : MS) : List Ast → Option (Xr Ref)
  | [] => none
  | i0 :: is => cond b ((getP q.has (wsub (q.names.length : Int) 1)).bind fun hl => cond hl (some (.pan 40 m.pos m)) ((setP q.has (wsub (q.names.length : Int) 1) true).bind fun bh => (setP q.index (wsub (q.names.length : Int) 1) i0).bind fun bi => refN xs bs is q.names bi bh m)) (refN xs bs is q.names q.index q.has m)
def refA2 (g : Sc → Ref → MS → Option (Xr Ref)) (x : Bytes) (xs : List Bytes) (b : Bool) (bs : List Bool) (ix : List Ast) (m : MS) : Option Ast → Option (Xr Ref)
  | none => some (.ok ⟨x :: xs, ix, b :: bs⟩ m)
  | some a => cond (a.kind == 2) (bindX (g sc0 a.ref m) fun q m => refM b xs bs q m ix) (some (.pan 40 m.pos m))
def refA1 (g : Sc → Ref → MS → Option (Xr Ref)) (s : Sc) (x : Bytes) (xs : List Bytes) (b : Bool) (bs : List Bool) (ix : List Ast) (m : MS) : Option Bytes → Option (Xr Ref)
  | some y => some (.ok ⟨y :: xs, ix, b :: bs⟩ m)
  | none => refA2 g x xs b bs ix m (lookP s.args x)
def capO {α β : Type} (l : List α) (x : Option β) : Option β := cond (decide (l.length ≤ 999999999)) x none
theorem capO_some {α β : Type} {l : List α} {x : Option β} {r : β} (h : capO l x = some r) : l.length ≤ 999999999 ∧ x = some r := by
  unfold capO at h
  cases hd : decide (l.length ≤ 999999999) with
  | false => rw [hd] at h; cases h
  | true => rw [hd] at h; exact ⟨of_decide_eq_true hd, h⟩
theorem setP_some {α : Type} {l r : List α} {i : Int} {x : α} (h : setP l i x = some r) : 0 ≤ i ∧ i.toNat < l.length ∧ r = l.set i.toNat x := by
  unfold setP at h
  cases h1 : decide (0 ≤ i) with
  | false => rw [h1] at h; cases h
  | true =>
    cases h2 : decide (i.toNat < l.length) with
    | false => rw [h1, h2] at h; cases h
    | true => rw [h1, h2] at h; injection h with h; exact ⟨of_decide_eq_true h1, of_decide_eq_true h2, h.symm⟩
def refQ (f : Sc → Ast → MS → Option (Xr Ast)) (g : Sc → Ref → MS → Option (Xr Ref)) (s : Sc) (r : Ref) (m : MS) : Option (Xr Ref) := match r.names with
  | [] => none
  | x :: xs => match r.has with
    | [] => none
    | b :: bs => capO xs (capO bs (bindX (lenO r.index (foldX (asX f s) r.index [] m)) fun ix m => refA1 g s x xs b bs ix m (lookP s.names x)))
mutual
def astX : Nat → Sc → Ast → MS → Option (Xr Ast)
  | 0, _, _, _ => none
  | n + 1, s, e, m => astQ (astX n) (refX n) s e m
def refX : Nat → Sc → Ref → MS → Option (Xr Ref)
  | 0, _, _, _ => none
  | n + 1, s, r, m => refQ (astX n) (refX n) s r m
end

def outRow (r : Xr Ref) : Res × List O := match r with
  | .ok r m => (.ret [.agg [.row 2, .row 3, .row 4]], [mBox m, mMap m, .row 9 1 r.names.length (rowC strD r.names), .row 39 9 r.index.length (rowC astD r.index), .row 4 1 r.has.length (rowC boD r.has)])
  | .pan c z m => (.panic 26 [.int .i64 c, .int .i64 z], [mBox m, mMap m])
structure ExpIH (n : Nat) : Prop where
  e67 : ∀ {m : MS} {s : Sc} {q : Ref} {r : Xr Ref}, refX n s q m = some r → callW ip 59 [pV, refV q, scV s] [mBox m, mMap m] = some (outRow r)
  e68 : ∀ {m : MS} {s : Sc} {e : Ast} {r : Xr Ast}, astX n s e m = some r → callW ip 60 [pV, astV e, scV s] [mBox m, mMap m] = some (outX (fun e => [astV e]) r)

theorem W41 {c z : Int} : callW ip 36 [iI c, iI z] [] = some (.panic 26 [.int .i64 c, .int .i64 z], []) := by
 refine callW_runs (fn := Tryd.f36) (L := long36) (nt := 8) (n0 := 0) (T := tab) (rw' := []) (kA := keepA) Tryd.func36 rfl rfl rfl rfl rfl rfl rfl rfl rfl ?_
 exact Runs.region_pan (by simp only [go_sem, seval]; rfl) rfl
theorem W65 {m : MS}  {r : Xr Unit} (h : countX m = some r) : callW ip 57 [pV] [mBox m, mMap m] = some (outX (fun _ => []) r) := by
 simp only [countX, wadd, wsub] at h
 refine callW_runs (fn := Tryd.f57) (L := long57) (nt := 15) (n0 := 2) (T := tab) (rw' := []) (kA := keepA) Tryd.func57 rfl rfl rfl rfl rfl rfl rfl rfl rfl ?_
 refine Runs.seq ?_
 refine Runs.reg (by simp only [go_sem, seval, outX]; rfl) (by simp only [long57, go_sem, seval]; rfl) ?_
 refine Runs.seq ?_
 refine Runs.reg (by simp only [go_sem, seval, outX]; rfl) (by simp only [long57, go_sem, seval]; rfl) ?_
 refine Runs.cond (t := 13) rfl (fun hc1 => ?_) (fun hc1 => ?_)
 ·
  try simp only [N3] at hc1
  try simp only [hc1, C5] at h
  cases h
  refine Runs.region_pan (by simp only [go_sem, seval, outX, W41, hc1]; rfl) ?_
  exact finK_pan (by simp only [go_sem, seval, outX, W41, hc1]; try rfl)
 try simp only [N3] at hc1
 try simp only [hc1, C5] at h
 refine Runs.skip ?_
 try cases h
 try dsimp only [outX]
 first
 | rfl
 | (exact fkn (res := []) rfl rfl rfl (by simp only [fin1, go_sem, seval, outX, hc1]; try rfl))
theorem W69 {n : Nat} (is : ExpIH n) {m : MS} {s : Sc} {l : List Ast} {r : Xr (List Ast)} (h : astsX (astX n) s l m = some r) : callW ip 61 [pV, slV astD l, scV s] [mBox m, mMap m] = some (outX (fun l => [slV astD l]) r) := by
 simp only [astsX, wadd, wsub] at h
 refine callW_runs (fn := Tryd.f61) (L := long61) (nt := 25) (n0 := 2) (T := tab) (rw' := []) (kA := keepA) Tryd.func61 rfl rfl rfl rfl rfl rfl rfl rfl rfl ?_
 refine Runs.seq ?_
 refine Runs.reg (by simp only [go_sem, seval, outX]; rfl) (by simp only [long61, go_sem, seval]; rfl) ?_
 refine Runs.seq ?_
 refine Runs.reg (by simp only [go_sem, seval, outX]; rfl) (by simp only [long61, go_sem, seval]; rfl) ?_
 refine Runs.seq ?_
 refine Runs.seq ?_
 refine Runs.reg (by simp only [go_sem, seval, outX]; rfl) (by simp only [long61, go_sem, seval]; rfl) ?_
 refine Runs.block ?_
 obtain ⟨hL1, h⟩ := lenO_some h
 refine Runs.loop_rel (m := (l).length) (fun mz_ en hp => ∃ (i : Nat) (k : List Ast) (m : MS), foldX (asX (astX n) s) (List.drop i (l)) k m = some r ∧ mz_ + i = (l).length ∧ en = [(0, pV), (5, .c (.ptr 2 0)), (7, .c (.row 3)), (10, slV astD l), (11, iI (l.length : Int)), (12, .c (.d (.int .i64 (i : Int))))] ∧ hp = [mBox m, mMap m, .box [.d (.fm (s.args.map entA)), .d (.fm (s.names.map entS)), .d (.fm (s.marks.map entS)), .d (.int .i64 s.deep)], .row 39 9 k.length (rowC astD k)]) ?_ ⟨0, _, _, h, rfl, (by first | rfl | (simp only [go_sem, seval, outX]; done) | (simp only [go_sem, seval, outX]; rfl)), (by first | rfl | (simp only [go_sem, seval, outX]; done) | (simp only [go_sem, seval, outX]; rfl))⟩
 clear h
 rintro m1 en hp ⟨i1, k_, m_, h, hm1, rfl, rfl⟩
 refine Runs.seq ?_
 refine Runs.reg (by simp only [go_sem, seval, outX]; rfl) (by simp only [long61, go_sem, seval]; rfl) ?_
 refine Runs.seq ?_
 refine Runs.cond (t := 13) rfl (fun hc2 => ?_) (fun hc2 => ?_)
 ·
  try simp only [N3] at hc2
  try simp only [hc2, C5] at h
  have hi1 := of_decide_eq_true hc2
  obtain ⟨x1, xs1, hx1⟩ := drop_ex (l := l) (i := i1) (by omega)
  obtain ⟨ha1, hb1, hd1⟩ := drop_cons hx1
  rw [hx1] at h
  simp only [foldX, asX, wadd, wsub] at h
  obtain ⟨r1, h, g1⟩ := bindX_some h
  have hn1 := cast_nonneg i1
  have hw1 := wrap_succ (n := i1) (by omega)
  refine Runs.skip ?_
  refine Runs.seq ?_
  refine Runs.block ?_
  refine Runs.seq ?_
  refine Runs.reg (by simp only [go_sem, seval, outX, ha1, hn1, hw1, hc2]; rfl) (by simp only [long61, go_sem, seval]; rfl) ?_
  obtain ⟨r3, h3, h⟩ := bindX_some h
  have w3 := is.e68 h3
  try simp only [scV, sc0, List.map_nil] at w3
  rcases r3 with ⟨e3, m3⟩ | ⟨c3, z3, m3⟩
  rotate_left
  ·
   try dsimp only [outX, outRow] at w3
   subst h
   dsimp only at g1
   subst g1
   refine Runs.region_pan (by simp only [go_sem, seval, outX, ha1, hn1, hw1, w3, hc2]; rfl) ?_
   exact finK_pan (by simp only [go_sem, seval, outX, ha1, hn1, hw1, w3, hc2]; try rfl)
  try dsimp only [outX, outRow] at w3
  dsimp only at h
  obtain ⟨y4, h4, h⟩ := some_bind h
  obtain ⟨le4, rfl⟩ := appP_some h4
  try simp only [List.length_set, List.length_map, List.length_append, List.length_cons, List.length_nil, seval] at le4
  try dsimp only at h
  refine Runs.reg (by simp only [go_sem, seval, outX, ha1, hn1, hw1, w3, le4, hc2]; rfl) (by simp only [long61, go_sem, seval]; rfl) ?_
  refine Runs.reg (by simp only [go_sem, seval, outX, ha1, hn1, hw1, hc2]; rfl) (by simp only [long61, go_sem, seval]; rfl) ?_
  cases h
  dsimp only at g1
  rw [← hd1] at g1
  refine ⟨m1 - 1, by omega, _, _, by simp only [go_sem, seval, outX, ha1, hn1, hw1]; try rfl, i1 + 1, _, _, g1, by omega, rfl, rfl⟩
 try simp only [N3] at hc2
 try simp only [hc2, C5] at h
 have hi1 := of_decide_eq_false hc2
 rw [List.drop_eq_nil_of_le (by omega)] at h
 simp only [foldX, asX, wadd, wsub] at h
 refine Runs.exit ?_
 cases h
 refine Runs.seq ?_
 refine Runs.reg (by simp only [go_sem, seval, outX, hc2]; rfl) (by simp only [long61, go_sem, seval]; rfl) ?_
 refine Runs.ret ?_
 try cases h
 try dsimp only [outX]
 first
 | rfl
 | (exact fk (res := [.tmp 6]) rfl rfl rfl (by simp only [fin1, go_sem, seval, outX, hc2]; try rfl))
theorem W70 {n : Nat} (is : ExpIH n) {m : MS} {s : Sc} {l : List Arg} {r : Xr (List Arg)} (h : argsX (astX n) s l m = some r) : callW ip 62 [pV, slV argD l, scV s] [mBox m, mMap m] = some (outX (fun l => [slV argD l]) r) := by
 simp only [argsX, wadd, wsub] at h
 refine callW_runs (fn := Tryd.f62) (L := long62) (nt := 42) (n0 := 2) (T := tab) (rw' := []) (kA := keepA) Tryd.func62 rfl rfl rfl rfl rfl rfl rfl rfl rfl ?_
 refine Runs.seq ?_
 refine Runs.reg (by simp only [go_sem, seval, outX]; rfl) (by simp only [long62, go_sem, seval]; rfl) ?_
 refine Runs.seq ?_
 refine Runs.reg (by simp only [go_sem, seval, outX]; rfl) (by simp only [long62, go_sem, seval]; rfl) ?_
 refine Runs.seq ?_
 refine Runs.seq ?_
 refine Runs.reg (by simp only [go_sem, seval, outX]; rfl) (by simp only [long62, go_sem, seval]; rfl) ?_
 refine Runs.block ?_
 obtain ⟨hL1, h⟩ := lenO_some h
 refine Runs.loop_rel (m := (l).length) (fun mz_ en hp => ∃ (i : Nat) (k : List Arg) (m : MS), foldX (agX (astX n) s) (List.drop i (l)) k m = some r ∧ mz_ + i = (l).length ∧ en = [(0, pV), (5, .c (.ptr 2 0)), (7, .c (.row 3)), (10, slV argD l), (11, iI (l.length : Int)), (12, .c (.d (.int .i64 (i : Int))))] ∧ hp = [mBox m, mMap m, .box [.d (.fm (s.args.map entA)), .d (.fm (s.names.map entS)), .d (.fm (s.marks.map entS)), .d (.int .i64 s.deep)], .row 122 11 k.length (rowC argD k)]) ?_ ⟨0, _, _, h, rfl, (by first | rfl | (simp only [go_sem, seval, outX]; done) | (simp only [go_sem, seval, outX]; rfl)), (by first | rfl | (simp only [go_sem, seval, outX]; done) | (simp only [go_sem, seval, outX]; rfl))⟩
 clear h
 rintro m1 en hp ⟨i1, k_, m_, h, hm1, rfl, rfl⟩
 refine Runs.seq ?_
 refine Runs.reg (by simp only [go_sem, seval, outX]; rfl) (by simp only [long62, go_sem, seval]; rfl) ?_
 refine Runs.seq ?_
 refine Runs.cond (t := 13) rfl (fun hc2 => ?_) (fun hc2 => ?_)
 ·
  try simp only [N3] at hc2
  try simp only [hc2, C5] at h
  have hi1 := of_decide_eq_true hc2
  obtain ⟨x1, xs1, hx1⟩ := drop_ex (l := l) (i := i1) (by omega)
  obtain ⟨ha1, hb1, hd1⟩ := drop_cons hx1
  rw [hx1] at h
  simp only [foldX, agX, wadd, wsub] at h
  obtain ⟨r1, h, g1⟩ := bindX_some h
  have hn1 := cast_nonneg i1
  have hw1 := wrap_succ (n := i1) (by omega)
  refine Runs.skip ?_
  refine Runs.seq ?_
  refine Runs.block ?_
  refine Runs.seq ?_
  refine Runs.reg (by simp only [go_sem, seval, outX, ha1, hn1, hw1, hc2]; rfl) (by simp only [long62, go_sem, seval]; rfl) ?_
  refine Runs.seq ?_
  obtain ⟨r3, h3, h⟩ := bindX_some h
  have w3 := is.e68 h3
  try simp only [scV, sc0, List.map_nil] at w3
  rcases r3 with ⟨e3, m3⟩ | ⟨c3, z3, m3⟩
  rotate_left
  ·
   try dsimp only [outX, outRow] at w3
   subst h
   dsimp only at g1
   subst g1
   refine Runs.region_pan (by simp only [go_sem, seval, outX, ha1, hn1, hw1, w3, hc2]; rfl) ?_
   exact finK_pan (by simp only [go_sem, seval, outX, ha1, hn1, hw1, w3, hc2]; try rfl)
  try dsimp only [outX, outRow] at w3
  dsimp only at h
  refine Runs.reg (by simp only [go_sem, seval, outX, ha1, hn1, hw1, w3, hc2]; rfl) (by simp only [long62, go_sem, seval]; rfl) ?_
  refine Runs.seq ?_
  refine Runs.row ?_
  refine Row.run 3 (by simp only [go_sem, seval, outX, ha1, hn1, hw1, hc2]; rfl) ?_
  refine Row.guard (t := 24) (by simp only [go_sem, seval]; rfl) (fun hg4 => ?_) (fun hg4 => ?_)
  ·
   try simp only [N3] at hg4
   try simp only [hg4, C5] at h
   refine Row.run 12 (by simp only [go_sem, seval, outX, ha1, hn1, hw1, hc2, hg4]; rfl) ?_
   refine Row.end_ (by simp only [long62, go_sem, seval]; rfl) ?_
   obtain ⟨y5, h5, h⟩ := some_bind h
   obtain ⟨le5, rfl⟩ := appP_some h5
   try simp only [List.length_set, List.length_map, List.length_append, List.length_cons, List.length_nil, seval] at le5
   try dsimp only at h
   refine Runs.reg (by simp only [go_sem, seval, outX, ha1, hn1, hw1, le5, hc2, hg4]; rfl) (by simp only [long62, go_sem, seval]; rfl) ?_
   refine Runs.reg (by simp only [go_sem, seval, outX, ha1, hn1, hw1, hc2, hg4]; rfl) (by simp only [long62, go_sem, seval]; rfl) ?_
   cases h
   dsimp only at g1
   rw [← hd1] at g1
   refine ⟨m1 - 1, by omega, _, _, by simp only [go_sem, seval, outX, ha1, hn1, hw1]; try rfl, i1 + 1, _, _, g1, by omega, rfl, rfl⟩
  ·
   try simp only [N3] at hg4
   try simp only [hg4, C5] at h
   refine Row.run 4 (by simp only [go_sem, seval, outX, ha1, hn1, hw1, hc2, hg4]; rfl) ?_
   refine Row.guard (t := 28) (by simp only [go_sem, seval]; rfl) (fun hg6 => ?_) (fun hg6 => ?_)
   ·
    try simp only [N3] at hg6
    try simp only [hg6, C5] at h
    refine Row.run 8 (by simp only [go_sem, seval, outX, ha1, hn1, hw1, hc2, hg4, hg6]; rfl) ?_
    refine Row.end_ (by simp only [long62, go_sem, seval]; rfl) ?_
    obtain ⟨y7, h7, h⟩ := some_bind h
    obtain ⟨le7, rfl⟩ := appP_some h7
    try simp only [List.length_set, List.length_map, List.length_append, List.length_cons, List.length_nil, seval] at le7
    try dsimp only at h
    refine Runs.reg (by simp only [go_sem, seval, outX, ha1, hn1, hw1, le7, hc2, hg4, hg6]; rfl) (by simp only [long62, go_sem, seval]; rfl) ?_
    refine Runs.reg (by simp only [go_sem, seval, outX, ha1, hn1, hw1, hc2, hg4, hg6]; rfl) (by simp only [long62, go_sem, seval]; rfl) ?_
    cases h
    dsimp only at g1
    rw [← hd1] at g1
    refine ⟨m1 - 1, by omega, _, _, by simp only [go_sem, seval, outX, ha1, hn1, hw1]; try rfl, i1 + 1, _, _, g1, by omega, rfl, rfl⟩
   ·
    try simp only [N3] at hg6
    try simp only [hg6, C5] at h
    refine Row.run 8 (by simp only [go_sem, seval, outX, ha1, hn1, hw1, hc2, hg4, hg6]; rfl) ?_
    refine Row.end_ (by simp only [long62, go_sem, seval]; rfl) ?_
    obtain ⟨y8, h8, h⟩ := some_bind h
    obtain ⟨le8, rfl⟩ := appP_some h8
    try simp only [List.length_set, List.length_map, List.length_append, List.length_cons, List.length_nil, seval] at le8
    try dsimp only at h
    refine Runs.reg (by simp only [go_sem, seval, outX, ha1, hn1, hw1, le8, hc2, hg4, hg6]; rfl) (by simp only [long62, go_sem, seval]; rfl) ?_
    refine Runs.reg (by simp only [go_sem, seval, outX, ha1, hn1, hw1, hc2, hg4, hg6]; rfl) (by simp only [long62, go_sem, seval]; rfl) ?_
    cases h
    dsimp only at g1
    rw [← hd1] at g1
    refine ⟨m1 - 1, by omega, _, _, by simp only [go_sem, seval, outX, ha1, hn1, hw1]; try rfl, i1 + 1, _, _, g1, by omega, rfl, rfl⟩
 try simp only [N3] at hc2
 try simp only [hc2, C5] at h
 have hi1 := of_decide_eq_false hc2
 rw [List.drop_eq_nil_of_le (by omega)] at h
 simp only [foldX, agX, wadd, wsub] at h
 refine Runs.exit ?_
 cases h
 refine Runs.seq ?_
 refine Runs.reg (by simp only [go_sem, seval, outX, hc2]; rfl) (by simp only [long62, go_sem, seval]; rfl) ?_
 refine Runs.ret ?_
 try cases h
 try dsimp only [outX]
 first
 | rfl
 | (exact fk (res := [.tmp 6]) rfl rfl rfl (by simp only [fin1, go_sem, seval, outX, hc2]; try rfl))
theorem W68 {n : Nat} (is : ExpIH n) {m : MS} {s : Sc} {e : Ast} {r : Xr Ast} (h : astX (n + 1) s e m = some r) : callW ip 60 [pV, astV e, scV s] [mBox m, mMap m] = some (outX (fun e => [astV e]) r) := by
 simp only [astX, astQ, restA, refA, endA, countX, wadd, wsub] at h
 refine callW_runs (fn := Tryd.f60) (L := long60) (nt := 74) (n0 := 2) (T := tab) (rw' := []) (kA := keepA) Tryd.func60 rfl rfl rfl rfl rfl rfl rfl rfl rfl ?_
 refine Runs.seq ?_
 refine Runs.reg (by simp only [go_sem, seval, outX]; rfl) (by simp only [long60, go_sem, seval]; rfl) ?_
 refine Runs.seq ?_
 refine Runs.seq ?_
 refine Runs.reg (by simp only [go_sem, seval, outX]; rfl) (by simp only [long60, go_sem, seval]; rfl) ?_
 refine Runs.cond (t := 11) rfl (fun hc1 => ?_) (fun hc1 => ?_)
 ·
  try simp only [N3] at hc1
  try simp only [hc1, C5] at h
  refine Runs.seq ?_
  refine Runs.reg (by simp only [go_sem, seval, outX, hc1]; rfl) (by simp only [long60, go_sem, seval]; rfl) ?_
  refine Runs.ret ?_
  try cases h
  try dsimp only [outX]
  first
  | rfl
  | (exact fk (res := [.cell 6 39]) rfl rfl rfl (by simp only [fin1, go_sem, seval, outX, hc1]; try rfl))
 try simp only [N3] at hc1
 try simp only [hc1, C5] at h
 refine Runs.skip ?_
 refine Runs.seq ?_
 refine Runs.seq ?_
 refine Runs.row ?_
 refine Row.run 4 (by simp only [go_sem, seval, outX, hc1]; rfl) ?_
 refine Row.guard (t := 16) (by simp only [go_sem, seval]; rfl) (fun hg2 => ?_) (fun hg2 => ?_)
 ·
  try simp only [N3] at hg2
  try simp only [hg2, C5] at h
  refine Row.run 7 (by simp only [go_sem, seval, outX, hc1, hg2]; rfl) ?_
  refine Row.guard (t := 23) (by simp only [go_sem, seval]; rfl) (fun hg3 => ?_) (fun hg3 => ?_)
  ·
   try simp only [N3] at hg3
   try simp only [hg3, C5] at h
   obtain ⟨x4, h4, h⟩ := some_bind h
   obtain ⟨ge4, at4⟩ := getP_some h4
   try simp only [seval] at at4
   try dsimp only at h
   refine Row.run 7 (by simp only [go_sem, seval, outX, ge4, at4, hc1, hg2, hg3]; rfl) ?_
   refine Row.end_ (by simp only [long60, go_sem, seval]; rfl) ?_
   refine Runs.cond (t := 30) rfl (fun hc5 => ?_) (fun hc5 => ?_)
   ·
    try simp only [N3] at hc5
    try simp only [hc5, C5] at h
    refine Runs.seq ?_
    obtain ⟨x4_, hx4_, h⟩ := some_bind h
    obtain ⟨ge4_, at4_⟩ := getP_some hx4_
    try simp only [seval] at at4_
    try dsimp only at h
    rcases hl6 : lookP s.args x4_ with _ | a4_
    ·
     simp only [hl6] at h
     try simp only [argA, restA, refA, endA, countX] at h
     try simp only [hc1, hg2, hg3, hc5, cond_true, cond_false] at h
     refine Runs.drw rfl (by simp only [go_sem, seval, outX, hl6, lookA, Option.map_none, ge4_, at4_, hc1, hg2, hg3, hc5]; rfl) (by simp only [long60, go_sem, seval]; rfl) ?_
     refine Runs.seq ?_
     refine Runs.reg (by simp only [go_sem, seval, outX, hl6, lookA, Option.map_none, ge4_, at4_, hc1, hg2, hg3, hc5]; rfl) (by simp only [long60, go_sem, seval]; rfl) ?_
     refine Runs.cond (t := 42) rfl (fun hc7 => ?_) (fun hc7 => ?_)
     · exact absurd hc7 (by first | decide | (simp only [hc1, hg2, hg3, hc5]; decide))
     try simp only [N3] at hc7
     try simp only [hc7, C5] at h
     refine Runs.skip ?_
     refine Runs.seq ?_
     obtain ⟨r8, h8, h⟩ := bindX_some h
     have w8 := W65 h8
     rcases r8 with ⟨u8, m8⟩ | ⟨c8, z8, m8⟩
     rotate_left
     ·
      try dsimp only [outX, outRow] at w8
      subst h
      refine Runs.region_pan (by simp only [go_sem, seval, outX, hl6, lookA, Option.map_none, ge4_, at4_, w8, hc1, hg2, hg3, hc5]; rfl) ?_
      exact finK_pan (by simp only [go_sem, seval, outX, hl6, lookA, Option.map_none, ge4_, at4_, w8, hc1, hg2, hg3, hc5]; try rfl)
     try dsimp only [outX, outRow] at w8
     dsimp only at h
     refine Runs.reg (by simp only [go_sem, seval, outX, hl6, lookA, Option.map_none, ge4_, at4_, w8, hc1, hg2, hg3, hc5]; rfl) (by simp only [long60, go_sem, seval]; rfl) ?_
     refine Runs.seq ?_
     refine Runs.seq ?_
     refine Runs.reg (by simp only [go_sem, seval, outX, hl6, lookA, Option.map_none, ge4_, at4_, hc1, hg2, hg3, hc5]; rfl) (by simp only [long60, go_sem, seval]; rfl) ?_
     refine Runs.block ?_
     refine Runs.seq ?_
     refine Runs.seq ?_
     refine Runs.reg (by simp only [go_sem, seval, outX, hl6, lookA, Option.map_none, ge4_, at4_, hc1, hg2, hg3, hc5]; rfl) (by simp only [long60, go_sem, seval]; rfl) ?_
     refine Runs.cond (t := 51) rfl (fun hc9 => ?_) (fun hc9 => ?_)
     rotate_left
     · exact absurd hc9 (by first | decide | (simp only [hc1, hg2, hg3, hc5]; decide))
     try simp only [N3] at hc9
     try simp only [hc9, C5] at h
     refine Runs.skip ?_
     refine Runs.cond (t := 51) rfl (fun hc10 => ?_) (fun hc10 => ?_)
     rotate_left
     · exact absurd hc10 (by first | decide | (simp only [hc1, hg2, hg3, hc5]; decide))
     try simp only [N3] at hc10
     try simp only [hc10, C5] at h
     obtain ⟨r11, h11, h⟩ := bindX_some h
     have w11 := is.e67 h11
     try simp only [scV, sc0, List.map_nil] at w11
     rcases r11 with ⟨r11, m11⟩ | ⟨c11, z11, m11⟩
     rotate_left
     ·
      try dsimp only [outX, outRow] at w11
      subst h
      refine Runs.region_pan (by simp only [go_sem, seval, outX, hl6, lookA, Option.map_none, ge4_, at4_, w11, hc1, hg2, hg3, hc5]; rfl) ?_
      exact finK_pan (by simp only [go_sem, seval, outX, hl6, lookA, Option.map_none, ge4_, at4_, w11, hc1, hg2, hg3, hc5]; try rfl)
     try dsimp only [outX, outRow] at w11
     dsimp only at h
     refine Runs.reg (by simp only [go_sem, seval, outX, hl6, lookA, Option.map_none, ge4_, at4_, w11, hc1, hg2, hg3, hc5]; rfl) (by simp only [long60, go_sem, seval]; rfl) ?_
     refine Runs.seq ?_
     obtain ⟨r12, h12, h⟩ := bindX_some h
     have w12 := W69 is h12
     rcases r12 with ⟨l12, m12⟩ | ⟨c12, z12, m12⟩
     rotate_left
     ·
      try dsimp only [outX, outRow] at w12
      subst h
      refine Runs.draw_pan rfl (by simp only [go_sem, seval, outX, hl6, lookA, Option.map_none, ge4_, at4_, w12, hc1, hg2, hg3, hc5]; rfl) ?_
      exact finK_pan (by simp only [go_sem, seval, outX, hl6, lookA, Option.map_none, ge4_, at4_, w12, hc1, hg2, hg3, hc5]; try rfl)
     try dsimp only [outX, outRow] at w12
     dsimp only at h
     obtain ⟨r13, h13, h⟩ := bindX_some h
     have w13 := W70 is h13
     rcases r13 with ⟨l13, m13⟩ | ⟨c13, z13, m13⟩
     rotate_left
     ·
      try dsimp only [outX, outRow] at w13
      subst h
      refine Runs.draw_pan rfl (by simp only [go_sem, seval, outX, hl6, lookA, Option.map_none, ge4_, at4_, w12, w13, hc1, hg2, hg3, hc5]; rfl) ?_
      exact finK_pan (by simp only [go_sem, seval, outX, hl6, lookA, Option.map_none, ge4_, at4_, w12, w13, hc1, hg2, hg3, hc5]; try rfl)
     try dsimp only [outX, outRow] at w13
     dsimp only at h
     refine Runs.drw rfl (by simp only [go_sem, seval, outX, hl6, lookA, Option.map_none, ge4_, at4_, w12, w13, hc1, hg2, hg3, hc5]; rfl) (by simp only [long60, go_sem, seval]; rfl) ?_
     refine Runs.seq ?_
     refine Runs.reg (by simp only [go_sem, seval, outX, hl6, lookA, Option.map_none, ge4_, at4_, w12, w13, hc1, hg2, hg3, hc5]; rfl) (by simp only [long60, go_sem, seval]; rfl) ?_
     refine Runs.ret ?_
     try cases h
     try dsimp only [outX]
     first
     | rfl
     | (exact fk (res := [.cell 6 39]) rfl rfl rfl (by simp only [fin1, go_sem, seval, outX, hl6, lookA, Option.map_none, ge4_, at4_, w12, w13, hc1, hg2, hg3, hc5]; try rfl))
    ·
     simp only [hl6] at h
     try simp only [argA, restA, refA, endA, countX] at h
     try simp only [hc1, hg2, hg3, hc5, cond_true, cond_false] at h
     refine Runs.drw rfl (by simp only [go_sem, seval, outX, hl6, lookA, Option.map_some, ge4_, at4_, hc1, hg2, hg3, hc5]; rfl) (by simp only [long60, go_sem, seval]; rfl) ?_
     refine Runs.seq ?_
     refine Runs.reg (by simp only [go_sem, seval, outX, hl6, lookA, Option.map_some, ge4_, at4_, hc1, hg2, hg3, hc5]; rfl) (by simp only [long60, go_sem, seval]; rfl) ?_
     refine Runs.cond (t := 42) rfl (fun hc14 => ?_) (fun hc14 => ?_)
     rotate_left
     · exact absurd hc14 (by first | decide | (simp only [hc1, hg2, hg3, hc5]; decide))
     try simp only [N3] at hc14
     try simp only [hc14, C5] at h
     refine Runs.seq ?_
     obtain ⟨r15, h15, h⟩ := bindX_some h
     have w15 := is.e68 h15
     try simp only [scV, sc0, List.map_nil] at w15
     rcases r15 with ⟨e15, m15⟩ | ⟨c15, z15, m15⟩
     rotate_left
     ·
      try dsimp only [outX, outRow] at w15
      subst h
      refine Runs.region_pan (by simp only [go_sem, seval, outX, hl6, lookA, Option.map_some, ge4_, at4_, w15, hc1, hg2, hg3, hc5]; rfl) ?_
      exact finK_pan (by simp only [go_sem, seval, outX, hl6, lookA, Option.map_some, ge4_, at4_, w15, hc1, hg2, hg3, hc5]; try rfl)
     try dsimp only [outX, outRow] at w15
     dsimp only at h
     refine Runs.reg (by simp only [go_sem, seval, outX, hl6, lookA, Option.map_some, ge4_, at4_, w15, hc1, hg2, hg3, hc5]; rfl) (by simp only [long60, go_sem, seval]; rfl) ?_
     refine Runs.ret ?_
     try cases h
     try dsimp only [outX]
     first
     | rfl
     | (exact fk (res := [.cell 6 39]) rfl rfl rfl (by simp only [fin1, go_sem, seval, outX, hl6, lookA, Option.map_some, ge4_, at4_, hc1, hg2, hg3, hc5]; try rfl))
   try simp only [N3] at hc5
   try simp only [hc5, C5] at h
   refine Runs.skip ?_
   refine Runs.seq ?_
   obtain ⟨r16, h16, h⟩ := bindX_some h
   have w16 := W65 h16
   rcases r16 with ⟨u16, m16⟩ | ⟨c16, z16, m16⟩
   rotate_left
   ·
    try dsimp only [outX, outRow] at w16
    subst h
    refine Runs.region_pan (by simp only [go_sem, seval, outX, w16, hc1, hg2, hg3, hc5]; rfl) ?_
    exact finK_pan (by simp only [go_sem, seval, outX, w16, hc1, hg2, hg3, hc5]; try rfl)
   try dsimp only [outX, outRow] at w16
   dsimp only at h
   refine Runs.reg (by simp only [go_sem, seval, outX, w16, hc1, hg2, hg3, hc5]; rfl) (by simp only [long60, go_sem, seval]; rfl) ?_
   refine Runs.seq ?_
   refine Runs.seq ?_
   refine Runs.reg (by simp only [go_sem, seval, outX, hc1, hg2, hg3, hc5]; rfl) (by simp only [long60, go_sem, seval]; rfl) ?_
   refine Runs.block ?_
   refine Runs.seq ?_
   refine Runs.seq ?_
   refine Runs.reg (by simp only [go_sem, seval, outX, hc1, hg2, hg3, hc5]; rfl) (by simp only [long60, go_sem, seval]; rfl) ?_
   refine Runs.cond (t := 51) rfl (fun hc17 => ?_) (fun hc17 => ?_)
   rotate_left
   · exact absurd hc17 (by first | decide | (simp only [hc1, hg2, hg3, hc5]; decide))
   try simp only [N3] at hc17
   try simp only [hc17, C5] at h
   refine Runs.skip ?_
   refine Runs.cond (t := 51) rfl (fun hc18 => ?_) (fun hc18 => ?_)
   rotate_left
   · exact absurd hc18 (by first | decide | (simp only [hc1, hg2, hg3, hc5]; decide))
   try simp only [N3] at hc18
   try simp only [hc18, C5] at h
   obtain ⟨r19, h19, h⟩ := bindX_some h
   have w19 := is.e67 h19
   try simp only [scV, sc0, List.map_nil] at w19
   rcases r19 with ⟨r19, m19⟩ | ⟨c19, z19, m19⟩
   rotate_left
   ·
    try dsimp only [outX, outRow] at w19
    subst h
    refine Runs.region_pan (by simp only [go_sem, seval, outX, w19, hc1, hg2, hg3, hc5]; rfl) ?_
    exact finK_pan (by simp only [go_sem, seval, outX, w19, hc1, hg2, hg3, hc5]; try rfl)
   try dsimp only [outX, outRow] at w19
   dsimp only at h
   refine Runs.reg (by simp only [go_sem, seval, outX, w19, hc1, hg2, hg3, hc5]; rfl) (by simp only [long60, go_sem, seval]; rfl) ?_
   refine Runs.seq ?_
   obtain ⟨r20, h20, h⟩ := bindX_some h
   have w20 := W69 is h20
   rcases r20 with ⟨l20, m20⟩ | ⟨c20, z20, m20⟩
   rotate_left
   ·
    try dsimp only [outX, outRow] at w20
    subst h
    refine Runs.draw_pan rfl (by simp only [go_sem, seval, outX, w20, hc1, hg2, hg3, hc5]; rfl) ?_
    exact finK_pan (by simp only [go_sem, seval, outX, w20, hc1, hg2, hg3, hc5]; try rfl)
   try dsimp only [outX, outRow] at w20
   dsimp only at h
   obtain ⟨r21, h21, h⟩ := bindX_some h
   have w21 := W70 is h21
   rcases r21 with ⟨l21, m21⟩ | ⟨c21, z21, m21⟩
   rotate_left
   ·
    try dsimp only [outX, outRow] at w21
    subst h
    refine Runs.draw_pan rfl (by simp only [go_sem, seval, outX, w20, w21, hc1, hg2, hg3, hc5]; rfl) ?_
    exact finK_pan (by simp only [go_sem, seval, outX, w20, w21, hc1, hg2, hg3, hc5]; try rfl)
   try dsimp only [outX, outRow] at w21
   dsimp only at h
   refine Runs.drw rfl (by simp only [go_sem, seval, outX, w20, w21, hc1, hg2, hg3, hc5]; rfl) (by simp only [long60, go_sem, seval]; rfl) ?_
   refine Runs.seq ?_
   refine Runs.reg (by simp only [go_sem, seval, outX, w20, w21, hc1, hg2, hg3, hc5]; rfl) (by simp only [long60, go_sem, seval]; rfl) ?_
   refine Runs.ret ?_
   try cases h
   try dsimp only [outX]
   first
   | rfl
   | (exact fk (res := [.cell 6 39]) rfl rfl rfl (by simp only [fin1, go_sem, seval, outX, w20, w21, hc1, hg2, hg3, hc5]; try rfl))
  ·
   try simp only [N3] at hg3
   try simp only [hg3, C5] at h
   refine Row.run 7 (by simp only [go_sem, seval, outX, hc1, hg2, hg3]; rfl) ?_
   refine Row.end_ (by simp only [long60, go_sem, seval]; rfl) ?_
   refine Runs.cond (t := 30) rfl (fun hc22 => ?_) (fun hc22 => ?_)
   · exact absurd hc22 (by first | decide | (simp only [hc1, hg2, hg3]; decide))
   try simp only [N3] at hc22
   try simp only [hc22, C5] at h
   refine Runs.skip ?_
   refine Runs.seq ?_
   obtain ⟨r23, h23, h⟩ := bindX_some h
   have w23 := W65 h23
   rcases r23 with ⟨u23, m23⟩ | ⟨c23, z23, m23⟩
   rotate_left
   ·
    try dsimp only [outX, outRow] at w23
    subst h
    refine Runs.region_pan (by simp only [go_sem, seval, outX, w23, hc1, hg2, hg3]; rfl) ?_
    exact finK_pan (by simp only [go_sem, seval, outX, w23, hc1, hg2, hg3]; try rfl)
   try dsimp only [outX, outRow] at w23
   dsimp only at h
   refine Runs.reg (by simp only [go_sem, seval, outX, w23, hc1, hg2, hg3]; rfl) (by simp only [long60, go_sem, seval]; rfl) ?_
   refine Runs.seq ?_
   refine Runs.seq ?_
   refine Runs.reg (by simp only [go_sem, seval, outX, hc1, hg2, hg3]; rfl) (by simp only [long60, go_sem, seval]; rfl) ?_
   refine Runs.block ?_
   refine Runs.seq ?_
   refine Runs.seq ?_
   refine Runs.reg (by simp only [go_sem, seval, outX, hc1, hg2, hg3]; rfl) (by simp only [long60, go_sem, seval]; rfl) ?_
   refine Runs.cond (t := 51) rfl (fun hc24 => ?_) (fun hc24 => ?_)
   rotate_left
   · exact absurd hc24 (by first | decide | (simp only [hc1, hg2, hg3]; decide))
   try simp only [N3] at hc24
   try simp only [hc24, C5] at h
   refine Runs.skip ?_
   refine Runs.cond (t := 51) rfl (fun hc25 => ?_) (fun hc25 => ?_)
   rotate_left
   · exact absurd hc25 (by first | decide | (simp only [hc1, hg2, hg3]; decide))
   try simp only [N3] at hc25
   try simp only [hc25, C5] at h
   obtain ⟨r26, h26, h⟩ := bindX_some h
   have w26 := is.e67 h26
   try simp only [scV, sc0, List.map_nil] at w26
   rcases r26 with ⟨r26, m26⟩ | ⟨c26, z26, m26⟩
   rotate_left
   ·
    try dsimp only [outX, outRow] at w26
    subst h
    refine Runs.region_pan (by simp only [go_sem, seval, outX, w26, hc1, hg2, hg3]; rfl) ?_
    exact finK_pan (by simp only [go_sem, seval, outX, w26, hc1, hg2, hg3]; try rfl)
   try dsimp only [outX, outRow] at w26
   dsimp only at h
   refine Runs.reg (by simp only [go_sem, seval, outX, w26, hc1, hg2, hg3]; rfl) (by simp only [long60, go_sem, seval]; rfl) ?_
   refine Runs.seq ?_
   obtain ⟨r27, h27, h⟩ := bindX_some h
   have w27 := W69 is h27
   rcases r27 with ⟨l27, m27⟩ | ⟨c27, z27, m27⟩
   rotate_left
   ·
    try dsimp only [outX, outRow] at w27
    subst h
    refine Runs.draw_pan rfl (by simp only [go_sem, seval, outX, w27, hc1, hg2, hg3]; rfl) ?_
    exact finK_pan (by simp only [go_sem, seval, outX, w27, hc1, hg2, hg3]; try rfl)
   try dsimp only [outX, outRow] at w27
   dsimp only at h
   obtain ⟨r28, h28, h⟩ := bindX_some h
   have w28 := W70 is h28
   rcases r28 with ⟨l28, m28⟩ | ⟨c28, z28, m28⟩
   rotate_left
   ·
    try dsimp only [outX, outRow] at w28
    subst h
    refine Runs.draw_pan rfl (by simp only [go_sem, seval, outX, w27, w28, hc1, hg2, hg3]; rfl) ?_
    exact finK_pan (by simp only [go_sem, seval, outX, w27, w28, hc1, hg2, hg3]; try rfl)
   try dsimp only [outX, outRow] at w28
   dsimp only at h
   refine Runs.drw rfl (by simp only [go_sem, seval, outX, w27, w28, hc1, hg2, hg3]; rfl) (by simp only [long60, go_sem, seval]; rfl) ?_
   refine Runs.seq ?_
   refine Runs.reg (by simp only [go_sem, seval, outX, w27, w28, hc1, hg2, hg3]; rfl) (by simp only [long60, go_sem, seval]; rfl) ?_
   refine Runs.ret ?_
   try cases h
   try dsimp only [outX]
   first
   | rfl
   | (exact fk (res := [.cell 6 39]) rfl rfl rfl (by simp only [fin1, go_sem, seval, outX, w27, w28, hc1, hg2, hg3]; try rfl))
 ·
  try simp only [N3] at hg2
  try simp only [hg2, C5] at h
  refine Row.run 14 (by simp only [go_sem, seval, outX, hc1, hg2]; rfl) ?_
  refine Row.end_ (by simp only [long60, go_sem, seval]; rfl) ?_
  refine Runs.cond (t := 30) rfl (fun hc29 => ?_) (fun hc29 => ?_)
  · exact absurd hc29 (by first | decide | (simp only [hc1, hg2]; decide))
  try simp only [N3] at hc29
  try simp only [hc29, C5] at h
  refine Runs.skip ?_
  refine Runs.seq ?_
  obtain ⟨r30, h30, h⟩ := bindX_some h
  have w30 := W65 h30
  rcases r30 with ⟨u30, m30⟩ | ⟨c30, z30, m30⟩
  rotate_left
  ·
   try dsimp only [outX, outRow] at w30
   subst h
   refine Runs.region_pan (by simp only [go_sem, seval, outX, w30, hc1, hg2]; rfl) ?_
   exact finK_pan (by simp only [go_sem, seval, outX, w30, hc1, hg2]; try rfl)
  try dsimp only [outX, outRow] at w30
  dsimp only at h
  refine Runs.reg (by simp only [go_sem, seval, outX, w30, hc1, hg2]; rfl) (by simp only [long60, go_sem, seval]; rfl) ?_
  refine Runs.seq ?_
  refine Runs.seq ?_
  refine Runs.reg (by simp only [go_sem, seval, outX, hc1, hg2]; rfl) (by simp only [long60, go_sem, seval]; rfl) ?_
  refine Runs.block ?_
  refine Runs.seq ?_
  refine Runs.seq ?_
  refine Runs.reg (by simp only [go_sem, seval, outX, hc1, hg2]; rfl) (by simp only [long60, go_sem, seval]; rfl) ?_
  refine Runs.cond (t := 51) rfl (fun hc31 => ?_) (fun hc31 => ?_)
  · exact absurd hc31 (by first | decide | (simp only [hc1, hg2]; decide))
  try simp only [N3] at hc31
  try simp only [hc31, C5] at h
  refine Runs.seq ?_
  refine Runs.reg (by simp only [go_sem, seval, outX, hc1, hg2]; rfl) (by simp only [long60, go_sem, seval]; rfl) ?_
  refine Runs.cond (t := 51) rfl (fun hc32 => ?_) (fun hc32 => ?_)
  ·
   try simp only [N3] at hc32
   try simp only [hc32, C5] at h
   refine Runs.skip ?_
   refine Runs.cond (t := 51) rfl (fun hc33 => ?_) (fun hc33 => ?_)
   rotate_left
   · exact absurd hc33 (by first | decide | (simp only [hc1, hg2, hc32]; decide))
   try simp only [N3] at hc33
   try simp only [hc33, C5] at h
   obtain ⟨r34, h34, h⟩ := bindX_some h
   have w34 := is.e67 h34
   try simp only [scV, sc0, List.map_nil] at w34
   rcases r34 with ⟨r34, m34⟩ | ⟨c34, z34, m34⟩
   rotate_left
   ·
    try dsimp only [outX, outRow] at w34
    subst h
    refine Runs.region_pan (by simp only [go_sem, seval, outX, w34, hc1, hg2, hc32]; rfl) ?_
    exact finK_pan (by simp only [go_sem, seval, outX, w34, hc1, hg2, hc32]; try rfl)
   try dsimp only [outX, outRow] at w34
   dsimp only at h
   refine Runs.reg (by simp only [go_sem, seval, outX, w34, hc1, hg2, hc32]; rfl) (by simp only [long60, go_sem, seval]; rfl) ?_
   refine Runs.seq ?_
   obtain ⟨r35, h35, h⟩ := bindX_some h
   have w35 := W69 is h35
   rcases r35 with ⟨l35, m35⟩ | ⟨c35, z35, m35⟩
   rotate_left
   ·
    try dsimp only [outX, outRow] at w35
    subst h
    refine Runs.draw_pan rfl (by simp only [go_sem, seval, outX, w35, hc1, hg2, hc32]; rfl) ?_
    exact finK_pan (by simp only [go_sem, seval, outX, w35, hc1, hg2, hc32]; try rfl)
   try dsimp only [outX, outRow] at w35
   dsimp only at h
   obtain ⟨r36, h36, h⟩ := bindX_some h
   have w36 := W70 is h36
   rcases r36 with ⟨l36, m36⟩ | ⟨c36, z36, m36⟩
   rotate_left
   ·
    try dsimp only [outX, outRow] at w36
    subst h
    refine Runs.draw_pan rfl (by simp only [go_sem, seval, outX, w35, w36, hc1, hg2, hc32]; rfl) ?_
    exact finK_pan (by simp only [go_sem, seval, outX, w35, w36, hc1, hg2, hc32]; try rfl)
   try dsimp only [outX, outRow] at w36
   dsimp only at h
   refine Runs.drw rfl (by simp only [go_sem, seval, outX, w35, w36, hc1, hg2, hc32]; rfl) (by simp only [long60, go_sem, seval]; rfl) ?_
   refine Runs.seq ?_
   refine Runs.reg (by simp only [go_sem, seval, outX, w35, w36, hc1, hg2, hc32]; rfl) (by simp only [long60, go_sem, seval]; rfl) ?_
   refine Runs.ret ?_
   try cases h
   try dsimp only [outX]
   first
   | rfl
   | (exact fk (res := [.cell 6 39]) rfl rfl rfl (by simp only [fin1, go_sem, seval, outX, w35, w36, hc1, hg2, hc32]; try rfl))
  try simp only [N3] at hc32
  try simp only [hc32, C5] at h
  refine Runs.reg (by simp only [go_sem, seval, outX, hc1, hg2, hc32]; rfl) (by simp only [long60, go_sem, seval]; rfl) ?_
  refine Runs.cond (t := 51) rfl (fun hc37 => ?_) (fun hc37 => ?_)
  ·
   try simp only [N3] at hc37
   try simp only [hc37, C5] at h
   obtain ⟨r38, h38, h⟩ := bindX_some h
   have w38 := is.e67 h38
   try simp only [scV, sc0, List.map_nil] at w38
   rcases r38 with ⟨r38, m38⟩ | ⟨c38, z38, m38⟩
   rotate_left
   ·
    try dsimp only [outX, outRow] at w38
    subst h
    refine Runs.region_pan (by simp only [go_sem, seval, outX, w38, hc1, hg2, hc32, hc37]; rfl) ?_
    exact finK_pan (by simp only [go_sem, seval, outX, w38, hc1, hg2, hc32, hc37]; try rfl)
   try dsimp only [outX, outRow] at w38
   dsimp only at h
   refine Runs.reg (by simp only [go_sem, seval, outX, w38, hc1, hg2, hc32, hc37]; rfl) (by simp only [long60, go_sem, seval]; rfl) ?_
   refine Runs.seq ?_
   obtain ⟨r39, h39, h⟩ := bindX_some h
   have w39 := W69 is h39
   rcases r39 with ⟨l39, m39⟩ | ⟨c39, z39, m39⟩
   rotate_left
   ·
    try dsimp only [outX, outRow] at w39
    subst h
    refine Runs.draw_pan rfl (by simp only [go_sem, seval, outX, w39, hc1, hg2, hc32, hc37]; rfl) ?_
    exact finK_pan (by simp only [go_sem, seval, outX, w39, hc1, hg2, hc32, hc37]; try rfl)
   try dsimp only [outX, outRow] at w39
   dsimp only at h
   obtain ⟨r40, h40, h⟩ := bindX_some h
   have w40 := W70 is h40
   rcases r40 with ⟨l40, m40⟩ | ⟨c40, z40, m40⟩
   rotate_left
   ·
    try dsimp only [outX, outRow] at w40
    subst h
    refine Runs.draw_pan rfl (by simp only [go_sem, seval, outX, w39, w40, hc1, hg2, hc32, hc37]; rfl) ?_
    exact finK_pan (by simp only [go_sem, seval, outX, w39, w40, hc1, hg2, hc32, hc37]; try rfl)
   try dsimp only [outX, outRow] at w40
   dsimp only at h
   refine Runs.drw rfl (by simp only [go_sem, seval, outX, w39, w40, hc1, hg2, hc32, hc37]; rfl) (by simp only [long60, go_sem, seval]; rfl) ?_
   refine Runs.seq ?_
   refine Runs.reg (by simp only [go_sem, seval, outX, w39, w40, hc1, hg2, hc32, hc37]; rfl) (by simp only [long60, go_sem, seval]; rfl) ?_
   refine Runs.ret ?_
   try cases h
   try dsimp only [outX]
   first
   | rfl
   | (exact fk (res := [.cell 6 39]) rfl rfl rfl (by simp only [fin1, go_sem, seval, outX, w39, w40, hc1, hg2, hc32, hc37]; try rfl))
  try simp only [N3] at hc37
  try simp only [hc37, C5] at h
  refine Runs.skip ?_
  refine Runs.seq ?_
  obtain ⟨r41, h41, h⟩ := bindX_some h
  have w41 := W69 is h41
  rcases r41 with ⟨l41, m41⟩ | ⟨c41, z41, m41⟩
  rotate_left
  ·
   try dsimp only [outX, outRow] at w41
   subst h
   refine Runs.draw_pan rfl (by simp only [go_sem, seval, outX, w41, hc1, hg2, hc32, hc37]; rfl) ?_
   exact finK_pan (by simp only [go_sem, seval, outX, w41, hc1, hg2, hc32, hc37]; try rfl)
  try dsimp only [outX, outRow] at w41
  dsimp only at h
  obtain ⟨r42, h42, h⟩ := bindX_some h
  have w42 := W70 is h42
  rcases r42 with ⟨l42, m42⟩ | ⟨c42, z42, m42⟩
  rotate_left
  ·
   try dsimp only [outX, outRow] at w42
   subst h
   refine Runs.draw_pan rfl (by simp only [go_sem, seval, outX, w41, w42, hc1, hg2, hc32, hc37]; rfl) ?_
   exact finK_pan (by simp only [go_sem, seval, outX, w41, w42, hc1, hg2, hc32, hc37]; try rfl)
  try dsimp only [outX, outRow] at w42
  dsimp only at h
  refine Runs.drw rfl (by simp only [go_sem, seval, outX, w41, w42, hc1, hg2, hc32, hc37]; rfl) (by simp only [long60, go_sem, seval]; rfl) ?_
  refine Runs.seq ?_
  refine Runs.reg (by simp only [go_sem, seval, outX, w41, w42, hc1, hg2, hc32, hc37]; rfl) (by simp only [long60, go_sem, seval]; rfl) ?_
  refine Runs.ret ?_
  try cases h
  try dsimp only [outX]
  first
  | rfl
  | (exact fk (res := [.cell 6 39]) rfl rfl rfl (by simp only [fin1, go_sem, seval, outX, w41, w42, hc1, hg2, hc32, hc37]; try rfl))
end Go.Proofs.YtmkacifjegnehaaDoor
