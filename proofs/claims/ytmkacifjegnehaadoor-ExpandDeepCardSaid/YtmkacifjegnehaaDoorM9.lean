import Derived.Test.YtmkacifjegnehaaDoorM8
namespace Go.Proofs.YtmkacifjegnehaaDoor
open Go Go.Proofs Go.Proofs.YtmkacifjegnehaaDoor.Ab
set_option linter.unusedSimpArgs false
set_option linter.unusedVariables false
set_option maxRecDepth 10000
set_option maxHeartbeats 8000000
def lenO {α β : Type} (l : List α) (x : Option β) : Option β := cond (lenOk l) x none
theorem lenO_some {α β : Type} {l : List α} {x : Option β} {r : β} (h : lenO l x = some r) : l.length ≤ 1000000000000 ∧ x = some r := by
  unfold lenO lenOk at h
  cases hd : decide (l.length ≤ 1000000000000) with
  | false => rw [hd] at h; cases h
  | true => rw [hd] at h; exact ⟨of_decide_eq_true hd, h⟩
theorem drop_ex {α : Type} {l : List α} {i : Nat} (h : i < l.length) : ∃ x xs, l.drop i = x :: xs := ⟨_, _, List.drop_eq_getElem_cons h⟩
def moreP (a b : Int) : Int := cond (decide (b < a)) a b
def asB (f : Ast → Option Int) (e : Ast) (k : Int) : Option Int := (f e).bind fun d => some (moreP k d)
def asF (f : Ast → Option Int) (l : List Ast) : Option Int := lenO l (foldO (asB f) l 0)
def agB (f : Ast → Option Int) (e : Arg) (k : Int) : Option Int := (f e.e).bind fun d => some (moreP k d)
def agF (f : Ast → Option Int) (l : List Arg) : Option Int := lenO l (foldO (agB f) l 0)
def deepA : Nat → Ast → Option Int
  | 0, _ => none
  | n + 1, e => cond (e.kind == 0) (some 0) ((asF (deepA n) e.kids).bind fun a => (asF (deepA n) e.ref.index).bind fun b => (agF (deepA n) e.args).bind fun c => some (wadd 1 (moreP a (moreP b c))))
def dvB (f : Ast → Option Int) (v : DVar) (k : Int) : Option Int := (f v.size).bind fun a => (f v.e).bind fun b => some (moreP k (moreP a b))
def dclF (f : Ast → Option Int) (d : Decl) : Option Int := lenO d.vars (foldO (dvB f) d.vars 0)
def dcB (f : Ast → Option Int) (d : Decl) (k : Int) : Option Int := (dclF f d).bind fun x => some (moreP k x)
def dclsF (f : Ast → Option Int) (l : List Decl) : Option Int := lenO l (foldO (dcB f) l 0)
def opB (g : List Stmt → Option Int) (o : List Stmt) (k : Int) : Option Int := (g o).bind fun d => some (moreP k d)
def stB (f : Ast → Option Int) (g : List Stmt → Option Int) (s : Stmt) (k : Int) : Option Int := (g s.body).bind fun a => (asF f s.es).bind fun b => (f s.e).bind fun c => (asF f s.ref.index).bind fun d => (agF f s.args).bind fun i => (dclF f s.decl).bind fun z => (lenO s.options (foldO (opB g) s.options (moreP a (moreP b (moreP c (moreP d (moreP i z))))))).bind fun y => some (moreP k (wadd 1 y))
def deepS : Nat → List Stmt → Option Int
  | 0, _ => none
  | n + 1, l => lenO l (foldO (stB (deepA n) (deepS n)) l 0)
def unB (f : Ast → Option Int) (g : List Stmt → Option Int) (u : Uni) (k : Int) : Option Int := (f u.count).bind fun a => (dclF f u.decl).bind fun b => (g u.body).bind fun c => (dclsF f u.decls).bind fun d => some (moreP (moreP k (moreP a (moreP b c))) d)
def deepU (n : Nat) (l : List Uni) : Option Int := lenO l (foldO (unB (deepA n) (deepS n)) l 0)
structure DeepIH (n : Nat) : Prop where
  e37 : ∀ {e : Ast} {k : Int}, deepA n e = some k → callW ip 32 [astV e] [] = some (.ret [iI k], [])
  e39 : ∀ {l : List Stmt} {k : Int}, deepS n l = some k → callW ip 34 [slV stmtD l] [] = some (.ret [iI k], [])
def parseB (n : Nat) (x : PS × List Uni) : Option ((PS × List Uni) ⊕ (List Uni × PS)) := cond (okP x.1) (cond (decide (x.1.pos < (x.1.l.length : Int))) ((takeP x.1 [59]).bind fun (b, p) => cond b (some (.inl (p, x.2))) ((unitP n p).bind fun (u, p) => (appP x.2 [u]).bind fun l => some (.inl (p, l)))) (some (.inr (x.2, x.1)))) (some (.inr (x.2, x.1)))
def parseP (n : Nat) (s : Bytes) : Option (List Uni × Int × Int) := (tokensP s).bind fun (l, c, a) => cond (c == 0) ((loopO (parseB n) (l.length + 2) (⟨s, l, 0, 0, 0⟩, [])).bind fun (us, p) => cond (okP p) ((deepU n us).bind fun d => cond (decide (60 < d)) (some ([], 3, 0)) (some (us, 0, 0))) (some ([], p.code, p.mat))) (some ([], c, a))

theorem W36 {a b : Int} : callW ip 31 [iI a, iI b] [] = some (.ret [iI (moreP a b)], []) := by
  unfold moreP
  refine callW_runs (fn := Tryd.f31) (L := long31) (nt := 10) (n0 := 0) (T := tab) (rw' := []) (kA := keepA) Tryd.func31 rfl rfl rfl rfl rfl rfl rfl rfl rfl ?_
  refine Runs.seq ?_
  refine Runs.reg (by simp only [go_sem, seval]; rfl) (by simp only [long31, go_sem, seval]; rfl) ?_
  refine Runs.seq ?_
  refine Runs.seq ?_
  refine Runs.reg (by simp only [go_sem, seval]; rfl) (by simp only [long31, go_sem, seval]; rfl) ?_
  refine Runs.cond (t := 7) rfl (fun hc1 => ?_) (fun hc1 => ?_)
  · skip
    try simp only [hc1, cond_true, cond_false]
    refine Runs.seq ?_
    refine Runs.reg (by simp only [go_sem, seval, hc1]; rfl) (by simp only [long31, go_sem, seval]; rfl) ?_
    refine Runs.ret ?_
    first | rfl | (simp only [go_sem, seval, hc1, cond_true, cond_false]; rfl)
  try simp only [hc1, cond_true, cond_false]
  refine Runs.skip ?_
  refine Runs.seq ?_
  refine Runs.reg (by simp only [go_sem, seval, hc1]; rfl) (by simp only [long31, go_sem, seval]; rfl) ?_
  refine Runs.ret ?_
  first | rfl | (simp only [go_sem, seval, hc1, cond_true, cond_false]; rfl)
theorem W61 {n : Nat} (ih : DeepIH n) {l : List Ast} {k0 : Int} (h : asF (deepA n) l = some k0) : callW ip 53 [slV astD l] [] = some (.ret [iI k0], []) := by
  simp only [asF] at h
  refine callW_runs (fn := Tryd.f53) (L := long53) (nt := 19) (n0 := 0) (T := tab) (rw' := []) (kA := keepA) Tryd.func53 rfl rfl rfl rfl rfl rfl rfl rfl rfl ?_
  refine Runs.seq ?_
  refine Runs.reg (by simp only [go_sem, seval]; rfl) (by simp only [long53, go_sem, seval]; rfl) ?_
  refine Runs.seq ?_
  refine Runs.reg (by simp only [go_sem, seval]; rfl) (by simp only [long53, go_sem, seval]; rfl) ?_
  refine Runs.seq ?_
  refine Runs.seq ?_
  refine Runs.reg (by simp only [go_sem, seval]; rfl) (by simp only [long53, go_sem, seval]; rfl) ?_
  refine Runs.block ?_
  obtain ⟨hL1, h⟩ := lenO_some h
  refine Runs.loop_rel (m := (l).length) (fun mz_ en hp => ∃ (i : Nat) (k : Int), foldO (asB (deepA n)) (List.drop i (l)) k = some k0 ∧ mz_ + i = (l).length ∧ en = [(0, slV astD l), (3, iI k), (4, .c (.d (.int .i64 (i : Int))))] ∧ hp = []) ?_ ⟨0, _, h, rfl, (by first | rfl | (simp only [go_sem, seval]; done) | (simp only [go_sem, seval]; rfl)), (by first | rfl | (simp only [go_sem, seval]; done) | (simp only [go_sem, seval]; rfl))⟩
  clear h
  rintro m1 en hp ⟨i1, k_, h, hm1, rfl, rfl⟩
  refine Runs.seq ?_
  refine Runs.seq ?_
  refine Runs.reg (by simp only [go_sem, seval]; rfl) (by simp only [long53, go_sem, seval]; rfl) ?_
  refine Runs.cond (t := 8) rfl (fun hc2 => ?_) (fun hc2 => ?_)
  · skip
    try simp only [N3] at hc2
    try simp only [hc2, C5] at h
    have hi1 := of_decide_eq_true hc2
    obtain ⟨x1, xs1, hx1⟩ := drop_ex (l := l) (i := i1) (by omega)
    obtain ⟨ha1, hb1, hd1⟩ := drop_cons hx1
    rw [hx1] at h
    simp only [foldO, asB] at h
    obtain ⟨r1, h, g1⟩ := some_bind h
    have hn1 := cast_nonneg i1
    have hw1 := wrap_succ (n := i1) (by omega)
    refine Runs.skip ?_
    refine Runs.seq ?_
    refine Runs.block ?_
    obtain ⟨k3, h3, h⟩ := some_bind h
    have w3 := ih.e37 h3
    try dsimp only at h
    refine Runs.reg (by simp only [go_sem, seval, ha1, hn1, hw1, w3, W36, hc2]; rfl) (by simp only [long53, go_sem, seval]; rfl) ?_
    refine Runs.reg (by simp only [go_sem, seval, ha1, hn1, hw1, hc2]; rfl) (by simp only [long53, go_sem, seval]; rfl) ?_
    cases h
    rw [← hd1] at g1
    refine ⟨m1 - 1, by omega, _, _, by simp only [go_sem, seval, ha1, hn1, hw1]; try rfl, i1 + 1, _, g1, by omega, rfl, rfl⟩
  try simp only [N3] at hc2
  try simp only [hc2, C5] at h
  have hi1 := of_decide_eq_false hc2
  rw [List.drop_eq_nil_of_le (by omega)] at h
  simp only [foldO, asB] at h
  refine Runs.exit ?_
  cases h
  refine Runs.seq ?_
  refine Runs.reg (by simp only [go_sem, seval, hc2]; rfl) (by simp only [long53, go_sem, seval]; rfl) ?_
  refine Runs.ret ?_
  try cases h
  try dsimp only [outX]
  first
  | rfl
  | (exact fk (res := [.tmp 2]) rfl rfl rfl (by simp only [fin1, go_sem, seval, hc2]; try rfl))
theorem W62 {n : Nat} (ih : DeepIH n) {r : Ref} {k0 : Int} (h : asF (deepA n) r.index = some k0) : callW ip 54 [refV r] [] = some (.ret [iI k0], []) := by
  have h : (asF (deepA n) r.index).bind (fun a => some a) = some k0 := by rw [h]; rfl
  refine callW_runs (fn := Tryd.f54) (L := long54) (nt := 6) (n0 := 0) (T := tab) (rw' := []) (kA := keepA) Tryd.func54 rfl rfl rfl rfl rfl rfl rfl rfl rfl ?_
  refine Runs.seq ?_
  refine Runs.reg (by simp only [go_sem, seval]; rfl) (by simp only [long54, go_sem, seval]; rfl) ?_
  refine Runs.seq ?_
  obtain ⟨k1, h1, h⟩ := some_bind h
  have w1 := W61 ih h1
  try dsimp only at h
  refine Runs.reg (by simp only [go_sem, seval, w1]; rfl) (by simp only [long54, go_sem, seval]; rfl) ?_
  refine Runs.ret ?_
  try cases h
  try dsimp only [outX]
  first
  | rfl
  | (exact fk (res := [.tmp 2]) rfl rfl rfl (by simp only [fin1, go_sem, seval]; try rfl))
theorem W63 {n : Nat} (ih : DeepIH n) {l : List Arg} {k0 : Int} (h : agF (deepA n) l = some k0) : callW ip 55 [slV argD l] [] = some (.ret [iI k0], []) := by
  simp only [agF] at h
  refine callW_runs (fn := Tryd.f55) (L := long55) (nt := 20) (n0 := 0) (T := tab) (rw' := []) (kA := keepA) Tryd.func55 rfl rfl rfl rfl rfl rfl rfl rfl rfl ?_
  refine Runs.seq ?_
  refine Runs.reg (by simp only [go_sem, seval]; rfl) (by simp only [long55, go_sem, seval]; rfl) ?_
  refine Runs.seq ?_
  refine Runs.reg (by simp only [go_sem, seval]; rfl) (by simp only [long55, go_sem, seval]; rfl) ?_
  refine Runs.seq ?_
  refine Runs.seq ?_
  refine Runs.reg (by simp only [go_sem, seval]; rfl) (by simp only [long55, go_sem, seval]; rfl) ?_
  refine Runs.block ?_
  obtain ⟨hL1, h⟩ := lenO_some h
  refine Runs.loop_rel (m := (l).length) (fun mz_ en hp => ∃ (i : Nat) (k : Int), foldO (agB (deepA n)) (List.drop i (l)) k = some k0 ∧ mz_ + i = (l).length ∧ en = [(0, slV argD l), (3, iI k), (4, .c (.d (.int .i64 (i : Int))))] ∧ hp = []) ?_ ⟨0, _, h, rfl, (by first | rfl | (simp only [go_sem, seval]; done) | (simp only [go_sem, seval]; rfl)), (by first | rfl | (simp only [go_sem, seval]; done) | (simp only [go_sem, seval]; rfl))⟩
  clear h
  rintro m1 en hp ⟨i1, k_, h, hm1, rfl, rfl⟩
  refine Runs.seq ?_
  refine Runs.seq ?_
  refine Runs.reg (by simp only [go_sem, seval]; rfl) (by simp only [long55, go_sem, seval]; rfl) ?_
  refine Runs.cond (t := 8) rfl (fun hc2 => ?_) (fun hc2 => ?_)
  · skip
    try simp only [N3] at hc2
    try simp only [hc2, C5] at h
    have hi1 := of_decide_eq_true hc2
    obtain ⟨x1, xs1, hx1⟩ := drop_ex (l := l) (i := i1) (by omega)
    obtain ⟨ha1, hb1, hd1⟩ := drop_cons hx1
    rw [hx1] at h
    simp only [foldO, agB] at h
    obtain ⟨r1, h, g1⟩ := some_bind h
    have hn1 := cast_nonneg i1
    have hw1 := wrap_succ (n := i1) (by omega)
    refine Runs.skip ?_
    refine Runs.seq ?_
    refine Runs.block ?_
    obtain ⟨k3, h3, h⟩ := some_bind h
    have w3 := ih.e37 h3
    try dsimp only at h
    refine Runs.reg (by simp only [go_sem, seval, ha1, hn1, hw1, w3, W36, hc2]; rfl) (by simp only [long55, go_sem, seval]; rfl) ?_
    refine Runs.reg (by simp only [go_sem, seval, ha1, hn1, hw1, hc2]; rfl) (by simp only [long55, go_sem, seval]; rfl) ?_
    cases h
    rw [← hd1] at g1
    refine ⟨m1 - 1, by omega, _, _, by simp only [go_sem, seval, ha1, hn1, hw1]; try rfl, i1 + 1, _, g1, by omega, rfl, rfl⟩
  try simp only [N3] at hc2
  try simp only [hc2, C5] at h
  have hi1 := of_decide_eq_false hc2
  rw [List.drop_eq_nil_of_le (by omega)] at h
  simp only [foldO, agB] at h
  refine Runs.exit ?_
  cases h
  refine Runs.seq ?_
  refine Runs.reg (by simp only [go_sem, seval, hc2]; rfl) (by simp only [long55, go_sem, seval]; rfl) ?_
  refine Runs.ret ?_
  try cases h
  try dsimp only [outX]
  first
  | rfl
  | (exact fk (res := [.tmp 2]) rfl rfl rfl (by simp only [fin1, go_sem, seval, hc2]; try rfl))
theorem W37 {n : Nat} (ih : DeepIH n) {e : Ast} {k0 : Int} (h : deepA (n + 1) e = some k0) : callW ip 32 [astV e] [] = some (.ret [iI k0], []) := by
  simp only [deepA] at h
  refine callW_runs (fn := Tryd.f32) (L := long32) (nt := 18) (n0 := 0) (T := tab) (rw' := []) (kA := keepA) Tryd.func32 rfl rfl rfl rfl rfl rfl rfl rfl rfl ?_
  refine Runs.seq ?_
  refine Runs.reg (by simp only [go_sem, seval]; rfl) (by simp only [long32, go_sem, seval]; rfl) ?_
  refine Runs.seq ?_
  refine Runs.seq ?_
  refine Runs.reg (by simp only [go_sem, seval]; rfl) (by simp only [long32, go_sem, seval]; rfl) ?_
  refine Runs.cond (t := 5) rfl (fun hc1 => ?_) (fun hc1 => ?_)
  · skip
    try simp only [N3] at hc1
    try simp only [hc1, C5] at h
    refine Runs.seq ?_
    refine Runs.reg (by simp only [go_sem, seval, hc1]; rfl) (by simp only [long32, go_sem, seval]; rfl) ?_
    refine Runs.ret ?_
    try cases h
    try dsimp only [outX]
    first
    | rfl
    | (exact fk (res := [.tmp 2]) rfl rfl rfl (by simp only [fin1, go_sem, seval, hc1]; try rfl))
  try simp only [N3] at hc1
  try simp only [hc1, C5] at h
  refine Runs.skip ?_
  refine Runs.seq ?_
  obtain ⟨k2, h2, h⟩ := some_bind h
  have w2 := W61 ih h2
  try dsimp only at h
  obtain ⟨k3, h3, h⟩ := some_bind h
  have w3 := W62 ih h3
  try dsimp only at h
  obtain ⟨k4, h4, h⟩ := some_bind h
  have w4 := W63 ih h4
  try dsimp only at h
  refine Runs.drw rfl (by simp only [go_sem, seval, w2, w3, w4, W36, hc1]; rfl) (by simp only [long32, go_sem, seval]; rfl) ?_
  refine Runs.ret ?_
  try cases h
  try dsimp only [outX]
  first
  | rfl
  | (exact fk (res := [.tmp 2]) rfl rfl rfl (by simp only [fin1, go_sem, seval, w2, w3, w4, W36, hc1]; try rfl))
theorem W38 {n : Nat} (ih : DeepIH n) {d : Decl} {k0 : Int} (h : dclF (deepA n) d = some k0) : callW ip 33 [declV d] [] = some (.ret [iI k0], []) := by
  simp only [dclF] at h
  refine callW_runs (fn := Tryd.f33) (L := long33) (nt := 30) (n0 := 0) (T := tab) (rw' := []) (kA := keepA) Tryd.func33 rfl rfl rfl rfl rfl rfl rfl rfl rfl ?_
  refine Runs.seq ?_
  refine Runs.reg (by simp only [go_sem, seval]; rfl) (by simp only [long33, go_sem, seval]; rfl) ?_
  refine Runs.seq ?_
  refine Runs.reg (by simp only [go_sem, seval]; rfl) (by simp only [long33, go_sem, seval]; rfl) ?_
  refine Runs.seq ?_
  refine Runs.seq ?_
  refine Runs.reg (by simp only [go_sem, seval]; rfl) (by simp only [long33, go_sem, seval]; rfl) ?_
  refine Runs.block ?_
  obtain ⟨hL1, h⟩ := lenO_some h
  refine Runs.loop_rel (m := (d.vars).length) (fun mz_ en hp => ∃ (i : Nat) (k : Int), foldO (dvB (deepA n)) (List.drop i (d.vars)) k = some k0 ∧ mz_ + i = (d.vars).length ∧ en = [(1, .c (.ptr 0 0)), (3, iI k), (4, .c (.d (.int .i64 (i : Int))))] ∧ hp = [.box [.d (.int .i64 d.type), .d (.str d.named), .d (.sl (d.vars.map dvarD)), .d (.int .i64 d.pos)]]) ?_ ⟨0, _, h, rfl, (by first | rfl | (simp only [go_sem, seval]; done) | (simp only [go_sem, seval]; rfl)), (by first | rfl | (simp only [go_sem, seval]; done) | (simp only [go_sem, seval]; rfl))⟩
  clear h
  rintro m1 en hp ⟨i1, k_, h, hm1, rfl, rfl⟩
  refine Runs.seq ?_
  refine Runs.seq ?_
  refine Runs.reg (by simp only [go_sem, seval]; rfl) (by simp only [long33, go_sem, seval]; rfl) ?_
  refine Runs.cond (t := 9) rfl (fun hc2 => ?_) (fun hc2 => ?_)
  · skip
    try simp only [N3] at hc2
    try simp only [hc2, C5] at h
    have hi1 := of_decide_eq_true hc2
    obtain ⟨x1, xs1, hx1⟩ := drop_ex (l := d.vars) (i := i1) (by omega)
    obtain ⟨ha1, hb1, hd1⟩ := drop_cons hx1
    rw [hx1] at h
    simp only [foldO, dvB] at h
    obtain ⟨r1, h, g1⟩ := some_bind h
    have hn1 := cast_nonneg i1
    have hw1 := wrap_succ (n := i1) (by omega)
    refine Runs.skip ?_
    refine Runs.seq ?_
    refine Runs.block ?_
    obtain ⟨k3, h3, h⟩ := some_bind h
    have w3 := ih.e37 h3
    try dsimp only at h
    obtain ⟨k4, h4, h⟩ := some_bind h
    have w4 := ih.e37 h4
    try dsimp only at h
    refine Runs.drw rfl (by simp only [go_sem, seval, ha1, hn1, hw1, w3, w4, W36, hc2]; rfl) (by simp only [long33, go_sem, seval]; rfl) ?_
    refine Runs.reg (by simp only [go_sem, seval, ha1, hn1, hw1, w3, w4, W36, hc2]; rfl) (by simp only [long33, go_sem, seval]; rfl) ?_
    cases h
    rw [← hd1] at g1
    refine ⟨m1 - 1, by omega, _, _, by simp only [go_sem, seval, ha1, hn1, hw1, w3, w4, W36]; try rfl, i1 + 1, _, g1, by omega, rfl, rfl⟩
  try simp only [N3] at hc2
  try simp only [hc2, C5] at h
  have hi1 := of_decide_eq_false hc2
  rw [List.drop_eq_nil_of_le (by omega)] at h
  simp only [foldO, dvB] at h
  refine Runs.exit ?_
  cases h
  refine Runs.seq ?_
  refine Runs.reg (by simp only [go_sem, seval, hc2]; rfl) (by simp only [long33, go_sem, seval]; rfl) ?_
  refine Runs.ret ?_
  try cases h
  try dsimp only [outX]
  first
  | rfl
  | (exact fk (res := [.tmp 2]) rfl rfl rfl (by simp only [fin1, go_sem, seval, hc2]; try rfl))
theorem W40 {n : Nat} (ih : DeepIH n) {l : List Decl} {k0 : Int} (h : dclsF (deepA n) l = some k0) : callW ip 35 [slV declD l] [] = some (.ret [iI k0], []) := by
  simp only [dclsF] at h
  refine callW_runs (fn := Tryd.f35) (L := long35) (nt := 19) (n0 := 0) (T := tab) (rw' := []) (kA := keepA) Tryd.func35 rfl rfl rfl rfl rfl rfl rfl rfl rfl ?_
  refine Runs.seq ?_
  refine Runs.reg (by simp only [go_sem, seval]; rfl) (by simp only [long35, go_sem, seval]; rfl) ?_
  refine Runs.seq ?_
  refine Runs.reg (by simp only [go_sem, seval]; rfl) (by simp only [long35, go_sem, seval]; rfl) ?_
  refine Runs.seq ?_
  refine Runs.seq ?_
  refine Runs.reg (by simp only [go_sem, seval]; rfl) (by simp only [long35, go_sem, seval]; rfl) ?_
  refine Runs.block ?_
  obtain ⟨hL1, h⟩ := lenO_some h
  refine Runs.loop_rel (m := (l).length) (fun mz_ en hp => ∃ (i : Nat) (k : Int), foldO (dcB (deepA n)) (List.drop i (l)) k = some k0 ∧ mz_ + i = (l).length ∧ en = [(0, slV declD l), (3, iI k), (4, .c (.d (.int .i64 (i : Int))))] ∧ hp = []) ?_ ⟨0, _, h, rfl, (by first | rfl | (simp only [go_sem, seval]; done) | (simp only [go_sem, seval]; rfl)), (by first | rfl | (simp only [go_sem, seval]; done) | (simp only [go_sem, seval]; rfl))⟩
  clear h
  rintro m1 en hp ⟨i1, k_, h, hm1, rfl, rfl⟩
  refine Runs.seq ?_
  refine Runs.seq ?_
  refine Runs.reg (by simp only [go_sem, seval]; rfl) (by simp only [long35, go_sem, seval]; rfl) ?_
  refine Runs.cond (t := 8) rfl (fun hc2 => ?_) (fun hc2 => ?_)
  · skip
    try simp only [N3] at hc2
    try simp only [hc2, C5] at h
    have hi1 := of_decide_eq_true hc2
    obtain ⟨x1, xs1, hx1⟩ := drop_ex (l := l) (i := i1) (by omega)
    obtain ⟨ha1, hb1, hd1⟩ := drop_cons hx1
    rw [hx1] at h
    simp only [foldO, dcB] at h
    obtain ⟨r1, h, g1⟩ := some_bind h
    have hn1 := cast_nonneg i1
    have hw1 := wrap_succ (n := i1) (by omega)
    refine Runs.skip ?_
    refine Runs.seq ?_
    refine Runs.block ?_
    obtain ⟨k3, h3, h⟩ := some_bind h
    have w3 := W38 ih h3
    try dsimp only at h
    refine Runs.reg (by simp only [go_sem, seval, ha1, hn1, hw1, w3, W36, hc2]; rfl) (by simp only [long35, go_sem, seval]; rfl) ?_
    refine Runs.reg (by simp only [go_sem, seval, ha1, hn1, hw1, hc2]; rfl) (by simp only [long35, go_sem, seval]; rfl) ?_
    cases h
    rw [← hd1] at g1
    refine ⟨m1 - 1, by omega, _, _, by simp only [go_sem, seval, ha1, hn1, hw1]; try rfl, i1 + 1, _, g1, by omega, rfl, rfl⟩
  try simp only [N3] at hc2
  try simp only [hc2, C5] at h
  have hi1 := of_decide_eq_false hc2
  rw [List.drop_eq_nil_of_le (by omega)] at h
  simp only [foldO, dcB] at h
  refine Runs.exit ?_
  cases h
  refine Runs.seq ?_
  refine Runs.reg (by simp only [go_sem, seval, hc2]; rfl) (by simp only [long35, go_sem, seval]; rfl) ?_
  refine Runs.ret ?_
  try cases h
  try dsimp only [outX]
  first
  | rfl
  | (exact fk (res := [.tmp 2]) rfl rfl rfl (by simp only [fin1, go_sem, seval, hc2]; try rfl))
theorem W39 {n : Nat} (ih : DeepIH n) {l : List Stmt} {k0 : Int} (h : deepS (n + 1) l = some k0) : callW ip 34 [slV stmtD l] [] = some (.ret [iI k0], []) := by
  simp only [deepS] at h
  refine callW_runs (fn := Tryd.f34) (L := long34) (nt := 61) (n0 := 0) (T := tab) (rw' := []) (kA := keepA) Tryd.func34 rfl rfl rfl rfl rfl rfl rfl rfl rfl ?_
  refine Runs.seq ?_
  refine Runs.reg (by simp only [go_sem, seval]; rfl) (by simp only [long34, go_sem, seval]; rfl) ?_
  refine Runs.seq ?_
  refine Runs.reg (by simp only [go_sem, seval]; rfl) (by simp only [long34, go_sem, seval]; rfl) ?_
  refine Runs.seq ?_
  refine Runs.seq ?_
  refine Runs.reg (by simp only [go_sem, seval]; rfl) (by simp only [long34, go_sem, seval]; rfl) ?_
  refine Runs.block ?_
  obtain ⟨hL1, h⟩ := lenO_some h
  refine Runs.loop_rel (m := (l).length) (fun mz_ en hp => ∃ (i : Nat) (k : Int), foldO (stB (deepA n) (deepS n)) (List.drop i (l)) k = some k0 ∧ mz_ + i = (l).length ∧ en = [(0, slV stmtD l), (3, iI k), (4, .c (.d (.int .i64 (i : Int))))] ∧ hp = []) ?_ ⟨0, _, h, rfl, (by first | rfl | (simp only [go_sem, seval]; done) | (simp only [go_sem, seval]; rfl)), (by first | rfl | (simp only [go_sem, seval]; done) | (simp only [go_sem, seval]; rfl))⟩
  clear h
  rintro m1 en hp ⟨i1, k_, h, hm1, rfl, rfl⟩
  refine Runs.seq ?_
  refine Runs.seq ?_
  refine Runs.reg (by simp only [go_sem, seval]; rfl) (by simp only [long34, go_sem, seval]; rfl) ?_
  refine Runs.cond (t := 11) rfl (fun hc2 => ?_) (fun hc2 => ?_)
  · skip
    try simp only [N3] at hc2
    try simp only [hc2, C5] at h
    have hi1 := of_decide_eq_true hc2
    obtain ⟨x1, xs1, hx1⟩ := drop_ex (l := l) (i := i1) (by omega)
    obtain ⟨ha1, hb1, hd1⟩ := drop_cons hx1
    rw [hx1] at h
    simp only [foldO, stB] at h
    obtain ⟨r1, h, g1⟩ := some_bind h
    have hn1 := cast_nonneg i1
    have hw1 := wrap_succ (n := i1) (by omega)
    refine Runs.skip ?_
    refine Runs.seq ?_
    refine Runs.block ?_
    refine Runs.seq ?_
    refine Runs.reg (by simp only [go_sem, seval, ha1, hn1, hw1, hc2]; rfl) (by simp only [long34, go_sem, seval]; rfl) ?_
    refine Runs.seq ?_
    obtain ⟨k3, h3, h⟩ := some_bind h
    have w3 := ih.e39 h3
    try dsimp only at h
    obtain ⟨k4, h4, h⟩ := some_bind h
    have w4 := W61 ih h4
    try dsimp only at h
    obtain ⟨k5, h5, h⟩ := some_bind h
    have w5 := ih.e37 h5
    try dsimp only at h
    obtain ⟨k6, h6, h⟩ := some_bind h
    have w6 := W62 ih h6
    try dsimp only at h
    obtain ⟨k7, h7, h⟩ := some_bind h
    have w7 := W63 ih h7
    try dsimp only at h
    obtain ⟨k8, h8, h⟩ := some_bind h
    have w8 := W38 ih h8
    try dsimp only at h
    refine Runs.drw rfl (by simp only [go_sem, seval, ha1, hn1, hw1, w3, w4, w5, w6, w7, w8, W36, hc2]; rfl) (by simp only [long34, go_sem, seval]; rfl) ?_
    refine Runs.seq ?_
    refine Runs.seq ?_
    refine Runs.reg (by simp only [go_sem, seval, ha1, hn1, hw1, w3, w4, w5, w6, w7, w8, W36, hc2]; rfl) (by simp only [long34, go_sem, seval]; rfl) ?_
    refine Runs.block ?_
    obtain ⟨j9, h, hk9⟩ := some_bind h
    obtain ⟨hL9, h⟩ := lenO_some h
    refine Runs.loop_rel (m := (x1.options).length) (fun mz_ en hp => ∃ (i : Nat) (k : Int), foldO (opB (deepS n)) (List.drop i (x1.options)) k = some j9 ∧ mz_ + i = (x1.options).length ∧ en = [(0, slV stmtD l), (3, _), (4, _), (5, .c (.ptr 0 0)), (6, iI k), (7, .c (.d (.int .i64 (i : Int))))] ∧ hp = _) ?_ ⟨0, _, h, rfl, (by first | rfl | (simp only [go_sem, seval, ha1, hn1, hw1, w3, w4, w5, w6, w7, w8, W36]; done) | (simp only [go_sem, seval, ha1, hn1, hw1, w3, w4, w5, w6, w7, w8, W36]; rfl)), (by first | rfl | (simp only [go_sem, seval, ha1, hn1, hw1, w3, w4, w5, w6, w7, w8, W36]; done) | (simp only [go_sem, seval, ha1, hn1, hw1, w3, w4, w5, w6, w7, w8, W36]; rfl))⟩
    clear h
    rintro m9 en hp ⟨i9, k_, h, hm9, rfl, rfl⟩
    refine Runs.seq ?_
    refine Runs.seq ?_
    refine Runs.reg (by simp only [go_sem, seval, ha1, hn1, hw1, w3, w4, w5, w6, w7, w8, W36]; rfl) (by simp only [long34, go_sem, seval]; rfl) ?_
    refine Runs.cond (t := 45) rfl (fun hc10 => ?_) (fun hc10 => ?_)
    · skip
      try simp only [N3] at hc10
      try simp only [hc10, C5] at h
      have hi9 := of_decide_eq_true hc10
      obtain ⟨x9, xs9, hx9⟩ := drop_ex (l := x1.options) (i := i9) (by omega)
      obtain ⟨ha9, hb9, hd9⟩ := drop_cons hx9
      rw [hx9] at h
      simp only [foldO, opB] at h
      obtain ⟨r9, h, g9⟩ := some_bind h
      have hn9 := cast_nonneg i9
      have hw9 := wrap_succ (n := i9) (by omega)
      refine Runs.skip ?_
      refine Runs.seq ?_
      refine Runs.block ?_
      obtain ⟨k11, h11, h⟩ := some_bind h
      have w11 := ih.e39 h11
      try dsimp only at h
      refine Runs.reg (by simp only [go_sem, seval, ha1, hn1, hw1, w3, w4, w5, w6, w7, w8, W36, ha9, hn9, hw9, w11, hc10]; rfl) (by simp only [long34, go_sem, seval]; rfl) ?_
      refine Runs.reg (by simp only [go_sem, seval, ha1, hn1, hw1, w3, w4, w5, w6, w7, w8, W36, ha9, hn9, hw9, hc10]; rfl) (by simp only [long34, go_sem, seval]; rfl) ?_
      cases h
      rw [← hd9] at g9
      refine ⟨m9 - 1, by omega, _, _, by simp only [go_sem, seval, ha1, hn1, hw1, w3, w4, w5, w6, w7, w8, W36, ha9, hn9, hw9]; try rfl, i9 + 1, _, g9, by omega, rfl, rfl⟩
    try simp only [N3] at hc10
    try simp only [hc10, C5] at h
    have hi9 := of_decide_eq_false hc10
    rw [List.drop_eq_nil_of_le (by omega)] at h
    simp only [foldO, opB] at h
    refine Runs.exit ?_
    cases h
    have h := hk9
    try dsimp only at h
    try simp only [hc10, cond_true, cond_false] at h
    refine Runs.reg (by simp only [go_sem, seval, ha1, hn1, hw1, w3, w4, w5, w6, w7, w8, W36, hc10]; rfl) (by simp only [long34, go_sem, seval]; rfl) ?_
    refine Runs.reg (by simp only [go_sem, seval, ha1, hn1, hw1, w3, w4, w5, w6, w7, w8, W36, hc10]; rfl) (by simp only [long34, go_sem, seval]; rfl) ?_
    cases h
    rw [← hd1] at g1
    refine ⟨m1 - 1, by omega, _, _, by simp only [go_sem, seval, ha1, hn1, hw1, w3, w4, w5, w6, w7, w8, W36]; try rfl, i1 + 1, _, g1, by omega, rfl, rfl⟩
  try simp only [N3] at hc2
  try simp only [hc2, C5] at h
  have hi1 := of_decide_eq_false hc2
  rw [List.drop_eq_nil_of_le (by omega)] at h
  simp only [foldO, stB] at h
  refine Runs.exit ?_
  cases h
  refine Runs.seq ?_
  refine Runs.reg (by simp only [go_sem, seval, hc2]; rfl) (by simp only [long34, go_sem, seval]; rfl) ?_
  refine Runs.ret ?_
  try cases h
  try dsimp only [outX]
  first
  | rfl
  | (exact fk (res := [.tmp 2]) rfl rfl rfl (by simp only [fin1, go_sem, seval, hc2]; try rfl))
theorem W14 {n : Nat} (ih : DeepIH n) {l : List Uni} {k0 : Int} (h : deepU n l = some k0) : callW ip 13 [slV uniD l] [] = some (.ret [iI k0], []) := by
  simp only [deepU] at h
  refine callW_runs (fn := Tryd.f13) (L := long13) (nt := 42) (n0 := 0) (T := tab) (rw' := []) (kA := keepA) Tryd.func13 rfl rfl rfl rfl rfl rfl rfl rfl rfl ?_
  refine Runs.seq ?_
  refine Runs.reg (by simp only [go_sem, seval]; rfl) (by simp only [long13, go_sem, seval]; rfl) ?_
  refine Runs.seq ?_
  refine Runs.reg (by simp only [go_sem, seval]; rfl) (by simp only [long13, go_sem, seval]; rfl) ?_
  refine Runs.seq ?_
  refine Runs.seq ?_
  refine Runs.reg (by simp only [go_sem, seval]; rfl) (by simp only [long13, go_sem, seval]; rfl) ?_
  refine Runs.block ?_
  obtain ⟨hL1, h⟩ := lenO_some h
  refine Runs.loop_rel (m := (l).length) (fun mz_ en hp => ∃ (i : Nat) (k : Int), foldO (unB (deepA n) (deepS n)) (List.drop i (l)) k = some k0 ∧ mz_ + i = (l).length ∧ en = [(0, slV uniD l), (3, iI k), (4, .c (.d (.int .i64 (i : Int))))] ∧ hp = []) ?_ ⟨0, _, h, rfl, (by first | rfl | (simp only [go_sem, seval]; done) | (simp only [go_sem, seval]; rfl)), (by first | rfl | (simp only [go_sem, seval]; done) | (simp only [go_sem, seval]; rfl))⟩
  clear h
  rintro m1 en hp ⟨i1, k_, h, hm1, rfl, rfl⟩
  refine Runs.seq ?_
  refine Runs.seq ?_
  refine Runs.reg (by simp only [go_sem, seval]; rfl) (by simp only [long13, go_sem, seval]; rfl) ?_
  refine Runs.cond (t := 8) rfl (fun hc2 => ?_) (fun hc2 => ?_)
  · skip
    try simp only [N3] at hc2
    try simp only [hc2, C5] at h
    have hi1 := of_decide_eq_true hc2
    obtain ⟨x1, xs1, hx1⟩ := drop_ex (l := l) (i := i1) (by omega)
    obtain ⟨ha1, hb1, hd1⟩ := drop_cons hx1
    rw [hx1] at h
    simp only [foldO, unB] at h
    obtain ⟨r1, h, g1⟩ := some_bind h
    have hn1 := cast_nonneg i1
    have hw1 := wrap_succ (n := i1) (by omega)
    refine Runs.skip ?_
    refine Runs.seq ?_
    refine Runs.block ?_
    refine Runs.seq ?_
    obtain ⟨k3, h3, h⟩ := some_bind h
    have w3 := ih.e37 h3
    try dsimp only at h
    obtain ⟨k4, h4, h⟩ := some_bind h
    have w4 := W38 ih h4
    try dsimp only at h
    obtain ⟨k5, h5, h⟩ := some_bind h
    have w5 := ih.e39 h5
    try dsimp only at h
    refine Runs.drw rfl (by simp only [go_sem, seval, ha1, hn1, hw1, w3, w4, w5, W36, hc2]; rfl) (by simp only [long13, go_sem, seval]; rfl) ?_
    obtain ⟨k6, h6, h⟩ := some_bind h
    have w6 := W40 ih h6
    try dsimp only at h
    refine Runs.reg (by simp only [go_sem, seval, ha1, hn1, hw1, w3, w4, w5, W36, w6, hc2]; rfl) (by simp only [long13, go_sem, seval]; rfl) ?_
    refine Runs.reg (by simp only [go_sem, seval, ha1, hn1, hw1, w3, w4, w5, W36, hc2]; rfl) (by simp only [long13, go_sem, seval]; rfl) ?_
    cases h
    rw [← hd1] at g1
    refine ⟨m1 - 1, by omega, _, _, by simp only [go_sem, seval, ha1, hn1, hw1, w3, w4, w5, W36]; try rfl, i1 + 1, _, g1, by omega, rfl, rfl⟩
  try simp only [N3] at hc2
  try simp only [hc2, C5] at h
  have hi1 := of_decide_eq_false hc2
  rw [List.drop_eq_nil_of_le (by omega)] at h
  simp only [foldO, unB] at h
  refine Runs.exit ?_
  cases h
  refine Runs.seq ?_
  refine Runs.reg (by simp only [go_sem, seval, hc2]; rfl) (by simp only [long13, go_sem, seval]; rfl) ?_
  refine Runs.ret ?_
  try cases h
  try dsimp only [outX]
  first
  | rfl
  | (exact fk (res := [.tmp 2]) rfl rfl rfl (by simp only [fin1, go_sem, seval, hc2]; try rfl))
theorem W6 {n : Nat} (ie : ExprIH n) (is : StmtIH n) (ih : DeepIH n) {s : Bytes} {l : List Uni} {c a : Int} (h : parseP n s = some (l, c, a)) : callW ip 6 [sI s] [] = some (.ret [slV uniD l, mI (c, a)], []) := by
  simp only [parseP, wadd, wsub, incBy] at h
  refine callW_runs (fn := Tryd.f6) (L := long6) (nt := 58) (n0 := 0) (T := tab) (rw' := []) (kA := keepA) Tryd.func6 rfl rfl rfl rfl rfl rfl rfl rfl rfl ?_
  refine Runs.seq ?_
  refine Runs.reg (by simp only [go_sem, seval]; rfl) (by simp only [long6, go_sem, seval]; rfl) ?_
  refine Runs.seq ?_
  obtain ⟨⟨l1, c1, a1⟩, h1, h⟩ := some_bind h
  have w1 := W10 h1
  try dsimp only at h
  refine Runs.reg (by simp only [go_sem, seval, w1]; rfl) (by simp only [long6, go_sem, seval]; rfl) ?_
  refine Runs.seq ?_
  refine Runs.seq ?_
  refine Runs.reg (by simp only [go_sem, seval]; rfl) (by simp only [long6, go_sem, seval]; rfl) ?_
  refine Runs.cond (t := 16) rfl (fun hc2 => ?_) (fun hc2 => ?_)
  · skip
    try simp only [N3] at hc2
    try simp only [hc2, C5] at h
    refine Runs.seq ?_
    refine Runs.drw rfl (by simp only [go_sem, seval, hc2]; rfl) (by simp only [long6, go_sem, seval]; rfl) ?_
    refine Runs.ret ?_
    try cases h
    try dsimp only [outX]
    first
    | rfl
    | (exact fk (res := [.tmp 2, .cell 3 26]) rfl rfl rfl (by simp only [fin1, go_sem, seval, hc2]; try rfl))
  try simp only [N3] at hc2
  try simp only [hc2, C5] at h
  refine Runs.skip ?_
  refine Runs.seq ?_
  refine Runs.reg (by simp only [go_sem, seval, hc2]; rfl) (by simp only [long6, go_sem, seval]; rfl) ?_
  refine Runs.seq ?_
  refine Runs.reg (by simp only [go_sem, seval, hc2]; rfl) (by simp only [long6, go_sem, seval]; rfl) ?_
  refine Runs.seq ?_
  refine Runs.block ?_
  obtain ⟨j3, h, hk3⟩ := some_bind h
  refine Runs.loop_rel (fun mz_ en hp => ∃ (x : PS × List Uni), loopO (parseB n) mz_ x = some j3 ∧ en = [(3, .c (.ptr 0 0)), (5, .c (.ptr 1 0)), (6, .c (.ptr 2 0)), (7, .c (.row 3))] ∧ hp = [.box [.d (.int .i64 0), .d (.int .i64 0)], _, .box [.d (.str x.1.s), .d (.sl (x.1.l.map tokD)), .d (.int .i64 x.1.pos), .d (.int .i64 x.1.code), .d (.int .i64 x.1.mat)], .row 46 21 x.2.length (rowC uniD x.2)]) ?_ ⟨_, h, (by first | rfl | (simp only [go_sem, seval]; done) | (simp only [go_sem, seval]; rfl)), (by first | rfl | (simp only [go_sem, seval]; done) | (simp only [go_sem, seval]; rfl))⟩
  clear h
  rintro m3 en hp ⟨⟨p1, l1⟩, h, rfl, rfl⟩
  obtain _ | m3 := m3
  · cases h
  simp only [loopO, parseB] at h
  obtain ⟨r3, h, g3⟩ := some_bind h
  refine Runs.seq ?_
  refine Runs.seq ?_
  cases hd4 : okP p1
  · skip
    try simp only [N3] at hd4
    try simp only [hd4, C5] at h
    refine Runs.drw rfl (by simp only [go_sem, seval, W11, hd4]; rfl) (by simp only [long6, go_sem, seval]; rfl) ?_
    refine Runs.cond (t := 35) rfl (fun hc5 => ?_) (fun hc5 => ?_)
    · first
      | exact absurd hc5 (by decide)
      | exact absurd hc5 (by simp only [hd4]; decide)
      | skip
        try simp only [N3] at hc5
        try simp only [hc5, C5] at h
        refine Runs.skip ?_
        refine Runs.block ?_
        refine Runs.seq ?_
        obtain ⟨⟨b6, q6⟩, h6, h⟩ := some_bind h
        have w6 := W12 _ _ _ _ h6
        try dsimp only at h
        refine Runs.reg (by simp only [go_sem, seval, W11, w6, hd4, hc5]; rfl) (by simp only [long6, go_sem, seval]; rfl) ?_
        refine Runs.seq ?_
        refine Runs.reg (by simp only [go_sem, seval, W11, hd4, hc5]; rfl) (by simp only [long6, go_sem, seval]; rfl) ?_
        refine Runs.cond (t := 39) rfl (fun hc7 => ?_) (fun hc7 => ?_)
        · skip
          try simp only [N3] at hc7
          try simp only [hc7, C5] at h
          obtain ⟨⟨u8, q8⟩, h8, h⟩ := some_bind h
          have w8 := W13 ie is h8
          try dsimp only at h
          obtain ⟨y9, h9, h⟩ := some_bind h
          obtain ⟨le9, rfl⟩ := appP_some h9
          try simp only [List.length_set, List.length_map, List.length_append, List.length_cons, List.length_nil, seval] at le9
          try dsimp only at h
          refine Runs.reg (by simp only [go_sem, seval, W11, w8, le9, hd4, hc5, hc7]; rfl) (by simp only [long6, go_sem, seval]; rfl) ?_
          cases h
          refine ⟨m3, Nat.lt_succ_self _, _, _, by simp only [go_sem, seval, W11]; try rfl, _, g3, rfl, rfl⟩
        try simp only [N3] at hc7
        try simp only [hc7, C5] at h
        refine Runs.skip ?_
        cases h
        refine ⟨m3, Nat.lt_succ_self _, _, _, by simp only [go_sem, seval, W11]; try rfl, _, g3, rfl, rfl⟩
    · first
      | exact absurd hc5 (by decide)
      | exact absurd hc5 (by simp only [hd4]; decide)
      | skip
        try simp only [N3] at hc5
        try simp only [hc5, C5] at h
        refine Runs.exit ?_
        cases h
        cases g3
        have h := hk3
        try dsimp only at h
        try simp only [hd4, hc5, cond_true, cond_false] at h
        refine Runs.seq ?_
        refine Runs.seq ?_
        refine Runs.reg (by simp only [go_sem, seval, W11, hd4, hc5]; rfl) (by simp only [long6, go_sem, seval]; rfl) ?_
        refine Runs.cond (t := 47) rfl (fun hc10 => ?_) (fun hc10 => ?_)
        · first
          | exact absurd hc10 (by decide)
          | exact absurd hc10 (by simp only [hd4, hc5]; decide)
          | skip
            try simp only [N3] at hc10
            try simp only [hc10, C5] at h
            refine Runs.seq ?_
            refine Runs.drw rfl (by simp only [go_sem, seval, W11, hd4, hc5, hc10]; rfl) (by simp only [long6, go_sem, seval]; rfl) ?_
            refine Runs.ret ?_
            try cases h
            try dsimp only [outX]
            first
            | rfl
            | (exact fk (res := [.tmp 2, .cell 3 26]) rfl rfl rfl (by simp only [fin1, go_sem, seval, W11, hd4, hc5, hc10]; try rfl))
        · first
          | exact absurd hc10 (by decide)
          | exact absurd hc10 (by simp only [hd4, hc5]; decide)
          | skip
            try simp only [N3] at hc10
            try simp only [hc10, C5] at h
            refine Runs.skip ?_
            refine Runs.seq ?_
            refine Runs.seq ?_
            obtain ⟨k11, h11, h⟩ := some_bind h
            have w11 := W14 ih h11
            try dsimp only at h
            refine Runs.reg (by simp only [go_sem, seval, W11, w11, hd4, hc5, hc10]; rfl) (by simp only [long6, go_sem, seval]; rfl) ?_
            refine Runs.cond (t := 54) rfl (fun hc12 => ?_) (fun hc12 => ?_)
            · skip
              try simp only [N3] at hc12
              try simp only [hc12, C5] at h
              refine Runs.seq ?_
              refine Runs.reg (by simp only [go_sem, seval, W11, hd4, hc5, hc10, hc12]; rfl) (by simp only [long6, go_sem, seval]; rfl) ?_
              refine Runs.ret ?_
              try cases h
              try dsimp only [outX]
              first
              | rfl
              | (exact fk (res := [.tmp 2, .cell 3 26]) rfl rfl rfl (by simp only [fin1, go_sem, seval, W11, hd4, hc5, hc10, hc12]; try rfl))
            try simp only [N3] at hc12
            try simp only [hc12, C5] at h
            refine Runs.skip ?_
            refine Runs.seq ?_
            refine Runs.reg (by simp only [go_sem, seval, W11, hd4, hc5, hc10, hc12]; rfl) (by simp only [long6, go_sem, seval]; rfl) ?_
            refine Runs.ret ?_
            try cases h
            try dsimp only [outX]
            first
            | rfl
            | (exact fk (res := [.tmp 2, .cell 3 26]) rfl rfl rfl (by simp only [fin1, go_sem, seval, W11, hd4, hc5, hc10, hc12]; try rfl))
  · skip
    try simp only [N3] at hd4
    try simp only [hd4, C5] at h
    refine Runs.drw rfl (by simp only [go_sem, seval, W11, hd4]; rfl) (by simp only [long6, go_sem, seval]; rfl) ?_
    refine Runs.cond (t := 35) rfl (fun hc13 => ?_) (fun hc13 => ?_)
    · first
      | exact absurd hc13 (by decide)
      | exact absurd hc13 (by simp only [hd4]; decide)
      | skip
        try simp only [N3] at hc13
        try simp only [hc13, C5] at h
        refine Runs.skip ?_
        refine Runs.block ?_
        refine Runs.seq ?_
        obtain ⟨⟨b14, q14⟩, h14, h⟩ := some_bind h
        have w14 := W12 _ _ _ _ h14
        try dsimp only at h
        refine Runs.reg (by simp only [go_sem, seval, W11, w14, hd4, hc13]; rfl) (by simp only [long6, go_sem, seval]; rfl) ?_
        refine Runs.seq ?_
        refine Runs.reg (by simp only [go_sem, seval, W11, hd4, hc13]; rfl) (by simp only [long6, go_sem, seval]; rfl) ?_
        refine Runs.cond (t := 39) rfl (fun hc15 => ?_) (fun hc15 => ?_)
        · skip
          try simp only [N3] at hc15
          try simp only [hc15, C5] at h
          obtain ⟨⟨u16, q16⟩, h16, h⟩ := some_bind h
          have w16 := W13 ie is h16
          try dsimp only at h
          obtain ⟨y17, h17, h⟩ := some_bind h
          obtain ⟨le17, rfl⟩ := appP_some h17
          try simp only [List.length_set, List.length_map, List.length_append, List.length_cons, List.length_nil, seval] at le17
          try dsimp only at h
          refine Runs.reg (by simp only [go_sem, seval, W11, w16, le17, hd4, hc13, hc15]; rfl) (by simp only [long6, go_sem, seval]; rfl) ?_
          cases h
          refine ⟨m3, Nat.lt_succ_self _, _, _, by simp only [go_sem, seval, W11]; try rfl, _, g3, rfl, rfl⟩
        try simp only [N3] at hc15
        try simp only [hc15, C5] at h
        refine Runs.skip ?_
        cases h
        refine ⟨m3, Nat.lt_succ_self _, _, _, by simp only [go_sem, seval, W11]; try rfl, _, g3, rfl, rfl⟩
    · first
      | exact absurd hc13 (by decide)
      | exact absurd hc13 (by simp only [hd4]; decide)
      | skip
        try simp only [N3] at hc13
        try simp only [hc13, C5] at h
        refine Runs.exit ?_
        cases h
        cases g3
        have h := hk3
        try dsimp only at h
        try simp only [hd4, hc13, cond_true, cond_false] at h
        refine Runs.seq ?_
        refine Runs.seq ?_
        refine Runs.reg (by simp only [go_sem, seval, W11, hd4, hc13]; rfl) (by simp only [long6, go_sem, seval]; rfl) ?_
        refine Runs.cond (t := 47) rfl (fun hc18 => ?_) (fun hc18 => ?_)
        · first
          | exact absurd hc18 (by decide)
          | exact absurd hc18 (by simp only [hd4, hc13]; decide)
          | skip
            try simp only [N3] at hc18
            try simp only [hc18, C5] at h
            refine Runs.seq ?_
            refine Runs.drw rfl (by simp only [go_sem, seval, W11, hd4, hc13, hc18]; rfl) (by simp only [long6, go_sem, seval]; rfl) ?_
            refine Runs.ret ?_
            try cases h
            try dsimp only [outX]
            first
            | rfl
            | (exact fk (res := [.tmp 2, .cell 3 26]) rfl rfl rfl (by simp only [fin1, go_sem, seval, W11, hd4, hc13, hc18]; try rfl))
        · first
          | exact absurd hc18 (by decide)
          | exact absurd hc18 (by simp only [hd4, hc13]; decide)
          | skip
            try simp only [N3] at hc18
            try simp only [hc18, C5] at h
            refine Runs.skip ?_
            refine Runs.seq ?_
            refine Runs.seq ?_
            obtain ⟨k19, h19, h⟩ := some_bind h
            have w19 := W14 ih h19
            try dsimp only at h
            refine Runs.reg (by simp only [go_sem, seval, W11, w19, hd4, hc13, hc18]; rfl) (by simp only [long6, go_sem, seval]; rfl) ?_
            refine Runs.cond (t := 54) rfl (fun hc20 => ?_) (fun hc20 => ?_)
            · skip
              try simp only [N3] at hc20
              try simp only [hc20, C5] at h
              refine Runs.seq ?_
              refine Runs.reg (by simp only [go_sem, seval, W11, hd4, hc13, hc18, hc20]; rfl) (by simp only [long6, go_sem, seval]; rfl) ?_
              refine Runs.ret ?_
              try cases h
              try dsimp only [outX]
              first
              | rfl
              | (exact fk (res := [.tmp 2, .cell 3 26]) rfl rfl rfl (by simp only [fin1, go_sem, seval, W11, hd4, hc13, hc18, hc20]; try rfl))
            try simp only [N3] at hc20
            try simp only [hc20, C5] at h
            refine Runs.skip ?_
            refine Runs.seq ?_
            refine Runs.reg (by simp only [go_sem, seval, W11, hd4, hc13, hc18, hc20]; rfl) (by simp only [long6, go_sem, seval]; rfl) ?_
            refine Runs.ret ?_
            try cases h
            try dsimp only [outX]
            first
            | rfl
            | (exact fk (res := [.tmp 2, .cell 3 26]) rfl rfl rfl (by simp only [fin1, go_sem, seval, W11, hd4, hc13, hc18, hc20]; try rfl))
end Go.Proofs.YtmkacifjegnehaaDoor
