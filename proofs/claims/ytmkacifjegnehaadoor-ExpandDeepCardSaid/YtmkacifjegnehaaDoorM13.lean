import Derived.Test.YtmkacifjegnehaaDoorM12
namespace Go.Proofs.YtmkacifjegnehaaDoor
open Go Go.Proofs Go.Proofs.YtmkacifjegnehaaDoor.Ab
set_option linter.unusedSimpArgs false
set_option linter.unusedVariables false
set_option maxRecDepth 10000
set_option maxHeartbeats 8000000
theorem bindX_ok {α β σ : Type} {a : α} {m : σ} {f : α → σ → Option (Xr β σ)} : bindX (some (.ok a m)) f = f a m := rfl
theorem bindX_pan {α β σ : Type} {c z : Int} {m : σ} {f : α → σ → Option (Xr β σ)} : bindX (some (.pan c z m)) f = some (.pan c z m) := rfl
theorem bindX_cond {α β σ : Type} {b : Bool} {x y : Option (Xr α σ)} {f : α → σ → Option (Xr β σ)} : bindX (cond b x y) f = cond b (bindX x f) (bindX y f) := by cases b <;> rfl
theorem bindX_assoc {α β γ σ : Type} {x : Option (Xr α σ)} {f : α → σ → Option (Xr β σ)} {g : β → σ → Option (Xr γ σ)} : bindX (bindX x f) g = bindX x (fun a m => bindX (f a m) g) := by
  cases x with
  | none => rfl
  | some r => cases r <;> rfl
theorem int_beq_nat {a b : Nat} (h : ((a : Int) == (b : Int)) = true) : a = b := by
  have := eq_of_beq h; omega
theorem take_snoc {α : Type} {l : List α} {i : Nat} {x : α} (h : l[i]? = some x) : l.take i ++ [x] = l.take (i + 1) := by
  rw [List.take_add_one, h]; rfl
theorem updU (l : List (Bytes × Uni)) (k : Bytes) (u : Uni) : updE (l.map entU) k (true, [.int .i64 u.kind, .int .i64 u.pos, .str u.name, .str u.text, .sl (u.names.map strD), .bo u.active, .int .i64 u.count.kind, .int .i64 u.count.n, .str u.count.name, .str u.count.label, .sl (u.count.ref.names.map strD), .sl (u.count.ref.index.map astD), .sl (u.count.ref.has.map boD), .sl (u.count.kids.map astD), .sl (u.count.args.map argD), .int .i64 u.decl.type, .str u.decl.named, .sl (u.decl.vars.map dvarD), .int .i64 u.decl.pos, .sl (u.decls.map declD), .sl (u.body.map stmtD)]) = (putM l k u).map entU := by
  show updE (l.map entU) k (true, uniD u) = _
  induction l with
  | nil => rfl
  | cons x l ih =>
    simp only [List.map_cons, updE, putM, ih, entU]
    split <;> rfl
def zipA : List Bytes → List Ast → List (Bytes × Ast) → List (Bytes × Ast)
  | [], _, a => a
  | _ :: _, [], a => a
  | x :: xs, e :: es, a => zipA xs es (putM a x e)
def sufP (k : Int) : Option Bytes := match k with
  | .ofNat n => if n < 1000000 then some (35 :: decs 20 n) else none
  | _ => none
def stmtOf (at_ : Int) (l : List Stmt) : Stmt := { stmt0 with kind := 14, pos := at_, body := l }
def callG (n : Nat) (g : Sc → List Stmt → MS → Option (Xr (List Stmt))) (s : Sc) (u : Uni) (args : List Ast) (m : MS) : Option (Xr Stmt) := lenO u.names ((sufP m.calls).bind fun x => (dclX (tellB x) n u.body ([], [])).bind fun r => match r with
  | .ok _ nm => bindX (g ⟨zipA u.names args [], nm.1, nm.2, wadd s.deep 1⟩ u.body m) fun l m => some (.ok (stmtOf m.pos l) m)
  | .pan _ _ _ => none)
def callF (n : Nat) (g : Sc → List Stmt → MS → Option (Xr (List Stmt))) (s : Sc) (args : List Ast) (m : MS) : Option Uni → Option (Xr Stmt)
  | none => some (.pan 40 m.pos m)
  | some u => cond ((u.names.length : Int) == (args.length : Int)) (cond (decide (20 ≤ s.deep)) (some (.pan 43 0 m)) (callG n g s u args { m with calls := wadd m.calls 1 })) (some (.pan 40 m.pos m))
mutual
def stmtsE : Nat → Sc → List Stmt → MS → Option (Xr (List Stmt))
  | 0, _, _, _ => none
  | n + 1, s, l, m => lenO l (foldX (stX (stmtE n) s) l [] m)
def stmtE : Nat → Sc → Stmt → MS → Option (Xr Stmt)
  | 0, _, _, _ => none
  | n + 1, s, t, m => stmtF n (stmtsE n) (callE n) s t m
def callE : Nat → Sc → Stmt → MS → Option (Xr Stmt)
  | 0, _, _, _ => none
  | n + 1, s, t, m => bindX (astsX (astX n) s t.es m) fun args m => callF n (stmtsE n) s args m (lookP m.inl t.name)
end
structure ExpSH (n : Nat) : Prop where
  e17 : ∀ {m : MS} {s : Sc} {l : List Stmt} {r : Xr (List Stmt)}, stmtsE n s l m = some r → callW ip 16 [pV, slV stmtD l, scV s] [mBox m, mMap m] = some (outX (fun l => [slV stmtD l]) r)
  e45 : ∀ {m : MS} {s : Sc} {t : Stmt} {r : Xr Stmt}, stmtE n s t m = some r → callW ip 40 [pV, stmtV t, scV s] [mBox m, mMap m] = some (outX (fun t => [stmtV t]) r)
  e66 : ∀ {m : MS} {s : Sc} {t : Stmt} {r : Xr Stmt}, callE n s t m = some r → callW ip 58 [pV, stmtV t, scV s] [mBox m, mMap m] = some (outX (fun t => [stmtV t]) r)

theorem W17 {n : Nat} (is : ExpIH n) (st : ExpSH n) {m : MS} {s : Sc} {l : List Stmt} {r : Xr (List Stmt)} (h : stmtsE (n + 1) s l m = some r) : callW ip 16 [pV, slV stmtD l, scV s] [mBox m, mMap m] = some (outX (fun l => [slV stmtD l]) r) := by
 simp only [stmtsE, wadd, wsub] at h
 refine callW_runs (fn := Tryd.f16) (L := long16) (nt := 25) (n0 := 2) (T := tab) (rw' := []) (kA := keepA) Tryd.func16 rfl rfl rfl rfl rfl rfl rfl rfl rfl ?_
 refine Runs.seq ?_
 refine Runs.reg (by simp only [go_sem, seval, outX]; rfl) (by simp only [long16, go_sem, seval]; rfl) ?_
 refine Runs.seq ?_
 refine Runs.reg (by simp only [go_sem, seval, outX]; rfl) (by simp only [long16, go_sem, seval]; rfl) ?_
 refine Runs.seq ?_
 refine Runs.seq ?_
 refine Runs.reg (by simp only [go_sem, seval, outX]; rfl) (by simp only [long16, go_sem, seval]; rfl) ?_
 refine Runs.block ?_
 obtain ⟨hL1, h⟩ := lenO_some h
 refine Runs.loop_rel (m := (l).length) (fun mz_ en hp => ∃ (i : Nat) (k : List Stmt) (m : MS), foldX (stX (stmtE n) s) (List.drop i (l)) k m = some r ∧ mz_ + i = (l).length ∧ en = [(0, pV), (5, .c (.ptr 2 0)), (7, .c (.row 3)), (10, slV stmtD l), (11, iI (l.length : Int)), (12, .c (.d (.int .i64 (i : Int))))] ∧ hp = [mBox m, mMap m, .box [.d (.fm (s.args.map entA)), .d (.fm (s.names.map entS)), .d (.fm (s.marks.map entS)), .d (.int .i64 s.deep)], .row 50 28 k.length (rowC stmtD k)]) ?_ ⟨0, _, _, h, rfl, (by first | rfl | (simp only [go_sem, seval, outX]; done) | (simp only [go_sem, seval, outX]; rfl)), (by first | rfl | (simp only [go_sem, seval, outX]; done) | (simp only [go_sem, seval, outX]; rfl))⟩
 clear h
 rintro m1 en hp ⟨i1, k_, m_, h, hm1, rfl, rfl⟩
 refine Runs.seq ?_
 refine Runs.reg (by simp only [go_sem, seval, outX]; rfl) (by simp only [long16, go_sem, seval]; rfl) ?_
 refine Runs.seq ?_
 refine Runs.cond (t := 13) rfl (fun hc2 => ?_) (fun hc2 => ?_)
 ·
  try simp only [N3] at hc2
  try simp only [hc2, C5] at h
  have hi1 := of_decide_eq_true hc2
  obtain ⟨x1, xs1, hx1⟩ := drop_ex (l := l) (i := i1) (by omega)
  obtain ⟨ha1, hb1, hd1⟩ := drop_cons hx1
  rw [hx1] at h
  simp only [foldX, stX, wadd, wsub] at h
  obtain ⟨r1, h, g1⟩ := bindX_some h
  have hn1 := cast_nonneg i1
  have hw1 := wrap_succ (n := i1) (by omega)
  refine Runs.skip ?_
  refine Runs.seq ?_
  refine Runs.block ?_
  refine Runs.seq ?_
  refine Runs.reg (by simp only [go_sem, seval, outX, ha1, hn1, hw1, hc2]; rfl) (by simp only [long16, go_sem, seval]; rfl) ?_
  obtain ⟨r3, h3, h⟩ := bindX_some h
  have w3 := st.e45 h3
  try simp only [scV, sc0, List.map_nil] at w3
  rcases r3 with ⟨t3, m3⟩ | ⟨c3, z3, m3⟩
  rotate_left
  ·
   try dsimp only [outX, outRow, outU] at w3
   subst h
   dsimp only at g1
   subst g1
   refine Runs.region_pan (by simp only [go_sem, seval, outX, ha1, hn1, hw1, w3, hc2]; rfl) ?_
   exact finK_pan (by simp only [go_sem, seval, outX, ha1, hn1, hw1, w3, hc2]; try rfl)
  try dsimp only [outX, outRow, outU] at w3
  dsimp only at h
  obtain ⟨y4, h4, h⟩ := some_bind h
  obtain ⟨le4, rfl⟩ := appP_some h4
  try simp only [List.length_set, List.length_map, List.length_append, List.length_cons, List.length_nil, seval] at le4
  try dsimp only at h
  refine Runs.reg (by simp only [go_sem, seval, outX, ha1, hn1, hw1, w3, le4, hc2]; rfl) (by simp only [long16, go_sem, seval]; rfl) ?_
  refine Runs.reg (by simp only [go_sem, seval, outX, ha1, hn1, hw1, hc2]; rfl) (by simp only [long16, go_sem, seval]; rfl) ?_
  cases h
  dsimp only at g1
  rw [← hd1] at g1
  refine ⟨m1 - 1, by omega, _, _, by simp only [go_sem, seval, outX, ha1, hn1, hw1]; try rfl, i1 + 1, _, _, g1, by omega, rfl, rfl⟩
 try simp only [N3] at hc2
 try simp only [hc2, C5] at h
 have hi1 := of_decide_eq_false hc2
 rw [List.drop_eq_nil_of_le (by omega)] at h
 simp only [foldX, stX, wadd, wsub] at h
 refine Runs.exit ?_
 cases h
 refine Runs.seq ?_
 refine Runs.reg (by simp only [go_sem, seval, outX, hc2]; rfl) (by simp only [long16, go_sem, seval]; rfl) ?_
 refine Runs.ret ?_
 try cases h
 try dsimp only [outX]
 first
 | rfl
 | (exact fk (res := [.tmp 6]) rfl rfl rfl (by simp only [fin1, go_sem, seval, outX, hc2]; try rfl))
theorem W45 {n : Nat} (is : ExpIH n) (st : ExpSH n) {m : MS} {s : Sc} {t : Stmt} {r : Xr Stmt} (h : stmtE (n + 1) s t m = some r) : callW ip 40 [pV, stmtV t, scV s] [mBox m, mMap m] = some (outX (fun t => [stmtV t]) r) := by
 simp only [stmtE, stmtF, bindX_cond, bindX_assoc, bindX_ok, bindX_pan, wadd, wsub] at h
 refine callW_runs (fn := Tryd.f40) (L := long40) (nt := 116) (n0 := 2) (T := tab) (rw' := []) (kA := keepA) Tryd.func40 rfl rfl rfl rfl rfl rfl rfl rfl rfl ?_
 refine Runs.seq ?_
 refine Runs.reg (by simp only [go_sem, seval, outX]; rfl) (by simp only [long40, go_sem, seval]; rfl) ?_
 refine Runs.seq ?_
 obtain ⟨r1, h1, h⟩ := bindX_some h
 have w1 := W65 h1
 rcases r1 with ⟨u1, m1⟩ | ⟨c1, z1, m1⟩
 rotate_left
 ·
  try dsimp only [outX, outRow, outU] at w1
  subst h
  refine Runs.region_pan (by simp only [go_sem, seval, outX, w1]; rfl) ?_
  exact finK_pan (by simp only [go_sem, seval, outX, w1]; try rfl)
 try dsimp only [outX, outRow, outU] at w1
 dsimp only at h
 refine Runs.reg (by simp only [go_sem, seval, outX, w1]; rfl) (by simp only [long40, go_sem, seval]; rfl) ?_
 refine Runs.seqJ (fun en hp => ∃ (T : Stmt) (M : MS), stmtK n (stmtsE n) (callE n) s T M = some r ∧ en = [(0, pV), (4, .c (.ptr 2 0)), (5, .c (.ptr 3 0)), (6, .c (.ptr 4 0))] ∧ hp = [mBox M, mMap M, (.box [.d (.int .i64 T.kind), .d (.int .i64 T.pos), .d (.str T.name), .d (.str T.text), .d (.int .i64 T.n), .d (.bo T.sorted), .d (.bo T.random), .d (.bo T.keep), .d (.sl (T.ref.names.map strD)), .d (.sl (T.ref.index.map astD)), .d (.sl (T.ref.has.map boD)), .d (.int .i64 T.e.kind), .d (.int .i64 T.e.n), .d (.str T.e.name), .d (.str T.e.label), .d (.sl (T.e.ref.names.map strD)), .d (.sl (T.e.ref.index.map astD)), .d (.sl (T.e.ref.has.map boD)), .d (.sl (T.e.kids.map astD)), .d (.sl (T.e.args.map argD)), .d (.sl (T.es.map astD)), .d (.sl (T.args.map argD)), .d (.int .i64 T.decl.type), .d (.str T.decl.named), .d (.sl (T.decl.vars.map dvarD)), .d (.int .i64 T.decl.pos), .d (.sl (T.options.map optD)), .d (.sl (T.body.map stmtD))]), .box [.d (.fm (s.args.map entA)), .d (.fm (s.names.map entS)), .d (.fm (s.marks.map entS)), .d (.int .i64 s.deep)], .box [.d (.int .i64 0), .d (.int .i64 0), .d (.str []), .d (.str []), .d (.int .i64 0), .d (.bo false), .d (.bo false), .d (.bo false), .nilS, .nilS, .nilS, .d (.int .i64 0), .d (.int .i64 0), .d (.str []), .d (.str []), .nilS, .nilS, .nilS, .nilS, .nilS, .nilS, .nilS, .d (.int .i64 0), .d (.str []), .nilS, .d (.int .i64 0), .nilS, .nilS]]) ?_ ?_
 ·
  refine Runs.seq ?_
  refine Runs.reg (by simp only [go_sem, seval, outX]; rfl) (by simp only [long40, go_sem, seval]; rfl) ?_
  refine Runs.cond (t := 16) rfl (fun hc2 => ?_) (fun hc2 => ?_)
  ·
   try simp only [N3] at hc2
   try simp only [hc2, C5] at h
   refine Runs.reg (by simp only [go_sem, seval, outX, hc2]; rfl) (by simp only [long40, go_sem, seval]; rfl) ?_
   exact ⟨_, _, h, by first | rfl | (simp only [go_sem, seval, outX, hc2]; try rfl), by first | rfl | (simp only [go_sem, seval, outX, hc2]; try rfl)⟩
  try simp only [N3] at hc2
  try simp only [hc2, C5] at h
  refine Runs.reg (by simp only [go_sem, seval, outX, hc2]; rfl) (by simp only [long40, go_sem, seval]; rfl) ?_
  exact ⟨_, _, h, by first | rfl | (simp only [go_sem, seval, outX, hc2]; try rfl), by first | rfl | (simp only [go_sem, seval, outX, hc2]; try rfl)⟩
 clear h
 rintro en hp ⟨t, m, h, rfl, rfl⟩
 simp only [stmtK, stmtQ', nameX, bindX_cond, bindX_assoc, bindX_ok, bindX_pan] at h
 refine Runs.seqJ (fun en hp => ∃ (T : Stmt) (M : MS) (j7 j46 j57 : V), stmtR n (stmtsE n) s T M = some r ∧ en = [(0, pV), (4, .c (.ptr 2 0)), (5, .c (.ptr 3 0)), (6, .c (.ptr 4 0)), (7, j7), (46, j46), (57, j57)] ∧ hp = [mBox M, mMap M, (.box [.d (.int .i64 T.kind), .d (.int .i64 T.pos), .d (.str T.name), .d (.str T.text), .d (.int .i64 T.n), .d (.bo T.sorted), .d (.bo T.random), .d (.bo T.keep), .d (.sl (T.ref.names.map strD)), .d (.sl (T.ref.index.map astD)), .d (.sl (T.ref.has.map boD)), .d (.int .i64 T.e.kind), .d (.int .i64 T.e.n), .d (.str T.e.name), .d (.str T.e.label), .d (.sl (T.e.ref.names.map strD)), .d (.sl (T.e.ref.index.map astD)), .d (.sl (T.e.ref.has.map boD)), .d (.sl (T.e.kids.map astD)), .d (.sl (T.e.args.map argD)), .d (.sl (T.es.map astD)), .d (.sl (T.args.map argD)), .d (.int .i64 T.decl.type), .d (.str T.decl.named), .d (.sl (T.decl.vars.map dvarD)), .d (.int .i64 T.decl.pos), .d (.sl (T.options.map optD)), .d (.sl (T.body.map stmtD))]), .box [.d (.fm (s.args.map entA)), .d (.fm (s.names.map entS)), .d (.fm (s.marks.map entS)), .d (.int .i64 s.deep)], .box [.d (.int .i64 0), .d (.int .i64 0), .d (.str []), .d (.str []), .d (.int .i64 0), .d (.bo false), .d (.bo false), .d (.bo false), .nilS, .nilS, .nilS, .d (.int .i64 0), .d (.int .i64 0), .d (.str []), .d (.str []), .nilS, .nilS, .nilS, .nilS, .nilS, .nilS, .nilS, .d (.int .i64 0), .d (.str []), .nilS, .d (.int .i64 0), .nilS, .nilS]]) ?_ ?_
 ·
  refine Runs.seq ?_
  refine Runs.reg (by simp only [go_sem, seval, outX]; rfl) (by simp only [long40, go_sem, seval]; rfl) ?_
  refine Runs.block ?_
  refine Runs.seq ?_
  refine Runs.reg (by simp only [go_sem, seval, outX]; rfl) (by simp only [long40, go_sem, seval]; rfl) ?_
  refine Runs.cond (t := 29) rfl (fun hc3 => ?_) (fun hc3 => ?_)
  ·
   try simp only [N3] at hc3
   try simp only [hc3, C5] at h
   refine Runs.seq ?_
   obtain ⟨r4, h4, h⟩ := bindX_some h
   have w4 := st.e66 h4
   try simp only [scV, sc0, List.map_nil] at w4
   rcases r4 with ⟨t4, m4⟩ | ⟨c4, z4, m4⟩
   rotate_left
   ·
    try dsimp only [outX, outRow, outU] at w4
    subst h
    refine Runs.region_pan (by simp only [go_sem, seval, outX, w4, hc3]; rfl) ?_
    exact finK_pan (by simp only [go_sem, seval, outX, w4, hc3]; try rfl)
   try dsimp only [outX, outRow, outU] at w4
   dsimp only at h
   refine Runs.reg (by simp only [go_sem, seval, outX, w4, hc3]; rfl) (by simp only [long40, go_sem, seval]; rfl) ?_
   refine Runs.ret ?_
   try cases h
   try dsimp only [outX]
   first
   | rfl
   | (exact fk (res := [.cell 6 50]) rfl rfl rfl (by simp only [fin1, go_sem, seval, outX, hc3]; try rfl))
  try simp only [N3] at hc3
  try simp only [hc3, C5] at h
  refine Runs.seq ?_
  refine Runs.seq ?_
  refine Runs.reg (by simp only [go_sem, seval, outX, hc3]; rfl) (by simp only [long40, go_sem, seval]; rfl) ?_
  refine Runs.cond (t := 35) rfl (fun hc5 => ?_) (fun hc5 => ?_)
  ·
   try simp only [N3] at hc5
   try simp only [hc5, C5] at h
   refine Runs.skip ?_
   refine Runs.cond (t := 35) rfl (fun hc6 => ?_) (fun hc6 => ?_)
   rotate_left
   · exact absurd hc6 (by first | decide | (simp only [hc3, hc5]; decide))
   try simp only [N3] at hc6
   try simp only [hc6, C5] at h
   obtain ⟨r7, h7, h⟩ := bindX_some h
   have w7 := is.e67 h7
   try simp only [scV, sc0, List.map_nil] at w7
   rcases r7 with ⟨r7, m7⟩ | ⟨c7, z7, m7⟩
   rotate_left
   ·
    try dsimp only [outX, outRow, outU] at w7
    subst h
    refine Runs.region_pan (by simp only [go_sem, seval, outX, w7, hc3, hc5]; rfl) ?_
    exact finK_pan (by simp only [go_sem, seval, outX, w7, hc3, hc5]; try rfl)
   try dsimp only [outX, outRow, outU] at w7
   dsimp only at h
   refine Runs.reg (by simp only [go_sem, seval, outX, w7, hc3, hc5]; rfl) (by simp only [long40, go_sem, seval]; rfl) ?_
   exact ⟨_, _, _, _, _, h, by first | rfl | (simp only [go_sem, seval, outX, hc3, hc5]; try rfl), by first | rfl | (simp only [go_sem, seval, outX, hc3, hc5]; try rfl)⟩
  try simp only [N3] at hc5
  try simp only [hc5, C5] at h
  refine Runs.seq ?_
  refine Runs.reg (by simp only [go_sem, seval, outX, hc3, hc5]; rfl) (by simp only [long40, go_sem, seval]; rfl) ?_
  refine Runs.cond (t := 35) rfl (fun hc8 => ?_) (fun hc8 => ?_)
  ·
   try simp only [N3] at hc8
   try simp only [hc8, C5] at h
   refine Runs.skip ?_
   refine Runs.cond (t := 35) rfl (fun hc9 => ?_) (fun hc9 => ?_)
   rotate_left
   · exact absurd hc9 (by first | decide | (simp only [hc3, hc5, hc8]; decide))
   try simp only [N3] at hc9
   try simp only [hc9, C5] at h
   obtain ⟨r10, h10, h⟩ := bindX_some h
   have w10 := is.e67 h10
   try simp only [scV, sc0, List.map_nil] at w10
   rcases r10 with ⟨r10, m10⟩ | ⟨c10, z10, m10⟩
   rotate_left
   ·
    try dsimp only [outX, outRow, outU] at w10
    subst h
    refine Runs.region_pan (by simp only [go_sem, seval, outX, w10, hc3, hc5, hc8]; rfl) ?_
    exact finK_pan (by simp only [go_sem, seval, outX, w10, hc3, hc5, hc8]; try rfl)
   try dsimp only [outX, outRow, outU] at w10
   dsimp only at h
   refine Runs.reg (by simp only [go_sem, seval, outX, w10, hc3, hc5, hc8]; rfl) (by simp only [long40, go_sem, seval]; rfl) ?_
   exact ⟨_, _, _, _, _, h, by first | rfl | (simp only [go_sem, seval, outX, hc3, hc5, hc8]; try rfl), by first | rfl | (simp only [go_sem, seval, outX, hc3, hc5, hc8]; try rfl)⟩
  try simp only [N3] at hc8
  try simp only [hc8, C5] at h
  refine Runs.seq ?_
  refine Runs.reg (by simp only [go_sem, seval, outX, hc3, hc5, hc8]; rfl) (by simp only [long40, go_sem, seval]; rfl) ?_
  refine Runs.cond (t := 35) rfl (fun hc11 => ?_) (fun hc11 => ?_)
  ·
   try simp only [N3] at hc11
   try simp only [hc11, C5] at h
   refine Runs.skip ?_
   refine Runs.cond (t := 35) rfl (fun hc12 => ?_) (fun hc12 => ?_)
   rotate_left
   · exact absurd hc12 (by first | decide | (simp only [hc3, hc5, hc8, hc11]; decide))
   try simp only [N3] at hc12
   try simp only [hc12, C5] at h
   obtain ⟨r13, h13, h⟩ := bindX_some h
   have w13 := is.e67 h13
   try simp only [scV, sc0, List.map_nil] at w13
   rcases r13 with ⟨r13, m13⟩ | ⟨c13, z13, m13⟩
   rotate_left
   ·
    try dsimp only [outX, outRow, outU] at w13
    subst h
    refine Runs.region_pan (by simp only [go_sem, seval, outX, w13, hc3, hc5, hc8, hc11]; rfl) ?_
    exact finK_pan (by simp only [go_sem, seval, outX, w13, hc3, hc5, hc8, hc11]; try rfl)
   try dsimp only [outX, outRow, outU] at w13
   dsimp only at h
   refine Runs.reg (by simp only [go_sem, seval, outX, w13, hc3, hc5, hc8, hc11]; rfl) (by simp only [long40, go_sem, seval]; rfl) ?_
   exact ⟨_, _, _, _, _, h, by first | rfl | (simp only [go_sem, seval, outX, hc3, hc5, hc8, hc11]; try rfl), by first | rfl | (simp only [go_sem, seval, outX, hc3, hc5, hc8, hc11]; try rfl)⟩
  try simp only [N3] at hc11
  try simp only [hc11, C5] at h
  refine Runs.reg (by simp only [go_sem, seval, outX, hc3, hc5, hc8, hc11]; rfl) (by simp only [long40, go_sem, seval]; rfl) ?_
  refine Runs.cond (t := 35) rfl (fun hc14 => ?_) (fun hc14 => ?_)
  ·
   try simp only [N3] at hc14
   try simp only [hc14, C5] at h
   obtain ⟨r15, h15, h⟩ := bindX_some h
   have w15 := is.e67 h15
   try simp only [scV, sc0, List.map_nil] at w15
   rcases r15 with ⟨r15, m15⟩ | ⟨c15, z15, m15⟩
   rotate_left
   ·
    try dsimp only [outX, outRow, outU] at w15
    subst h
    refine Runs.region_pan (by simp only [go_sem, seval, outX, w15, hc3, hc5, hc8, hc11, hc14]; rfl) ?_
    exact finK_pan (by simp only [go_sem, seval, outX, w15, hc3, hc5, hc8, hc11, hc14]; try rfl)
   try dsimp only [outX, outRow, outU] at w15
   dsimp only at h
   refine Runs.reg (by simp only [go_sem, seval, outX, w15, hc3, hc5, hc8, hc11, hc14]; rfl) (by simp only [long40, go_sem, seval]; rfl) ?_
   exact ⟨_, _, _, _, _, h, by first | rfl | (simp only [go_sem, seval, outX, hc3, hc5, hc8, hc11, hc14]; try rfl), by first | rfl | (simp only [go_sem, seval, outX, hc3, hc5, hc8, hc11, hc14]; try rfl)⟩
  try simp only [N3] at hc14
  try simp only [hc14, C5] at h
  refine Runs.seq ?_
  refine Runs.seq ?_
  refine Runs.reg (by simp only [go_sem, seval, outX, hc3, hc5, hc8, hc11, hc14]; rfl) (by simp only [long40, go_sem, seval]; rfl) ?_
  refine Runs.cond (t := 46) rfl (fun hc16 => ?_) (fun hc16 => ?_)
  ·
   try simp only [N3] at hc16
   try simp only [hc16, C5] at h
   refine Runs.skip ?_
   refine Runs.cond (t := 46) rfl (fun hc17 => ?_) (fun hc17 => ?_)
   rotate_left
   · exact absurd hc17 (by first | decide | (simp only [hc3, hc5, hc8, hc11, hc14, hc16]; decide))
   try simp only [N3] at hc17
   try simp only [hc17, C5] at h
   refine Runs.seq ?_
   rcases hl18 : lookP s.marks t.name with _ | nm_
   ·
    simp only [hl18] at h
    try simp only [Option.getD_some, Option.getD_none] at h
    try simp only [hc3, hc5, hc8, hc11, hc14, hc16, cond_true, cond_false] at h
    refine Runs.reg (by simp only [go_sem, seval, outX, hl18, lookS, Option.map_none, hc3, hc5, hc8, hc11, hc14, hc16]; rfl) (by simp only [long40, go_sem, seval]; rfl) ?_
    refine Runs.seq ?_
    refine Runs.reg (by simp only [go_sem, seval, outX, hc3, hc5, hc8, hc11, hc14, hc16]; rfl) (by simp only [long40, go_sem, seval]; rfl) ?_
    refine Runs.cond (t := 57) rfl (fun hc19 => ?_) (fun hc19 => ?_)
    · exact absurd hc19 (by first | decide | (simp only [hc3, hc5, hc8, hc11, hc14, hc16]; decide))
    try simp only [N3] at hc19
    try simp only [hc19, C5] at h
    refine Runs.skip ?_
    exact ⟨_, _, _, _, _, h, by first | rfl | (simp only [go_sem, seval, outX, hc3, hc5, hc8, hc11, hc14, hc16]; try rfl), by first | rfl | (simp only [go_sem, seval, outX, hc3, hc5, hc8, hc11, hc14, hc16]; try rfl)⟩
   ·
    simp only [hl18] at h
    try simp only [Option.getD_some, Option.getD_none] at h
    try simp only [hc3, hc5, hc8, hc11, hc14, hc16, cond_true, cond_false] at h
    refine Runs.reg (by simp only [go_sem, seval, outX, hl18, lookS, Option.map_some, hc3, hc5, hc8, hc11, hc14, hc16]; rfl) (by simp only [long40, go_sem, seval]; rfl) ?_
    refine Runs.seq ?_
    refine Runs.reg (by simp only [go_sem, seval, outX, hc3, hc5, hc8, hc11, hc14, hc16]; rfl) (by simp only [long40, go_sem, seval]; rfl) ?_
    refine Runs.cond (t := 57) rfl (fun hc20 => ?_) (fun hc20 => ?_)
    rotate_left
    · exact absurd hc20 (by first | decide | (simp only [hc3, hc5, hc8, hc11, hc14, hc16]; decide))
    try simp only [N3] at hc20
    try simp only [hc20, C5] at h
    refine Runs.reg (by simp only [go_sem, seval, outX, hc3, hc5, hc8, hc11, hc14, hc16]; rfl) (by simp only [long40, go_sem, seval]; rfl) ?_
    exact ⟨_, _, _, _, _, h, by first | rfl | (simp only [go_sem, seval, outX, hc3, hc5, hc8, hc11, hc14, hc16]; try rfl), by first | rfl | (simp only [go_sem, seval, outX, hc3, hc5, hc8, hc11, hc14, hc16]; try rfl)⟩
  try simp only [N3] at hc16
  try simp only [hc16, C5] at h
  refine Runs.reg (by simp only [go_sem, seval, outX, hc3, hc5, hc8, hc11, hc14, hc16]; rfl) (by simp only [long40, go_sem, seval]; rfl) ?_
  refine Runs.cond (t := 46) rfl (fun hc21 => ?_) (fun hc21 => ?_)
  ·
   try simp only [N3] at hc21
   try simp only [hc21, C5] at h
   refine Runs.seq ?_
   rcases hl22 : lookP s.marks t.name with _ | nm_
   ·
    simp only [hl22] at h
    try simp only [Option.getD_some, Option.getD_none] at h
    try simp only [hc3, hc5, hc8, hc11, hc14, hc16, hc21, cond_true, cond_false] at h
    refine Runs.reg (by simp only [go_sem, seval, outX, hl22, lookS, Option.map_none, hc3, hc5, hc8, hc11, hc14, hc16, hc21]; rfl) (by simp only [long40, go_sem, seval]; rfl) ?_
    refine Runs.seq ?_
    refine Runs.reg (by simp only [go_sem, seval, outX, hc3, hc5, hc8, hc11, hc14, hc16, hc21]; rfl) (by simp only [long40, go_sem, seval]; rfl) ?_
    refine Runs.cond (t := 57) rfl (fun hc23 => ?_) (fun hc23 => ?_)
    · exact absurd hc23 (by first | decide | (simp only [hc3, hc5, hc8, hc11, hc14, hc16, hc21]; decide))
    try simp only [N3] at hc23
    try simp only [hc23, C5] at h
    refine Runs.skip ?_
    exact ⟨_, _, _, _, _, h, by first | rfl | (simp only [go_sem, seval, outX, hc3, hc5, hc8, hc11, hc14, hc16, hc21]; try rfl), by first | rfl | (simp only [go_sem, seval, outX, hc3, hc5, hc8, hc11, hc14, hc16, hc21]; try rfl)⟩
   ·
    simp only [hl22] at h
    try simp only [Option.getD_some, Option.getD_none] at h
    try simp only [hc3, hc5, hc8, hc11, hc14, hc16, hc21, cond_true, cond_false] at h
    refine Runs.reg (by simp only [go_sem, seval, outX, hl22, lookS, Option.map_some, hc3, hc5, hc8, hc11, hc14, hc16, hc21]; rfl) (by simp only [long40, go_sem, seval]; rfl) ?_
    refine Runs.seq ?_
    refine Runs.reg (by simp only [go_sem, seval, outX, hc3, hc5, hc8, hc11, hc14, hc16, hc21]; rfl) (by simp only [long40, go_sem, seval]; rfl) ?_
    refine Runs.cond (t := 57) rfl (fun hc24 => ?_) (fun hc24 => ?_)
    rotate_left
    · exact absurd hc24 (by first | decide | (simp only [hc3, hc5, hc8, hc11, hc14, hc16, hc21]; decide))
    try simp only [N3] at hc24
    try simp only [hc24, C5] at h
    refine Runs.reg (by simp only [go_sem, seval, outX, hc3, hc5, hc8, hc11, hc14, hc16, hc21]; rfl) (by simp only [long40, go_sem, seval]; rfl) ?_
    exact ⟨_, _, _, _, _, h, by first | rfl | (simp only [go_sem, seval, outX, hc3, hc5, hc8, hc11, hc14, hc16, hc21]; try rfl), by first | rfl | (simp only [go_sem, seval, outX, hc3, hc5, hc8, hc11, hc14, hc16, hc21]; try rfl)⟩
  try simp only [N3] at hc21
  try simp only [hc21, C5] at h
  refine Runs.skip ?_
  exact ⟨_, _, _, _, _, h, by first | rfl | (simp only [go_sem, seval, outX, hc3, hc5, hc8, hc11, hc14, hc16, hc21]; try rfl), by first | rfl | (simp only [go_sem, seval, outX, hc3, hc5, hc8, hc11, hc14, hc16, hc21]; try rfl)⟩
 clear h
 rintro en hp ⟨T, M, j7, j46, j57, h, rfl, rfl⟩
 simp only [stmtR, declW, bodyX, bindX_cond, bindX_assoc, bindX_ok, bindX_pan] at h
 refine Runs.seq ?_
 obtain ⟨r25, h25, h⟩ := bindX_some h
 have w25 := is.e68 h25
 try simp only [scV, sc0, List.map_nil] at w25
 rcases r25 with ⟨e25, m25⟩ | ⟨c25, z25, m25⟩
 rotate_left
 ·
  try dsimp only [outX, outRow, outU] at w25
  subst h
  refine Runs.draw_pan rfl (by simp only [go_sem, seval, outX, w25]; rfl) ?_
  exact finK_pan (by simp only [go_sem, seval, outX, w25]; try rfl)
 try dsimp only [outX, outRow, outU] at w25
 dsimp only at h
 obtain ⟨r26, h26, h⟩ := bindX_some h
 have w26 := W69 is h26
 rcases r26 with ⟨l26, m26⟩ | ⟨c26, z26, m26⟩
 rotate_left
 ·
  try dsimp only [outX, outRow, outU] at w26
  subst h
  refine Runs.draw_pan rfl (by simp only [go_sem, seval, outX, w25, w26]; rfl) ?_
  exact finK_pan (by simp only [go_sem, seval, outX, w25, w26]; try rfl)
 try dsimp only [outX, outRow, outU] at w26
 dsimp only at h
 obtain ⟨r27, h27, h⟩ := bindX_some h
 have w27 := W70 is h27
 rcases r27 with ⟨l27, m27⟩ | ⟨c27, z27, m27⟩
 rotate_left
 ·
  try dsimp only [outX, outRow, outU] at w27
  subst h
  refine Runs.draw_pan rfl (by simp only [go_sem, seval, outX, w25, w26, w27]; rfl) ?_
  exact finK_pan (by simp only [go_sem, seval, outX, w25, w26, w27]; try rfl)
 try dsimp only [outX, outRow, outU] at w27
 dsimp only at h
 refine Runs.drw rfl (by simp only [go_sem, seval, outX, w25, w26, w27]; rfl) (by simp only [long40, go_sem, seval]; rfl) ?_
 refine Runs.seq ?_
 refine Runs.seq ?_
 refine Runs.reg (by simp only [go_sem, seval, outX, w25, w26, w27]; rfl) (by simp only [long40, go_sem, seval]; rfl) ?_
 refine Runs.cond (t := 80) rfl (fun hc28 => ?_) (fun hc28 => ?_)
 ·
  try simp only [N3] at hc28
  try simp only [hc28, C5] at h
  obtain ⟨r29, h29, h⟩ := bindX_some h
  have w29 := W71 is h29
  rcases r29 with ⟨d29, m29⟩ | ⟨c29, z29, m29⟩
  rotate_left
  ·
   try dsimp only [outX, outRow, outU] at w29
   subst h
   refine Runs.region_pan (by simp only [go_sem, seval, outX, w25, w26, w27, w29, hc28]; rfl) ?_
   exact finK_pan (by simp only [go_sem, seval, outX, w25, w26, w27, w29, hc28]; try rfl)
  try dsimp only [outX, outRow, outU] at w29
  dsimp only at h
  refine Runs.reg (by simp only [go_sem, seval, outX, w25, w26, w27, w29, hc28]; rfl) (by simp only [long40, go_sem, seval]; rfl) ?_
  refine Runs.seq ?_
  obtain ⟨r30, h30, h⟩ := bindX_some h
  have w30 := st.e17 h30
  try simp only [scV, sc0, List.map_nil] at w30
  rcases r30 with ⟨l30, m30⟩ | ⟨c30, z30, m30⟩
  rotate_left
  ·
   try dsimp only [outX, outRow, outU] at w30
   subst h
   refine Runs.region_pan (by simp only [go_sem, seval, outX, w25, w26, w27, w30, hc28]; rfl) ?_
   exact finK_pan (by simp only [go_sem, seval, outX, w25, w26, w27, w30, hc28]; try rfl)
  try dsimp only [outX, outRow, outU] at w30
  dsimp only at h
  refine Runs.reg (by simp only [go_sem, seval, outX, w25, w26, w27, w30, hc28]; rfl) (by simp only [long40, go_sem, seval]; rfl) ?_
  refine Runs.seq ?_
  refine Runs.reg (by simp only [go_sem, seval, outX, w25, w26, w27, hc28]; rfl) (by simp only [long40, go_sem, seval]; rfl) ?_
  refine Runs.seq ?_
  refine Runs.seq ?_
  refine Runs.reg (by simp only [go_sem, seval, outX, w25, w26, w27, hc28]; rfl) (by simp only [long40, go_sem, seval]; rfl) ?_
  refine Runs.block ?_
  obtain ⟨j31, h, hk31⟩ := bindX_some h
  obtain ⟨hL31, h⟩ := lenO_some h
  refine Runs.loop_rel (m := (T.options).length) (fun mz_ en hp => ∃ (i : Nat) (k : List (List Stmt)) (M : MS), foldX (opX' (stmtsE n) s) (List.drop i (T.options)) k M = some j31 ∧ mz_ + i = (T.options).length ∧ en = [(0, pV), (4, .c (.ptr 2 0)), (5, .c (.ptr 3 0)), (6, .c (.ptr 4 0)), (9, .c (.row 5)), (99, slV optD T.options), (100, iI (T.options.length : Int)), (101, .c (.d (.int .i64 (i : Int))))] ∧ hp = (mBox M :: mMap M :: _ :: _ :: _ :: [.row 44 1 k.length (rowC optD k)])) ?_ ⟨0, _, _, h, rfl, (by first | rfl | (simp only [go_sem, seval, outX, w25, w26, w27]; done) | (simp only [go_sem, seval, outX, w25, w26, w27]; rfl)), (by first | rfl | (simp only [go_sem, seval, outX, w25, w26, w27]; done) | (simp only [go_sem, seval, outX, w25, w26, w27]; rfl))⟩
  clear h
  rintro m31 en hp ⟨i31, k_, m_, h, hm31, rfl, rfl⟩
  refine Runs.seq ?_
  refine Runs.reg (by simp only [go_sem, seval, outX, w25, w26, w27]; rfl) (by simp only [long40, go_sem, seval]; rfl) ?_
  refine Runs.seq ?_
  refine Runs.cond (t := 102) rfl (fun hc32 => ?_) (fun hc32 => ?_)
  ·
   try simp only [N3] at hc32
   try simp only [hc32, C5] at h
   have hi31 := of_decide_eq_true hc32
   obtain ⟨x31, xs31, hx31⟩ := drop_ex (l := T.options) (i := i31) (by omega)
   obtain ⟨ha31, hb31, hd31⟩ := drop_cons hx31
   rw [hx31] at h
   simp only [foldX, opX', wadd, wsub] at h
   obtain ⟨r31, h, g31⟩ := bindX_some h
   have hn31 := cast_nonneg i31
   have hw31 := wrap_succ (n := i31) (by omega)
   refine Runs.skip ?_
   refine Runs.seq ?_
   refine Runs.block ?_
   refine Runs.seq ?_
   refine Runs.reg (by simp only [go_sem, seval, outX, w25, w26, w27, ha31, hn31, hw31, hc32]; rfl) (by simp only [long40, go_sem, seval]; rfl) ?_
   obtain ⟨r33, h33, h⟩ := bindX_some h
   have w33 := st.e17 h33
   try simp only [scV, sc0, List.map_nil] at w33
   rcases r33 with ⟨l33, m33⟩ | ⟨c33, z33, m33⟩
   rotate_left
   ·
    try dsimp only [outX, outRow, outU] at w33
    subst h
    dsimp only at g31
    subst g31
    dsimp only at hk31
    subst hk31
    refine Runs.region_pan (by simp only [go_sem, seval, outX, w25, w26, w27, ha31, hn31, hw31, w33, hc32]; rfl) ?_
    exact finK_pan (by simp only [go_sem, seval, outX, w25, w26, w27, ha31, hn31, hw31, w33, hc32]; try rfl)
   try dsimp only [outX, outRow, outU] at w33
   dsimp only at h
   obtain ⟨y34, h34, h⟩ := some_bind h
   obtain ⟨le34, rfl⟩ := appP_some h34
   try simp only [List.length_set, List.length_map, List.length_append, List.length_cons, List.length_nil, seval] at le34
   try dsimp only at h
   refine Runs.reg (by simp only [go_sem, seval, outX, w25, w26, w27, ha31, hn31, hw31, w33, le34, hc32]; rfl) (by simp only [long40, go_sem, seval]; rfl) ?_
   refine Runs.reg (by simp only [go_sem, seval, outX, w25, w26, w27, ha31, hn31, hw31, hc32]; rfl) (by simp only [long40, go_sem, seval]; rfl) ?_
   cases h
   dsimp only at g31
   rw [← hd31] at g31
   refine ⟨m31 - 1, by omega, _, _, by simp only [go_sem, seval, outX, w25, w26, w27, ha31, hn31, hw31]; try rfl, i31 + 1, _, _, g31, by omega, rfl, rfl⟩
  try simp only [N3] at hc32
  try simp only [hc32, C5] at h
  have hi31 := of_decide_eq_false hc32
  rw [List.drop_eq_nil_of_le (by omega)] at h
  simp only [foldX, opX', wadd, wsub] at h
  refine Runs.exit ?_
  cases h
  have h := hk31
  try dsimp only at h
  try simp only [hc32, cond_true, cond_false] at h
  refine Runs.seq ?_
  refine Runs.reg (by simp only [go_sem, seval, outX, w25, w26, w27, hc32]; rfl) (by simp only [long40, go_sem, seval]; rfl) ?_
  refine Runs.seq ?_
  refine Runs.reg (by simp only [go_sem, seval, outX, w25, w26, w27, hc32]; rfl) (by simp only [long40, go_sem, seval]; rfl) ?_
  refine Runs.ret ?_
  try cases h
  try dsimp only [outX]
  first
  | rfl
  | (exact fk (res := [.cell 6 50]) rfl rfl rfl (by simp only [fin1, go_sem, seval, outX, w25, w26, w27, hc32]; try rfl))
 try simp only [N3] at hc28
 try simp only [hc28, C5] at h
 refine Runs.seq ?_
 refine Runs.reg (by simp only [go_sem, seval, outX, w25, w26, w27, hc28]; rfl) (by simp only [long40, go_sem, seval]; rfl) ?_
 refine Runs.cond (t := 89) rfl (fun hc35 => ?_) (fun hc35 => ?_)
 ·
  try simp only [N3] at hc35
  try simp only [hc35, C5] at h
  refine Runs.reg (by simp only [go_sem, seval, outX, w25, w26, w27, hc28, hc35]; rfl) (by simp only [long40, go_sem, seval]; rfl) ?_
  refine Runs.seq ?_
  obtain ⟨r36, h36, h⟩ := bindX_some h
  have w36 := st.e17 h36
  try simp only [scV, sc0, List.map_nil] at w36
  rcases r36 with ⟨l36, m36⟩ | ⟨c36, z36, m36⟩
  rotate_left
  ·
   try dsimp only [outX, outRow, outU] at w36
   subst h
   refine Runs.region_pan (by simp only [go_sem, seval, outX, w25, w26, w27, w36, hc28, hc35]; rfl) ?_
   exact finK_pan (by simp only [go_sem, seval, outX, w25, w26, w27, w36, hc28, hc35]; try rfl)
  try dsimp only [outX, outRow, outU] at w36
  dsimp only at h
  refine Runs.reg (by simp only [go_sem, seval, outX, w25, w26, w27, w36, hc28, hc35]; rfl) (by simp only [long40, go_sem, seval]; rfl) ?_
  refine Runs.seq ?_
  refine Runs.reg (by simp only [go_sem, seval, outX, w25, w26, w27, hc28, hc35]; rfl) (by simp only [long40, go_sem, seval]; rfl) ?_
  refine Runs.seq ?_
  refine Runs.seq ?_
  refine Runs.reg (by simp only [go_sem, seval, outX, w25, w26, w27, hc28, hc35]; rfl) (by simp only [long40, go_sem, seval]; rfl) ?_
  refine Runs.block ?_
  obtain ⟨j37, h, hk37⟩ := bindX_some h
  obtain ⟨hL37, h⟩ := lenO_some h
  refine Runs.loop_rel (m := (T.options).length) (fun mz_ en hp => ∃ (i : Nat) (k : List (List Stmt)) (M : MS), foldX (opX' (stmtsE n) s) (List.drop i (T.options)) k M = some j37 ∧ mz_ + i = (T.options).length ∧ en = [(0, pV), (4, .c (.ptr 2 0)), (5, .c (.ptr 3 0)), (6, .c (.ptr 4 0)), (9, .c (.row 5)), (99, slV optD T.options), (100, iI (T.options.length : Int)), (101, .c (.d (.int .i64 (i : Int))))] ∧ hp = (mBox M :: mMap M :: _ :: _ :: _ :: [.row 44 1 k.length (rowC optD k)])) ?_ ⟨0, _, _, h, rfl, (by first | rfl | (simp only [go_sem, seval, outX, w25, w26, w27]; done) | (simp only [go_sem, seval, outX, w25, w26, w27]; rfl)), (by first | rfl | (simp only [go_sem, seval, outX, w25, w26, w27]; done) | (simp only [go_sem, seval, outX, w25, w26, w27]; rfl))⟩
  clear h
  rintro m37 en hp ⟨i37, k_, m_, h, hm37, rfl, rfl⟩
  refine Runs.seq ?_
  refine Runs.reg (by simp only [go_sem, seval, outX, w25, w26, w27]; rfl) (by simp only [long40, go_sem, seval]; rfl) ?_
  refine Runs.seq ?_
  refine Runs.cond (t := 102) rfl (fun hc38 => ?_) (fun hc38 => ?_)
  ·
   try simp only [N3] at hc38
   try simp only [hc38, C5] at h
   have hi37 := of_decide_eq_true hc38
   obtain ⟨x37, xs37, hx37⟩ := drop_ex (l := T.options) (i := i37) (by omega)
   obtain ⟨ha37, hb37, hd37⟩ := drop_cons hx37
   rw [hx37] at h
   simp only [foldX, opX', wadd, wsub] at h
   obtain ⟨r37, h, g37⟩ := bindX_some h
   have hn37 := cast_nonneg i37
   have hw37 := wrap_succ (n := i37) (by omega)
   refine Runs.skip ?_
   refine Runs.seq ?_
   refine Runs.block ?_
   refine Runs.seq ?_
   refine Runs.reg (by simp only [go_sem, seval, outX, w25, w26, w27, ha37, hn37, hw37, hc38]; rfl) (by simp only [long40, go_sem, seval]; rfl) ?_
   obtain ⟨r39, h39, h⟩ := bindX_some h
   have w39 := st.e17 h39
   try simp only [scV, sc0, List.map_nil] at w39
   rcases r39 with ⟨l39, m39⟩ | ⟨c39, z39, m39⟩
   rotate_left
   ·
    try dsimp only [outX, outRow, outU] at w39
    subst h
    dsimp only at g37
    subst g37
    dsimp only at hk37
    subst hk37
    refine Runs.region_pan (by simp only [go_sem, seval, outX, w25, w26, w27, ha37, hn37, hw37, w39, hc38]; rfl) ?_
    exact finK_pan (by simp only [go_sem, seval, outX, w25, w26, w27, ha37, hn37, hw37, w39, hc38]; try rfl)
   try dsimp only [outX, outRow, outU] at w39
   dsimp only at h
   obtain ⟨y40, h40, h⟩ := some_bind h
   obtain ⟨le40, rfl⟩ := appP_some h40
   try simp only [List.length_set, List.length_map, List.length_append, List.length_cons, List.length_nil, seval] at le40
   try dsimp only at h
   refine Runs.reg (by simp only [go_sem, seval, outX, w25, w26, w27, ha37, hn37, hw37, w39, le40, hc38]; rfl) (by simp only [long40, go_sem, seval]; rfl) ?_
   refine Runs.reg (by simp only [go_sem, seval, outX, w25, w26, w27, ha37, hn37, hw37, hc38]; rfl) (by simp only [long40, go_sem, seval]; rfl) ?_
   cases h
   dsimp only at g37
   rw [← hd37] at g37
   refine ⟨m37 - 1, by omega, _, _, by simp only [go_sem, seval, outX, w25, w26, w27, ha37, hn37, hw37]; try rfl, i37 + 1, _, _, g37, by omega, rfl, rfl⟩
  try simp only [N3] at hc38
  try simp only [hc38, C5] at h
  have hi37 := of_decide_eq_false hc38
  rw [List.drop_eq_nil_of_le (by omega)] at h
  simp only [foldX, opX', wadd, wsub] at h
  refine Runs.exit ?_
  cases h
  have h := hk37
  try dsimp only at h
  try simp only [hc38, cond_true, cond_false] at h
  refine Runs.seq ?_
  refine Runs.reg (by simp only [go_sem, seval, outX, w25, w26, w27, hc38]; rfl) (by simp only [long40, go_sem, seval]; rfl) ?_
  refine Runs.seq ?_
  refine Runs.reg (by simp only [go_sem, seval, outX, w25, w26, w27, hc38]; rfl) (by simp only [long40, go_sem, seval]; rfl) ?_
  refine Runs.ret ?_
  try cases h
  try dsimp only [outX]
  first
  | rfl
  | (exact fk (res := [.cell 6 50]) rfl rfl rfl (by simp only [fin1, go_sem, seval, outX, w25, w26, w27, hc38]; try rfl))
 try simp only [N3] at hc35
 try simp only [hc35, C5] at h
 refine Runs.skip ?_
 refine Runs.seq ?_
 obtain ⟨r41, h41, h⟩ := bindX_some h
 have w41 := st.e17 h41
 try simp only [scV, sc0, List.map_nil] at w41
 rcases r41 with ⟨l41, m41⟩ | ⟨c41, z41, m41⟩
 rotate_left
 ·
  try dsimp only [outX, outRow, outU] at w41
  subst h
  refine Runs.region_pan (by simp only [go_sem, seval, outX, w25, w26, w27, w41, hc28, hc35]; rfl) ?_
  exact finK_pan (by simp only [go_sem, seval, outX, w25, w26, w27, w41, hc28, hc35]; try rfl)
 try dsimp only [outX, outRow, outU] at w41
 dsimp only at h
 refine Runs.reg (by simp only [go_sem, seval, outX, w25, w26, w27, w41, hc28, hc35]; rfl) (by simp only [long40, go_sem, seval]; rfl) ?_
 refine Runs.seq ?_
 refine Runs.reg (by simp only [go_sem, seval, outX, w25, w26, w27, hc28, hc35]; rfl) (by simp only [long40, go_sem, seval]; rfl) ?_
 refine Runs.seq ?_
 refine Runs.seq ?_
 refine Runs.reg (by simp only [go_sem, seval, outX, w25, w26, w27, hc28, hc35]; rfl) (by simp only [long40, go_sem, seval]; rfl) ?_
 refine Runs.block ?_
 obtain ⟨j42, h, hk42⟩ := bindX_some h
 obtain ⟨hL42, h⟩ := lenO_some h
 refine Runs.loop_rel (m := (T.options).length) (fun mz_ en hp => ∃ (i : Nat) (k : List (List Stmt)) (M : MS), foldX (opX' (stmtsE n) s) (List.drop i (T.options)) k M = some j42 ∧ mz_ + i = (T.options).length ∧ en = [(0, pV), (4, .c (.ptr 2 0)), (5, .c (.ptr 3 0)), (6, .c (.ptr 4 0)), (9, .c (.row 5)), (99, slV optD T.options), (100, iI (T.options.length : Int)), (101, .c (.d (.int .i64 (i : Int))))] ∧ hp = (mBox M :: mMap M :: _ :: _ :: _ :: [.row 44 1 k.length (rowC optD k)])) ?_ ⟨0, _, _, h, rfl, (by first | rfl | (simp only [go_sem, seval, outX, w25, w26, w27]; done) | (simp only [go_sem, seval, outX, w25, w26, w27]; rfl)), (by first | rfl | (simp only [go_sem, seval, outX, w25, w26, w27]; done) | (simp only [go_sem, seval, outX, w25, w26, w27]; rfl))⟩
 clear h
 rintro m42 en hp ⟨i42, k_, m_, h, hm42, rfl, rfl⟩
 refine Runs.seq ?_
 refine Runs.reg (by simp only [go_sem, seval, outX, w25, w26, w27]; rfl) (by simp only [long40, go_sem, seval]; rfl) ?_
 refine Runs.seq ?_
 refine Runs.cond (t := 102) rfl (fun hc43 => ?_) (fun hc43 => ?_)
 ·
  try simp only [N3] at hc43
  try simp only [hc43, C5] at h
  have hi42 := of_decide_eq_true hc43
  obtain ⟨x42, xs42, hx42⟩ := drop_ex (l := T.options) (i := i42) (by omega)
  obtain ⟨ha42, hb42, hd42⟩ := drop_cons hx42
  rw [hx42] at h
  simp only [foldX, opX', wadd, wsub] at h
  obtain ⟨r42, h, g42⟩ := bindX_some h
  have hn42 := cast_nonneg i42
  have hw42 := wrap_succ (n := i42) (by omega)
  refine Runs.skip ?_
  refine Runs.seq ?_
  refine Runs.block ?_
  refine Runs.seq ?_
  refine Runs.reg (by simp only [go_sem, seval, outX, w25, w26, w27, ha42, hn42, hw42, hc43]; rfl) (by simp only [long40, go_sem, seval]; rfl) ?_
  obtain ⟨r44, h44, h⟩ := bindX_some h
  have w44 := st.e17 h44
  try simp only [scV, sc0, List.map_nil] at w44
  rcases r44 with ⟨l44, m44⟩ | ⟨c44, z44, m44⟩
  rotate_left
  ·
   try dsimp only [outX, outRow, outU] at w44
   subst h
   dsimp only at g42
   subst g42
   dsimp only at hk42
   subst hk42
   refine Runs.region_pan (by simp only [go_sem, seval, outX, w25, w26, w27, ha42, hn42, hw42, w44, hc43]; rfl) ?_
   exact finK_pan (by simp only [go_sem, seval, outX, w25, w26, w27, ha42, hn42, hw42, w44, hc43]; try rfl)
  try dsimp only [outX, outRow, outU] at w44
  dsimp only at h
  obtain ⟨y45, h45, h⟩ := some_bind h
  obtain ⟨le45, rfl⟩ := appP_some h45
  try simp only [List.length_set, List.length_map, List.length_append, List.length_cons, List.length_nil, seval] at le45
  try dsimp only at h
  refine Runs.reg (by simp only [go_sem, seval, outX, w25, w26, w27, ha42, hn42, hw42, w44, le45, hc43]; rfl) (by simp only [long40, go_sem, seval]; rfl) ?_
  refine Runs.reg (by simp only [go_sem, seval, outX, w25, w26, w27, ha42, hn42, hw42, hc43]; rfl) (by simp only [long40, go_sem, seval]; rfl) ?_
  cases h
  dsimp only at g42
  rw [← hd42] at g42
  refine ⟨m42 - 1, by omega, _, _, by simp only [go_sem, seval, outX, w25, w26, w27, ha42, hn42, hw42]; try rfl, i42 + 1, _, _, g42, by omega, rfl, rfl⟩
 try simp only [N3] at hc43
 try simp only [hc43, C5] at h
 have hi42 := of_decide_eq_false hc43
 rw [List.drop_eq_nil_of_le (by omega)] at h
 simp only [foldX, opX', wadd, wsub] at h
 refine Runs.exit ?_
 cases h
 have h := hk42
 try dsimp only at h
 try simp only [hc43, cond_true, cond_false] at h
 refine Runs.seq ?_
 refine Runs.reg (by simp only [go_sem, seval, outX, w25, w26, w27, hc43]; rfl) (by simp only [long40, go_sem, seval]; rfl) ?_
 refine Runs.seq ?_
 refine Runs.reg (by simp only [go_sem, seval, outX, w25, w26, w27, hc43]; rfl) (by simp only [long40, go_sem, seval]; rfl) ?_
 refine Runs.ret ?_
 try cases h
 try dsimp only [outX]
 first
 | rfl
 | (exact fk (res := [.cell 6 50]) rfl rfl rfl (by simp only [fin1, go_sem, seval, outX, w25, w26, w27, hc43]; try rfl))
end Go.Proofs.YtmkacifjegnehaaDoor
