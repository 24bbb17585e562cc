import Derived.Test.YtmkacifjegnehaaDoorM13
namespace Go.Proofs.YtmkacifjegnehaaDoor
open Go Go.Proofs Go.Proofs.YtmkacifjegnehaaDoor.Ab
set_option linter.unusedSimpArgs false
set_option linter.unusedVariables false
set_option maxRecDepth 10000
set_option maxHeartbeats 8000000
theorem decs_len : ∀ (f n : Nat), (decs f n).length ≤ f
  | 0, _ => Nat.le_refl _
  | f + 1, n => by
    unfold decs
    split
    · simp
    · simp only [List.length_append, List.length_cons, List.length_nil]
      have := decs_len f (n / 10)
      omega
theorem W76 {k : Int} {x : Bytes} (h : sufP k = some x) : ∃ y : Bytes, x = 35 :: y ∧ 1 + y.length ≤ 4611686018427387904 ∧ callW ip 68 [iI k] [] = some (.ret [.c (.d (.str y))], []) := by
 unfold sufP at h
 split at h
 ·
  rename_i n
  split at h
  ·
   rename_i hn
   injection h with h
   refine ⟨decs 20 n, h.symm, ?_, ?_⟩
   · have := decs_len 20 n; omega
   ·
    refine callW_prim ?_
    simp only [ip, prim, iI]
    rw [if_pos hn]
  · cases h
 · cases h
def dupX (u : Uni) (m : MS) : List Bytes → List Bytes → Option (Xr Unit)
  | _, [] => some (.ok () m)
  | d, x :: xs => (lenO d (some (idxB x d 0))).bind fun k => cond (decide (0 ≤ k)) (some (.pan 41 u.pos m)) (dupX u m (d ++ [x]) xs)
def liftX (m : MS) (x : Option (Xr Unit Unit)) (f : MS → Option (Xr Unit)) : Option (Xr Unit) := x.bind fun r => match r with
  | .ok _ _ => f m
  | .pan c z _ => some (.pan c z m)
theorem liftX_some {m : MS} {x : Option (Xr Unit Unit)} {f : MS → Option (Xr Unit)} {r : Xr Unit} (h : liftX m x f = some r) : ∃ r1, x = some r1 ∧ (match r1 with
    | .ok _ _ => f m = some r
    | .pan c z _ => r = .pan c z m) := by
  cases x with
  | none => cases h
  | some r1 =>
    refine ⟨r1, rfl, ?_⟩
    cases r1 with
    | ok a m => exact h
    | pan c z m => injection h with h; exact h.symm
def knowF (n : Nat) (u : Uni) (m : MS) : Option Uni → Option (Xr Unit)
  | some _ => some (.pan 41 u.pos m)
  | none => lenO u.names (bindX (dupX u m [] u.names) fun _ m => liftX m (dclX (tellA u) n u.body ()) fun m => some (.ok () { m with inl := putM m.inl u.name u }))
def knowX (n : Nat) (u : Uni) (m : MS) : Option (Xr Unit) := knowF n u m (lookP m.inl u.name)

theorem W66 {n : Nat} (is : ExpIH n) (st : ExpSH n) {m : MS} {s : Sc} {t : Stmt} {r : Xr Stmt} (h : callE (n + 1) s t m = some r) : callW ip 58 [pV, stmtV t, scV s] [mBox m, mMap m] = some (outX (fun t => [stmtV t]) r) := by
 simp only [callE, wadd, wsub] at h
 refine callW_runs (fn := Tryd.f58) (L := long58) (nt := 100) (n0 := 2) (T := tab) (rw' := []) (kA := keepA) Tryd.func58 rfl rfl rfl rfl rfl rfl rfl rfl rfl ?_
 refine Runs.seq ?_
 refine Runs.reg (by simp only [go_sem, seval, outX, updA, V.isAgg, capsOf]; rfl) (by simp only [long58, go_sem, seval]; rfl) ?_
 refine Runs.seq ?_
 obtain ⟨r1, h1, h⟩ := bindX_some h
 have w1 := W69 is h1
 rcases r1 with ⟨l1, m1⟩ | ⟨c1, z1, m1⟩
 rotate_left
 ·
  try dsimp only [outX, outRow, outU] at w1
  subst h
  refine Runs.region_pan (by simp only [go_sem, seval, outX, updA, V.isAgg, capsOf, w1]; rfl) ?_
  exact finK_pan (by simp only [go_sem, seval, outX, updA, V.isAgg, capsOf, w1]; try rfl)
 try dsimp only [outX, outRow, outU] at w1
 dsimp only at h
 refine Runs.reg (by simp only [go_sem, seval, outX, updA, V.isAgg, capsOf, w1]; rfl) (by simp only [long58, go_sem, seval]; rfl) ?_
 refine Runs.seq ?_
 rcases hl2 : lookP m1.inl t.name with _ | u_
 ·
  simp only [hl2] at h
  try simp only [callF, callG, stmtOf, stmt0, wadd, wsub] at h
  try simp only [cond_true, cond_false] at h
  refine Runs.drw rfl (by simp only [go_sem, seval, outX, updA, V.isAgg, capsOf, hl2, lookU, Option.map_none]; rfl) (by simp only [long58, go_sem, seval]; rfl) ?_
  refine Runs.seq ?_
  refine Runs.seq ?_
  refine Runs.row ?_
  refine Row.run 10 (by simp only [go_sem, seval, outX, updA, V.isAgg, capsOf, hl2, lookU, Option.map_none]; rfl) ?_
  refine Row.end_ (by simp only [long58, go_sem, seval]; rfl) ?_
  refine Runs.cond (t := 39) rfl (fun hc3 => ?_) (fun hc3 => ?_)
  rotate_left
  · exact absurd hc3 (by first | decide)
  try simp only [N3] at hc3
  try simp only [hc3, C5] at h
  cases h
  refine Runs.region_pan (by simp only [go_sem, seval, outX, updA, V.isAgg, capsOf, hl2, lookU, Option.map_none, W41]; rfl) ?_
  exact finK_pan (by simp only [go_sem, seval, outX, updA, V.isAgg, capsOf, hl2, lookU, Option.map_none, W41]; try rfl)
 ·
  simp only [hl2] at h
  try simp only [callF, callG, stmtOf, stmt0, wadd, wsub] at h
  try simp only [cond_true, cond_false] at h
  refine Runs.drw rfl (by simp only [go_sem, seval, outX, updA, V.isAgg, capsOf, hl2, lookU, Option.map_some]; rfl) (by simp only [long58, go_sem, seval]; rfl) ?_
  refine Runs.seq ?_
  refine Runs.seq ?_
  refine Runs.row ?_
  refine Row.run 10 (by simp only [go_sem, seval, outX, updA, V.isAgg, capsOf, hl2, lookU, Option.map_some]; rfl) ?_
  refine Row.end_ (by simp only [long58, go_sem, seval]; rfl) ?_
  refine Runs.cond (t := 39) rfl (fun hc4 => ?_) (fun hc4 => ?_)
  ·
   try simp only [N3] at hc4
   try simp only [hc4, C5] at h
   cases h
   refine Runs.region_pan (by simp only [go_sem, seval, outX, updA, V.isAgg, capsOf, hl2, lookU, Option.map_some, W41, hc4]; rfl) ?_
   exact finK_pan (by simp only [go_sem, seval, outX, updA, V.isAgg, capsOf, hl2, lookU, Option.map_some, W41, hc4]; try rfl)
  try simp only [N3] at hc4
  try simp only [hc4, C5] at h
  have hz_ := int_beq_nat hc4
  refine Runs.skip ?_
  refine Runs.seq ?_
  refine Runs.seq ?_
  refine Runs.reg (by simp only [go_sem, seval, outX, updA, V.isAgg, capsOf, hl2, lookU, Option.map_some, hc4]; rfl) (by simp only [long58, go_sem, seval]; rfl) ?_
  refine Runs.cond (t := 47) rfl (fun hc5 => ?_) (fun hc5 => ?_)
  ·
   try simp only [N3] at hc5
   try simp only [hc5, C5] at h
   cases h
   refine Runs.region_pan (by simp only [go_sem, seval, outX, updA, V.isAgg, capsOf, hl2, lookU, Option.map_some, W41, hc4, hc5]; rfl) ?_
   exact finK_pan (by simp only [go_sem, seval, outX, updA, V.isAgg, capsOf, hl2, lookU, Option.map_some, W41, hc4, hc5]; try rfl)
  try simp only [N3] at hc5
  try simp only [hc5, C5] at h
  refine Runs.skip ?_
  refine Runs.seq ?_
  refine Runs.reg (by simp only [go_sem, seval, outX, updA, V.isAgg, capsOf, hl2, lookU, Option.map_some, hc4, hc5]; rfl) (by simp only [long58, go_sem, seval]; rfl) ?_
  refine Runs.seq ?_
  refine Runs.reg (by simp only [go_sem, seval, outX, updA, V.isAgg, capsOf, hl2, lookU, Option.map_some, hc4, hc5]; rfl) (by simp only [long58, go_sem, seval]; rfl) ?_
  refine Runs.seq ?_
  refine Runs.seq ?_
  refine Runs.reg (by simp only [go_sem, seval, outX, updA, V.isAgg, capsOf, hl2, lookU, Option.map_some, hc4, hc5]; rfl) (by simp only [long58, go_sem, seval]; rfl) ?_
  refine Runs.block ?_
  obtain ⟨hL6, h⟩ := lenO_some h
  obtain ⟨jA_, hj6⟩ : ∃ j, zipA u_.names l1 [] = j := ⟨_, rfl⟩
  rw [hj6] at h
  have hk6 := h
  have h : some (zipA u_.names l1 []) = some jA_ := by rw [hj6]
  refine Runs.loop_rel (m := (u_.names).length) (fun mz_ en hp => ∃ (i : Nat) (A : List (Bytes × Ast)), some (zipA (List.drop i (u_.names)) (List.drop i (l1)) A) = some jA_ ∧ mz_ + i = (u_.names).length ∧ en = [(0, pV), (6, .c (.ptr 2 0)), (7, slV astD l1), (8, .c (.ptr 3 0)), (10, .c (.ptr 4 0)), (64, slV strD u_.names), (65, iI (u_.names.length : Int)), (66, .c (.d (.int .i64 (i : Int))))] ∧ hp = (_ :: _ :: _ :: _ :: _ :: .mp (A.map entA) :: _)) ?_ ⟨0, _, h, rfl, (by first | rfl | (simp only [go_sem, seval, outX, updA, V.isAgg, capsOf, hl2, lookU, Option.map_some]; done) | (simp only [go_sem, seval, outX, updA, V.isAgg, capsOf, hl2, lookU, Option.map_some]; rfl)), (by first | rfl | (simp only [go_sem, seval, outX, updA, V.isAgg, capsOf, hl2, lookU, Option.map_some]; done) | (simp only [go_sem, seval, outX, updA, V.isAgg, capsOf, hl2, lookU, Option.map_some]; rfl))⟩
  clear h
  rintro m6 en hp ⟨i6, A_, h, hm6, rfl, rfl⟩
  refine Runs.seq ?_
  refine Runs.reg (by simp only [go_sem, seval, outX, updA, V.isAgg, capsOf, hl2, lookU, Option.map_some]; rfl) (by simp only [long58, go_sem, seval]; rfl) ?_
  refine Runs.seq ?_
  refine Runs.cond (t := 67) rfl (fun hc7 => ?_) (fun hc7 => ?_)
  ·
   try simp only [N3] at hc7
   try simp only [hc7, C5] at h
   have hi6 := of_decide_eq_true hc7
   obtain ⟨x6a, xs6a, hx6a⟩ := drop_ex (l := u_.names) (i := i6) (by omega)
   obtain ⟨ha6a, hb6a, hd6a⟩ := drop_cons hx6a
   rw [hx6a] at h
   obtain ⟨x6b, xs6b, hx6b⟩ := drop_ex (l := l1) (i := i6) (by omega)
   obtain ⟨ha6b, hb6b, hd6b⟩ := drop_cons hx6b
   rw [hx6b] at h
   simp only [zipA] at h
   have g6 := trivial
   have hn6 := cast_nonneg i6
   have hw6 := wrap_succ (n := i6) (by omega)
   refine Runs.skip ?_
   refine Runs.seq ?_
   refine Runs.block ?_
   refine Runs.seq ?_
   refine Runs.reg (by simp only [go_sem, seval, outX, updA, V.isAgg, capsOf, hl2, lookU, Option.map_some, ha6a, ha6b, hn6, hw6, hc7]; rfl) (by simp only [long58, go_sem, seval]; rfl) ?_
   refine Runs.drw rfl (by simp only [go_sem, seval, outX, updA, V.isAgg, capsOf, hl2, lookU, Option.map_some, ha6a, ha6b, hn6, hw6, hc7]; rfl) (by simp only [long58, go_sem, seval]; rfl) ?_
   refine Runs.reg (by simp only [go_sem, seval, outX, updA, V.isAgg, capsOf, hl2, lookU, Option.map_some, ha6a, ha6b, hn6, hw6, hc7]; rfl) (by simp only [long58, go_sem, seval]; rfl) ?_
   clear g6
   have g6 := h
   rw [← hd6a, ← hd6b] at g6
   refine ⟨m6 - 1, by omega, _, _, by simp only [go_sem, seval, outX, updA, V.isAgg, capsOf, hl2, lookU, Option.map_some, ha6a, ha6b, hn6, hw6]; try rfl, i6 + 1, _, g6, by omega, rfl, rfl⟩
  try simp only [N3] at hc7
  try simp only [hc7, C5] at h
  have hi6 := of_decide_eq_false hc7
  rw [List.drop_eq_nil_of_le (by omega)] at h
  simp only [zipA] at h
  refine Runs.exit ?_
  cases h
  have h := hk6
  try dsimp only at h
  try simp only [hc7, cond_true, cond_false] at h
  refine Runs.seq ?_
  obtain ⟨x8, h8, h⟩ := some_bind h
  have w8 := W76 h8
  try dsimp only at h
  obtain ⟨y8, rfl, hy_, w8⟩ := w8
  refine Runs.reg (by simp only [go_sem, seval, outX, updA, V.isAgg, capsOf, hl2, lookU, Option.map_some, w8, hy_, hc7]; rfl) (by simp only [long58, go_sem, seval]; rfl) ?_
  refine Runs.seq ?_
  obtain ⟨⟨u9, nm9⟩ | ⟨c9, z9, mm9⟩, h9, h⟩ := some_bind h
  rotate_left
  · cases h
  have w9 := D43B (a := jA_) (d := wadd s.deep 1) h9
  try dsimp only at h
  try simp only [outU, xBoxes, wadd, List.map_nil] at w9
  refine Runs.reg (by simp only [go_sem, seval, outX, updA, V.isAgg, capsOf, hl2, lookU, Option.map_some, w9, hc7]; rfl) (by simp only [long58, go_sem, seval]; rfl) ?_
  refine Runs.seq ?_
  obtain ⟨r10, h10, h⟩ := bindX_some h
  have w10 := st.e17 h10
  try simp only [scV, sc0, List.map_nil] at w10
  rcases r10 with ⟨l10, m10⟩ | ⟨c10, z10, m10⟩
  rotate_left
  ·
   try dsimp only [outX, outRow, outU] at w10
   subst h
   refine Runs.region_pan (by simp only [go_sem, seval, outX, updA, V.isAgg, capsOf, hl2, lookU, Option.map_some, w10, hc7]; rfl) ?_
   exact finK_pan (by simp only [go_sem, seval, outX, updA, V.isAgg, capsOf, hl2, lookU, Option.map_some, w10, hc7]; try rfl)
  try dsimp only [outX, outRow, outU] at w10
  dsimp only at h
  refine Runs.reg (by simp only [go_sem, seval, outX, updA, V.isAgg, capsOf, hl2, lookU, Option.map_some, w10, hc7]; rfl) (by simp only [long58, go_sem, seval]; rfl) ?_
  refine Runs.seq ?_
  refine Runs.reg (by simp only [go_sem, seval, outX, updA, V.isAgg, capsOf, hl2, lookU, Option.map_some, hc7]; rfl) (by simp only [long58, go_sem, seval]; rfl) ?_
  refine Runs.ret ?_
  try cases h
  try dsimp only [outX]
  first
  | rfl
  | (exact fk (res := [.cell 6 50]) rfl rfl rfl (by simp only [fin1, go_sem, seval, outX, updA, V.isAgg, capsOf, hl2, lookU, Option.map_some, hc7]; try rfl))
theorem W16 {n : Nat} {m : MS} {u : Uni} {r : Xr Unit} (h : knowX n u m = some r) : callW ip 15 [pV, uniV u] [mBox m, mMap m] = some (outX (fun _ => []) r) := by
 simp only [knowX, wadd, wsub] at h
 refine callW_runs (fn := Tryd.f15) (L := long15) (nt := 51) (n0 := 2) (T := tab) (rw' := []) (kA := keepA) Tryd.func15 rfl rfl rfl rfl rfl rfl rfl rfl rfl ?_
 refine Runs.seq ?_
 refine Runs.reg (by simp only [go_sem, seval, outX, updU, V.isAgg, capsOf, List.drop_zero]; rfl) (by simp only [long15, go_sem, seval]; rfl) ?_
 refine Runs.seq ?_
 refine Runs.seq ?_
 rcases hl1 : lookP m.inl u.name with _ | u_
 ·
  simp only [hl1] at h
  try simp only [knowF] at h
  try simp only [cond_true, cond_false] at h
  refine Runs.drw rfl (by simp only [go_sem, seval, outX, updU, V.isAgg, capsOf, List.drop_zero, hl1, lookU, Option.map_none]; rfl) (by simp only [long15, go_sem, seval]; rfl) ?_
  refine Runs.seq ?_
  refine Runs.reg (by simp only [go_sem, seval, outX, updU, V.isAgg, capsOf, List.drop_zero, hl1, lookU, Option.map_none]; rfl) (by simp only [long15, go_sem, seval]; rfl) ?_
  refine Runs.cond (t := 18) rfl (fun hc2 => ?_) (fun hc2 => ?_)
  · exact absurd hc2 (by first | decide)
  try simp only [N3] at hc2
  try simp only [hc2, C5] at h
  refine Runs.skip ?_
  refine Runs.seq ?_
  refine Runs.seq ?_
  refine Runs.reg (by simp only [go_sem, seval, outX, updU, V.isAgg, capsOf, List.drop_zero, hl1, lookU, Option.map_none]; rfl) (by simp only [long15, go_sem, seval]; rfl) ?_
  refine Runs.block ?_
  obtain ⟨hL3, h⟩ := lenO_some h
  obtain ⟨j3, h, hk3⟩ := bindX_some h
  refine Runs.loop_rel (m := (u.names).length) (fun mz_ en hp => ∃ (i : Nat), dupX u m (List.take i u.names) (List.drop i (u.names)) = some j3 ∧ mz_ + i = (u.names).length ∧ en = [(0, pV), (3, .c (.ptr 2 0)), (23, slV strD u.names), (24, iI (u.names.length : Int)), (25, .c (.d (.int .i64 (i : Int))))] ∧ hp = [mBox m, mMap m, .box [.d (.int .i64 u.kind), .d (.int .i64 u.pos), .d (.str u.name), .d (.str u.text), .d (.sl (u.names.map strD)), .d (.bo u.active), .d (.int .i64 u.count.kind), .d (.int .i64 u.count.n), .d (.str u.count.name), .d (.str u.count.label), .d (.sl (u.count.ref.names.map strD)), .d (.sl (u.count.ref.index.map astD)), .d (.sl (u.count.ref.has.map boD)), .d (.sl (u.count.kids.map astD)), .d (.sl (u.count.args.map argD)), .d (.int .i64 u.decl.type), .d (.str u.decl.named), .d (.sl (u.decl.vars.map dvarD)), .d (.int .i64 u.decl.pos), .d (.sl (u.decls.map declD)), .d (.sl (u.body.map stmtD))]]) ?_ ⟨0, h, rfl, (by first | rfl | (simp only [go_sem, seval, outX, updU, V.isAgg, capsOf, List.drop_zero, hl1, lookU, Option.map_none]; done) | (simp only [go_sem, seval, outX, updU, V.isAgg, capsOf, List.drop_zero, hl1, lookU, Option.map_none]; rfl)), (by first | rfl | (simp only [go_sem, seval, outX, updU, V.isAgg, capsOf, List.drop_zero, hl1, lookU, Option.map_none]; done) | (simp only [go_sem, seval, outX, updU, V.isAgg, capsOf, List.drop_zero, hl1, lookU, Option.map_none]; rfl))⟩
  clear h
  rintro m3 en hp ⟨i3, h, hm3, rfl, rfl⟩
  refine Runs.seq ?_
  refine Runs.reg (by simp only [go_sem, seval, outX, updU, V.isAgg, capsOf, List.drop_zero, hl1, lookU, Option.map_none]; rfl) (by simp only [long15, go_sem, seval]; rfl) ?_
  refine Runs.seq ?_
  refine Runs.cond (t := 26) rfl (fun hc4 => ?_) (fun hc4 => ?_)
  ·
   try simp only [N3] at hc4
   try simp only [hc4, C5] at h
   have hi3 := of_decide_eq_true hc4
   obtain ⟨x3, xs3, hx3⟩ := drop_ex (l := u.names) (i := i3) (by omega)
   obtain ⟨ha3, hb3, hd3⟩ := drop_cons hx3
   rw [hx3] at h
   simp only [dupX] at h
   have g3 := trivial
   have ht_ := take_snoc ha3
   have hle_ : i3 ≤ u.names.length := by omega
   have hn3 := cast_nonneg i3
   have hw3 := wrap_succ (n := i3) (by omega)
   refine Runs.skip ?_
   refine Runs.seq ?_
   refine Runs.block ?_
   refine Runs.seq ?_
   refine Runs.reg (by simp only [go_sem, seval, outX, updU, V.isAgg, capsOf, List.drop_zero, hl1, lookU, Option.map_none, ha3, hn3, hw3, hle_, Nat.zero_le, hc4]; rfl) (by simp only [long15, go_sem, seval]; rfl) ?_
   refine Runs.seq ?_
   obtain ⟨k5, h5, h⟩ := some_bind h
   have w5 := W42 h5
   try dsimp only at h
   try simp only [slV, List.map_take] at w5
   refine Runs.reg (by simp only [go_sem, seval, outX, updU, V.isAgg, capsOf, List.drop_zero, hl1, lookU, Option.map_none, ha3, hn3, hw3, hle_, Nat.zero_le, w5, hc4]; rfl) (by simp only [long15, go_sem, seval]; rfl) ?_
   refine Runs.cond (t := 35) rfl (fun hc6 => ?_) (fun hc6 => ?_)
   ·
    try simp only [N3] at hc6
    try simp only [hc6, C5] at h
    cases h
    dsimp only at hk3
    subst hk3
    refine Runs.region_pan (by simp only [go_sem, seval, outX, updU, V.isAgg, capsOf, List.drop_zero, hl1, lookU, Option.map_none, ha3, hn3, hw3, hle_, Nat.zero_le, W41, hc4, hc6]; rfl) ?_
    exact finK_pan (by simp only [go_sem, seval, outX, updU, V.isAgg, capsOf, List.drop_zero, hl1, lookU, Option.map_none, ha3, hn3, hw3, hle_, Nat.zero_le, W41, hc4, hc6]; try rfl)
   try simp only [N3] at hc6
   try simp only [hc6, C5] at h
   refine Runs.skip ?_
   refine Runs.reg (by simp only [go_sem, seval, outX, updU, V.isAgg, capsOf, List.drop_zero, hl1, lookU, Option.map_none, ha3, hn3, hw3, hle_, Nat.zero_le, hc4, hc6]; rfl) (by simp only [long15, go_sem, seval]; rfl) ?_
   clear g3
   have g3 := h
   rw [← hd3, ht_] at g3
   refine ⟨m3 - 1, by omega, _, _, by simp only [go_sem, seval, outX, updU, V.isAgg, capsOf, List.drop_zero, hl1, lookU, Option.map_none, ha3, hn3, hw3, hle_, Nat.zero_le]; try rfl, i3 + 1, g3, by omega, rfl, rfl⟩
  try simp only [N3] at hc4
  try simp only [hc4, C5] at h
  have hi3 := of_decide_eq_false hc4
  rw [List.drop_eq_nil_of_le (by omega)] at h
  simp only [dupX] at h
  refine Runs.exit ?_
  cases h
  have h := hk3
  try dsimp only at h
  try simp only [hc4, cond_true, cond_false] at h
  refine Runs.seq ?_
  obtain ⟨r7, h7, h⟩ := liftX_some h
  have w7 := D43A h7
  rcases r7 with ⟨u7, m7⟩ | ⟨c7, z7, m7⟩
  rotate_left
  ·
   try dsimp only [outX, outRow, outU] at w7
   subst h
   refine Runs.region_pan (by simp only [go_sem, seval, outX, updU, V.isAgg, capsOf, List.drop_zero, hl1, lookU, Option.map_none, w7, hc4]; rfl) ?_
   exact finK_pan (by simp only [go_sem, seval, outX, updU, V.isAgg, capsOf, List.drop_zero, hl1, lookU, Option.map_none, w7, hc4]; try rfl)
  try dsimp only [outX, outRow, outU] at w7
  dsimp only at h
  refine Runs.reg (by simp only [go_sem, seval, outX, updU, V.isAgg, capsOf, List.drop_zero, hl1, lookU, Option.map_none, w7, hc4]; rfl) (by simp only [long15, go_sem, seval]; rfl) ?_
  refine Runs.drw rfl (by simp only [go_sem, seval, outX, updU, V.isAgg, capsOf, List.drop_zero, hl1, lookU, Option.map_none, hc4]; rfl) (by simp only [long15, go_sem, seval]; rfl) ?_
  try cases h
  try dsimp only [outX]
  first
  | rfl
  | (exact fkn (res := []) rfl rfl rfl (by simp only [fin1, go_sem, seval, outX, updU, V.isAgg, capsOf, List.drop_zero, hl1, lookU, Option.map_none, hc4]; try rfl))
 ·
  simp only [hl1] at h
  try simp only [knowF] at h
  try simp only [cond_true, cond_false] at h
  refine Runs.drw rfl (by simp only [go_sem, seval, outX, updU, V.isAgg, capsOf, List.drop_zero, hl1, lookU, Option.map_some]; rfl) (by simp only [long15, go_sem, seval]; rfl) ?_
  refine Runs.seq ?_
  refine Runs.reg (by simp only [go_sem, seval, outX, updU, V.isAgg, capsOf, List.drop_zero, hl1, lookU, Option.map_some]; rfl) (by simp only [long15, go_sem, seval]; rfl) ?_
  refine Runs.cond (t := 18) rfl (fun hc8 => ?_) (fun hc8 => ?_)
  rotate_left
  · exact absurd hc8 (by first | decide)
  try simp only [N3] at hc8
  try simp only [hc8, C5] at h
  cases h
  refine Runs.region_pan (by simp only [go_sem, seval, outX, updU, V.isAgg, capsOf, List.drop_zero, hl1, lookU, Option.map_some, W41]; rfl) ?_
  exact finK_pan (by simp only [go_sem, seval, outX, updU, V.isAgg, capsOf, List.drop_zero, hl1, lookU, Option.map_some, W41]; try rfl)
end Go.Proofs.YtmkacifjegnehaaDoor
