import Derived.Test.YtmkacifjegnehaaDoorM6
namespace Go.Proofs.YtmkacifjegnehaaDoor
open Go Go.Proofs Go.Proofs.YtmkacifjegnehaaDoor.Ab
set_option linter.unusedSimpArgs false
set_option linter.unusedVariables false
set_option maxRecDepth 10000
set_option maxHeartbeats 8000000

theorem W33 {n : Nat} (ie : ExprIH n) (is : StmtIH n) {p q : PS} {l : List Stmt} (h : bodyP (n + 1) p = some (l, q)) : callW ip 28 [pV] [pBox p] = some (.ret [slV stmtD l], [pBox q]) := by
 simp only [bodyP, wadd, wsub, incBy] at h
 refine callW_runs (fn := Tryd.f28) (L := long28) (nt := 11) (n0 := 1) (T := tab) (rw' := []) (kA := keepA) Tryd.func28 rfl rfl rfl rfl rfl rfl rfl rfl rfl ?_
 refine Runs.seq ?_
 refine Runs.reg (by simp only [go_sem, seval]; rfl) (by simp only [long28, go_sem, seval]; rfl) ?_
 refine Runs.seq ?_
 obtain ⟨q1, h1, h⟩ := some_bind h
 have w1 := W28 _ _ _ h1
 try dsimp only at h
 refine Runs.reg (by simp only [go_sem, seval, w1]; rfl) (by simp only [long28, go_sem, seval]; rfl) ?_
 refine Runs.seq ?_
 obtain ⟨⟨l2, q2⟩, h2, h⟩ := some_bind h
 have w2 := is.e58 h2
 try dsimp only at h
 refine Runs.reg (by simp only [go_sem, seval, w2]; rfl) (by simp only [long28, go_sem, seval]; rfl) ?_
 refine Runs.seq ?_
 obtain ⟨q3, h3, h⟩ := some_bind h
 have w3 := W28 _ _ _ h3
 try dsimp only at h
 refine Runs.reg (by simp only [go_sem, seval, w3]; rfl) (by simp only [long28, go_sem, seval]; rfl) ?_
 refine Runs.seq ?_
 refine Runs.reg (by simp only [go_sem, seval]; rfl) (by simp only [long28, go_sem, seval]; rfl) ?_
 refine Runs.ret ?_
 try cases h
 try dsimp only [outX]
 first
 | rfl
 | (exact fk (res := [.tmp 2]) rfl rfl rfl (by simp only [fin1, go_sem, seval]; try rfl))
theorem W74 {n : Nat} (ie : ExprIH n) (is : StmtIH n) {p q : PS} {s : Stmt} (h : stepP (n + 1) p = some (s, q)) : callW ip 66 [pV] [pBox p] = some (.ret [stmtV s], [pBox q]) := by
 simp only [stepP, stepQ, wadd, wsub, incBy] at h
 refine callW_runs (fn := Tryd.f66) (L := long66) (nt := 31) (n0 := 1) (T := tab) (rw' := []) (kA := keepA) Tryd.func66 rfl rfl rfl rfl rfl rfl rfl rfl rfl ?_
 refine Runs.seq ?_
 refine Runs.reg (by simp only [go_sem, seval]; rfl) (by simp only [long66, go_sem, seval]; rfl) ?_
 refine Runs.seq ?_
 obtain ⟨z1, h1, h⟩ := some_bind h
 have w1 := W26 _ _ h1
 try dsimp only at h
 refine Runs.reg (by simp only [go_sem, seval, w1]; rfl) (by simp only [long66, go_sem, seval]; rfl) ?_
 refine Runs.seq ?_
 obtain ⟨b2, h2, h⟩ := some_bind h
 have w2 := W82 h2
 try dsimp only at h
 refine Runs.reg (by simp only [go_sem, seval, w2]; rfl) (by simp only [long66, go_sem, seval]; rfl) ?_
 refine Runs.seq ?_
 refine Runs.seq ?_
 refine Runs.reg (by simp only [go_sem, seval]; rfl) (by simp only [long66, go_sem, seval]; rfl) ?_
 refine Runs.cond (t := 12) rfl (fun hc3 => ?_) (fun hc3 => ?_)
 ·
  try simp only [N3] at hc3
  try simp only [hc3, C5] at h
  refine Runs.seq ?_
  obtain ⟨⟨d4, q4⟩, h4, h⟩ := some_bind h
  have w4 := W35 ie h4
  try dsimp only at h
  refine Runs.reg (by simp only [go_sem, seval, w4, hc3]; rfl) (by simp only [long66, go_sem, seval]; rfl) ?_
  refine Runs.ret ?_
  try cases h
  try dsimp only [outX]
  first
  | rfl
  | (exact fk (res := [.cell 2 50]) rfl rfl rfl (by simp only [fin1, go_sem, seval, hc3]; try rfl))
 try simp only [N3] at hc3
 try simp only [hc3, C5] at h
 refine Runs.skip ?_
 refine Runs.seq ?_
 obtain ⟨⟨s5, q5⟩, h5, h⟩ := some_bind h
 have w5 := is.e83 h5
 try dsimp only at h
 refine Runs.reg (by simp only [go_sem, seval, w5, hc3]; rfl) (by simp only [long66, go_sem, seval]; rfl) ?_
 refine Runs.seq ?_
 obtain ⟨⟨b6, q6⟩, h6, h⟩ := some_bind h
 have w6 := W12 _ _ _ _ h6
 try dsimp only at h
 refine Runs.reg (by simp only [go_sem, seval, w6, hc3]; rfl) (by simp only [long66, go_sem, seval]; rfl) ?_
 refine Runs.seq ?_
 refine Runs.seq ?_
 refine Runs.reg (by simp only [go_sem, seval, hc3]; rfl) (by simp only [long66, go_sem, seval]; rfl) ?_
 refine Runs.cond (t := 22) rfl (fun hc7 => ?_) (fun hc7 => ?_)
 ·
  try simp only [N3] at hc7
  try simp only [hc7, C5] at h
  refine Runs.seq ?_
  refine Runs.reg (by simp only [go_sem, seval, hc3, hc7]; rfl) (by simp only [long66, go_sem, seval]; rfl) ?_
  refine Runs.ret ?_
  try cases h
  try dsimp only [outX]
  first
  | rfl
  | (exact fk (res := [.cell 2 50]) rfl rfl rfl (by simp only [fin1, go_sem, seval, hc3, hc7]; try rfl))
 try simp only [N3] at hc7
 try simp only [hc7, C5] at h
 refine Runs.skip ?_
 refine Runs.seq ?_
 obtain ⟨⟨s8, q8⟩, h8, h⟩ := some_bind h
 have w8 := is.e83 h8
 try dsimp only at h
 refine Runs.reg (by simp only [go_sem, seval, w8, hc3, hc7]; rfl) (by simp only [long66, go_sem, seval]; rfl) ?_
 refine Runs.seq ?_
 refine Runs.reg (by simp only [go_sem, seval, hc3, hc7]; rfl) (by simp only [long66, go_sem, seval]; rfl) ?_
 refine Runs.ret ?_
 try cases h
 try dsimp only [outX]
 first
 | rfl
 | (exact fk (res := [.cell 2 50]) rfl rfl rfl (by simp only [fin1, go_sem, seval, hc3, hc7]; try rfl))
theorem W88 {n : Nat} (ie : ExprIH n) (is : StmtIH n) {p q : PS} {w : Bytes} {l : List (List Stmt)} (h : optsP (n + 1) p w = some (l, q)) : callW ip 80 [pV, sI w] [pBox p] = some (.ret [slV optD l], [pBox q]) := by
 simp only [optsP, wadd, wsub, incBy] at h
 refine callW_runs (fn := Tryd.f80) (L := long80) (nt := 24) (n0 := 1) (T := tab) (rw' := []) (kA := keepA) Tryd.func80 rfl rfl rfl rfl rfl rfl rfl rfl rfl ?_
 refine Runs.seq ?_
 refine Runs.reg (by simp only [go_sem, seval]; rfl) (by simp only [long80, go_sem, seval]; rfl) ?_
 refine Runs.seq ?_
 refine Runs.reg (by simp only [go_sem, seval]; rfl) (by simp only [long80, go_sem, seval]; rfl) ?_
 refine Runs.seq ?_
 obtain ⟨q1, h1, h⟩ := some_bind h
 have w1 := W28 _ _ _ h1
 try dsimp only at h
 refine Runs.reg (by simp only [go_sem, seval, w1]; rfl) (by simp only [long80, go_sem, seval]; rfl) ?_
 refine Runs.seq ?_
 refine Runs.block ?_
 refine Runs.loop_rel (fun mz_ en hp => ∃ (x : PS × List (List Stmt)), loopO (optsB (seqP n) w) mz_ x = some (l, q) ∧ en = [(0, pV), (1, sI w), (5, .c (.row 1))] ∧ hp = [.box [.d (.str x.1.s), .d (.sl (x.1.l.map tokD)), .d (.int .i64 x.1.pos), .d (.int .i64 x.1.code), .d (.int .i64 x.1.mat)], .row 44 1 x.2.length (rowC optD x.2)]) ?_ ⟨_, h, (by first | rfl | (simp only [go_sem, seval]; done) | (simp only [go_sem, seval]; rfl)), (by first | rfl | (simp only [go_sem, seval]; done) | (simp only [go_sem, seval]; rfl))⟩
 clear h
 rintro m2 en hp ⟨⟨p1, l1⟩, h, rfl, rfl⟩
 obtain _ | m2 := m2
 · cases h
 simp only [loopO, optsB] at h
 obtain ⟨r2, h, g2⟩ := some_bind h
 refine Runs.seq ?_
 refine Runs.seq ?_
 refine Runs.reg (by simp only [go_sem, seval, W11]; rfl) (by simp only [long80, go_sem, seval]; rfl) ?_
 refine Runs.cond (t := 10) rfl (fun hc3 => ?_) (fun hc3 => ?_)
 ·
  try simp only [N3] at hc3
  try simp only [hc3, C5] at h
  refine Runs.skip ?_
  refine Runs.block ?_
  refine Runs.seq ?_
  obtain ⟨⟨l4, q4⟩, h4, h⟩ := some_bind h
  have w4 := is.e58 h4
  try dsimp only at h
  obtain ⟨y5, h5, h⟩ := some_bind h
  obtain ⟨le5, rfl⟩ := appP_some h5
  try simp only [List.length_set, List.length_map, List.length_append, List.length_cons, List.length_nil, seval] at le5
  try dsimp only at h
  refine Runs.reg (by simp only [go_sem, seval, w4, le5, hc3]; rfl) (by simp only [long80, go_sem, seval]; rfl) ?_
  refine Runs.seq ?_
  obtain ⟨⟨b6, q6⟩, h6, h⟩ := some_bind h
  have w6 := W12 _ _ _ _ h6
  try dsimp only at h
  refine Runs.reg (by simp only [go_sem, seval, w6, hc3]; rfl) (by simp only [long80, go_sem, seval]; rfl) ?_
  refine Runs.seq ?_
  refine Runs.seq ?_
  refine Runs.reg (by simp only [go_sem, seval, hc3]; rfl) (by simp only [long80, go_sem, seval]; rfl) ?_
  refine Runs.cond (t := 19) rfl (fun hc7 => ?_) (fun hc7 => ?_)
  ·
   try simp only [N3] at hc7
   try simp only [hc7, C5] at h
   refine Runs.seq ?_
   refine Runs.reg (by simp only [go_sem, seval, hc3, hc7]; rfl) (by simp only [long80, go_sem, seval]; rfl) ?_
   refine Runs.ret ?_
   cases h
   cases g2
   try cases h
   try dsimp only [outX]
   first
   | rfl
   | (exact fk (res := [.tmp 4]) rfl rfl rfl (by simp only [fin1, go_sem, seval, hc3, hc7]; try rfl))
  try simp only [N3] at hc7
  try simp only [hc7, C5] at h
  refine Runs.skip ?_
  obtain ⟨q8, h8, h⟩ := some_bind h
  have w8 := W28 _ _ _ h8
  try dsimp only at h
  refine Runs.reg (by simp only [go_sem, seval, w8, hc3, hc7]; rfl) (by simp only [long80, go_sem, seval]; rfl) ?_
  cases h
  refine ⟨m2, Nat.lt_succ_self _, _, _, by simp only [go_sem, seval]; try rfl, _, g2, rfl, rfl⟩
 try simp only [N3] at hc3
 try simp only [hc3, C5] at h
 refine Runs.exit ?_
 cases h
 cases g2
 refine Runs.seq ?_
 refine Runs.reg (by simp only [go_sem, seval, hc3]; rfl) (by simp only [long80, go_sem, seval]; rfl) ?_
 refine Runs.ret ?_
 try cases h
 try dsimp only [outX]
 first
 | rfl
 | (exact fk (res := [.tmp 4]) rfl rfl rfl (by simp only [fin1, go_sem, seval, hc3]; try rfl))
theorem W58 {n : Nat} (ie : ExprIH n) (is : StmtIH n) {p q : PS} {l : List Stmt} (h : seqP (n + 1) p = some (l, q)) : callW ip 50 [pV] [pBox p] = some (.ret [slV stmtD l], [pBox q]) := by
 simp only [seqP, wadd, wsub, incBy] at h
 refine callW_runs (fn := Tryd.f50) (L := long50) (nt := 73) (n0 := 1) (T := tab) (rw' := []) (kA := keepA) Tryd.func50 rfl rfl rfl rfl rfl rfl rfl rfl rfl ?_
 refine Runs.seq ?_
 refine Runs.reg (by simp only [go_sem, seval]; rfl) (by simp only [long50, go_sem, seval]; rfl) ?_
 refine Runs.seq ?_
 refine Runs.reg (by simp only [go_sem, seval]; rfl) (by simp only [long50, go_sem, seval]; rfl) ?_
 refine Runs.seq ?_
 refine Runs.block ?_
 refine Runs.loop_rel (fun mz_ en hp => ∃ (x : PS × List Stmt), loopO (seqB (stepP n)) mz_ x = some (l, q) ∧ en = [(0, pV), (3, .c (.row 1))] ∧ hp = [.box [.d (.str x.1.s), .d (.sl (x.1.l.map tokD)), .d (.int .i64 x.1.pos), .d (.int .i64 x.1.code), .d (.int .i64 x.1.mat)], .row 50 28 x.2.length (rowC stmtD x.2)]) ?_ ⟨_, h, (by first | rfl | (simp only [go_sem, seval]; done) | (simp only [go_sem, seval]; rfl)), (by first | rfl | (simp only [go_sem, seval]; done) | (simp only [go_sem, seval]; rfl))⟩
 clear h
 rintro m1 en hp ⟨⟨p1, l1⟩, h, rfl, rfl⟩
 obtain _ | m1 := m1
 · cases h
 simp only [loopO, seqB, wadd, wsub, incBy] at h
 obtain ⟨r1, h, g1⟩ := some_bind h
 refine Runs.seq ?_
 refine Runs.seq ?_
 refine Runs.reg (by simp only [go_sem, seval, W11]; rfl) (by simp only [long50, go_sem, seval]; rfl) ?_
 refine Runs.cond (t := 8) rfl (fun hc2 => ?_) (fun hc2 => ?_)
 ·
  try simp only [N3] at hc2
  try simp only [hc2, C5] at h
  refine Runs.skip ?_
  refine Runs.block ?_
  refine Runs.seq ?_
  obtain ⟨⟨s3, q3⟩, h3, h⟩ := some_bind h
  have w3 := is.e74 h3
  try dsimp only at h
  obtain ⟨y4, h4, h⟩ := some_bind h
  obtain ⟨le4, rfl⟩ := appP_some h4
  try simp only [List.length_set, List.length_map, List.length_append, List.length_cons, List.length_nil, seval] at le4
  try dsimp only at h
  refine Runs.reg (by simp only [go_sem, seval, w3, le4, hc2]; rfl) (by simp only [long50, go_sem, seval]; rfl) ?_
  refine Runs.seq ?_
  refine Runs.seq ?_
  refine Runs.reg (by simp only [go_sem, seval, W11, hc2]; rfl) (by simp only [long50, go_sem, seval]; rfl) ?_
  refine Runs.cond (t := 16) rfl (fun hc5 => ?_) (fun hc5 => ?_)
  ·
   try simp only [N3] at hc5
   try simp only [hc5, C5] at h
   refine Runs.seq ?_
   refine Runs.reg (by simp only [go_sem, seval, hc2, hc5]; rfl) (by simp only [long50, go_sem, seval]; rfl) ?_
   refine Runs.ret ?_
   cases h
   cases g1
   try cases h
   try dsimp only [outX]
   first
   | rfl
   | (exact fk (res := [.tmp 2]) rfl rfl rfl (by simp only [fin1, go_sem, seval, hc2, hc5]; try rfl))
  try simp only [N3] at hc5
  try simp only [hc5, C5] at h
  refine Runs.skip ?_
  refine Runs.seq ?_
  obtain ⟨t_, ht_, h⟩ := some_bind h
  obtain ⟨get_, att_⟩ := getP_some ht_
  try dsimp only at h
  refine Runs.drw rfl (by simp only [go_sem, seval, get_, att_, hc2, hc5]; rfl) (by simp only [long50, go_sem, seval]; rfl) ?_
  refine Runs.seq ?_
  obtain ⟨u_, hu_, h⟩ := some_bind h
  obtain ⟨geu_, atu_⟩ := getP_some hu_
  try dsimp only at h
  refine Runs.drw2 (e2 := [(0, pV), (3, .c (.row 1)), (5, bI (closedB u_.kind t_.text))]) rfl ?_ ?_
  ·
   cases hd1 : (u_.kind == 4) with
   | false => exact ⟨_, _, by simp only [go_sem, seval, hc2, hc5, geu_, atu_, hd1]; try rfl, by simp only [long50, go_sem, seval, closedB, hd1, cond_false]; try rfl⟩
   | true => cases hd2 : (t_.text == [125]) with
    | true => exact ⟨_, _, by simp only [go_sem, seval, hc2, hc5, geu_, atu_, hd1, hd2]; try rfl, by simp only [long50, go_sem, seval, closedB, hd1, hd2, cond_true]; try rfl⟩
    | false => cases hd3 : (t_.text == [102, 105]) with
     | true => exact ⟨_, _, by simp only [go_sem, seval, hc2, hc5, geu_, atu_, hd1, hd2, hd3]; try rfl, by simp only [long50, go_sem, seval, closedB, hd1, hd2, hd3, cond_true, cond_false]; try rfl⟩
     | false => exact ⟨_, _, by simp only [go_sem, seval, hc2, hc5, geu_, atu_, hd1, hd2, hd3]; try rfl, by simp only [long50, go_sem, seval, closedB, hd1, hd2, hd3, cond_true, cond_false]; try rfl⟩
  refine Runs.seq ?_
  refine Runs.reg (by simp only [go_sem, seval, hc2, hc5]; rfl) (by simp only [long50, go_sem, seval]; rfl) ?_
  refine Runs.seq ?_
  refine Runs.block ?_
  obtain ⟨j6, h, hk6⟩ := some_bind h
  refine Runs.loop_rel (fun mz_ en hp => ∃ (x : PS × Bool), loopO sepB mz_ x = some j6 ∧ en = [(0, pV), (3, .c (.row 1)), (5, bI (closedB u_.kind t_.text)), (6, bI x.2)] ∧ hp = (.box [.d (.str x.1.s), .d (.sl (x.1.l.map tokD)), .d (.int .i64 x.1.pos), .d (.int .i64 x.1.code), .d (.int .i64 x.1.mat)] :: _)) ?_ ⟨_, h, (by first | rfl | (simp only [go_sem, seval]; done) | (simp only [go_sem, seval]; rfl)), (by first | rfl | (simp only [go_sem, seval]; done) | (simp only [go_sem, seval]; rfl))⟩
  clear h
  rintro m6 en hp ⟨⟨p2, s2⟩, h, rfl, rfl⟩
  obtain _ | m6 := m6
  · cases h
  simp only [loopO, sepB] at h
  obtain ⟨r6, h, g6⟩ := some_bind h
  refine Runs.seq ?_
  refine Runs.seq ?_
  refine Runs.row ?_
  obtain ⟨⟨b7, q7⟩, h7, h⟩ := some_bind h
  have w7 := W12 _ _ _ _ h7
  try dsimp only at h
  refine Row.run 3 (by simp only [go_sem, seval, w7]; rfl) ?_
  refine Row.guard (t := 57) (by simp only [go_sem, seval]; rfl) (fun hg8 => ?_) (fun hg8 => ?_)
  ·
   try simp only [N3] at hg8
   try simp only [hg8, C5] at h
   refine Row.run 3 (by simp only [go_sem, seval, w7, hg8]; rfl) ?_
   refine Row.end_ (by simp only [long50, go_sem, seval]; rfl) ?_
   refine Runs.cond (t := 60) rfl (fun hc9 => ?_) (fun hc9 => ?_)
   rotate_left
   · exact absurd hc9 (by first | decide | (simp only [hg8]; decide))
   try simp only [N3] at hc9
   try simp only [hc9, C5] at h
   refine Runs.skip ?_
   refine Runs.block ?_
   refine Runs.reg (by simp only [go_sem, seval, hg8]; rfl) (by simp only [long50, go_sem, seval]; rfl) ?_
   cases h
   refine ⟨m6, Nat.lt_succ_self _, _, _, by simp only [go_sem, seval]; try rfl, _, g6, rfl, rfl⟩
  ·
   try simp only [N3] at hg8
   try simp only [hg8, C5] at h
   obtain ⟨⟨b10, q10⟩, h10, h⟩ := some_bind h
   have w10 := W12 _ _ _ _ h10
   try dsimp only at h
   refine Row.run 3 (by simp only [go_sem, seval, w7, w10, hg8]; rfl) ?_
   refine Row.end_ (by simp only [long50, go_sem, seval]; rfl) ?_
   refine Runs.cond (t := 60) rfl (fun hc11 => ?_) (fun hc11 => ?_)
   ·
    try simp only [N3] at hc11
    try simp only [hc11, C5] at h
    refine Runs.skip ?_
    refine Runs.block ?_
    refine Runs.reg (by simp only [go_sem, seval, hg8, hc11]; rfl) (by simp only [long50, go_sem, seval]; rfl) ?_
    cases h
    refine ⟨m6, Nat.lt_succ_self _, _, _, by simp only [go_sem, seval]; try rfl, _, g6, rfl, rfl⟩
   try simp only [N3] at hc11
   try simp only [hc11, C5] at h
   refine Runs.exit ?_
   cases h
   cases g6
   have h := hk6
   try dsimp only at h
   try simp only [hg8, hc11, cond_true, cond_false] at h
   refine Runs.seq ?_
   refine Runs.seq ?_
   obtain ⟨b12, h12, h⟩ := some_bind h
   have w12 := W75 _ _ h12
   try dsimp only at h
   refine Runs.reg (by simp only [go_sem, seval, w12, hg8, hc11]; rfl) (by simp only [long50, go_sem, seval]; rfl) ?_
   refine Runs.cond (t := 62) rfl (fun hc13 => ?_) (fun hc13 => ?_)
   ·
    try simp only [N3] at hc13
    try simp only [hc13, C5] at h
    refine Runs.seq ?_
    refine Runs.reg (by simp only [go_sem, seval, hg8, hc11, hc13]; rfl) (by simp only [long50, go_sem, seval]; rfl) ?_
    refine Runs.ret ?_
    cases h
    cases g1
    try cases h
    try dsimp only [outX]
    first
    | rfl
    | (exact fk (res := [.tmp 2]) rfl rfl rfl (by simp only [fin1, go_sem, seval, hg8, hc11, hc13]; try rfl))
   try simp only [N3] at hc13
   try simp only [hc13, C5] at h
   refine Runs.skip ?_
   refine Runs.seq ?_
   refine Runs.row ?_
   refine Row.run 3 (by simp only [go_sem, seval, hg8, hc11, hc13]; rfl) ?_
   refine Row.guard (t := 66) (by simp only [go_sem, seval]; rfl) (fun hg14 => ?_) (fun hg14 => ?_)
   ·
    try simp only [N3] at hg14
    try simp only [hg14, C5] at h
    refine Row.run 3 (by simp only [go_sem, seval, hg8, hc11, hc13, hg14]; rfl) ?_
    refine Row.end_ (by simp only [long50, go_sem, seval]; rfl) ?_
    refine Runs.cond (t := 69) rfl (fun hc15 => ?_) (fun hc15 => ?_)
    ·
     try simp only [N3] at hc15
     try simp only [hc15, C5] at h
     obtain ⟨q16, h16, h⟩ := some_bind h
     have w16 := W56 _ _ h16
     try dsimp only at h
     refine Runs.reg (by simp only [go_sem, seval, w16, hg8, hc11, hc13, hg14, hc15]; rfl) (by simp only [long50, go_sem, seval]; rfl) ?_
     cases h
     refine ⟨m1, Nat.lt_succ_self _, _, _, by simp only [go_sem, seval]; try rfl, _, g1, rfl, rfl⟩
    try simp only [N3] at hc15
    try simp only [hc15, C5] at h
    refine Runs.skip ?_
    cases h
    refine ⟨m1, Nat.lt_succ_self _, _, _, by simp only [go_sem, seval]; try rfl, _, g1, rfl, rfl⟩
   ·
    try simp only [N3] at hg14
    try simp only [hg14, C5] at h
    refine Row.run 3 (by simp only [go_sem, seval, hg8, hc11, hc13, hg14]; rfl) ?_
    refine Row.end_ (by simp only [long50, go_sem, seval]; rfl) ?_
    refine Runs.cond (t := 69) rfl (fun hc17 => ?_) (fun hc17 => ?_)
    · exact absurd hc17 (by first | decide | (simp only [hg8, hc11, hc13, hg14]; decide))
    try simp only [N3] at hc17
    try simp only [hc17, C5] at h
    refine Runs.skip ?_
    cases h
    refine ⟨m1, Nat.lt_succ_self _, _, _, by simp only [go_sem, seval]; try rfl, _, g1, rfl, rfl⟩
 try simp only [N3] at hc2
 try simp only [hc2, C5] at h
 refine Runs.exit ?_
 cases h
 cases g1
 refine Runs.seq ?_
 refine Runs.reg (by simp only [go_sem, seval, hc2]; rfl) (by simp only [long50, go_sem, seval]; rfl) ?_
 refine Runs.ret ?_
 try cases h
 try dsimp only [outX]
 first
 | rfl
 | (exact fk (res := [.tmp 2]) rfl rfl rfl (by simp only [fin1, go_sem, seval, hc2]; try rfl))
end Go.Proofs.YtmkacifjegnehaaDoor
