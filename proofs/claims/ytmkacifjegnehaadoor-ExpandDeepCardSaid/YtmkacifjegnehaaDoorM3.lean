import Derived.Test.YtmkacifjegnehaaDoorM2
namespace Go.Proofs.YtmkacifjegnehaaDoor
open Go Go.Proofs Go.Proofs.YtmkacifjegnehaaDoor.Ab
set_option linter.unusedSimpArgs false
set_option linter.unusedVariables false
set_option maxRecDepth 10000
set_option maxHeartbeats 4000000

theorem W24 {s : List UInt8} {i : Int} {t : Tok} {k c a : Int} (h : wordP s i = some (t, k, c, a)) : callW ip 19 [sI s, iI i] [] = some (.ret [tI t, iI k, mI (c, a)], []) := by
 simp only [wordP] at h
 generalize s.length + 2 = N at h
 refine callW_runs (fn := Tryd.f19) (L := long19) (nt := 161) (n0 := 0) (T := tab) (rw' := []) (kA := keepA) Tryd.func19 rfl rfl rfl rfl rfl rfl rfl rfl rfl ?_
 refine Runs.seq ?_
 refine Runs.reg (by simp only [go_sem, seval, tok0, lxE]; rfl) (by simp only [long19, go_sem, seval]; rfl) ?_
 refine Runs.seq ?_
 obtain ⟨x1, h1, h⟩ := some_bind h
 obtain ⟨ge1, at1⟩ := getP_some h1
 try dsimp only at h
 refine Runs.reg (by simp only [go_sem, seval, tok0, lxE, ge1, at1]; rfl) (by simp only [long19, go_sem, seval]; rfl) ?_
 refine Runs.seq ?_
 refine Runs.reg (by simp only [go_sem, seval, tok0, lxE]; rfl) (by simp only [long19, go_sem, seval]; rfl) ?_
 refine Runs.seq ?_
 refine Runs.block ?_
 refine Runs.seq ?_
 refine Runs.reg (by simp only [go_sem, seval, tok0, lxE, T49]; rfl) (by simp only [long19, go_sem, seval]; rfl) ?_
 refine Runs.cond (t := 16) rfl (fun hc2 => ?_) (fun hc2 => ?_)
 ·
  try simp only [N3] at hc2
  try simp only [hc2, C5] at h
  refine Runs.seq ?_
  refine Runs.block ?_
  obtain ⟨j3, h, hk3⟩ := some_bind h
  refine Runs.loop_rel (fun mz_ en hp => ∃ (k : Int) (j7 j16 : V), loopO (idB s) mz_ k = some j3 ∧ en = [(0, sI s), (1, iI i), (4, .c (.ptr 0 0)), (6, .c (.ptr 1 0)), (7, j7), (8, iI k), (16, j16)] ∧ hp = [.box [.d (.int .i64 0), .d (.str []), .d (.int .i64 0), .d (.int .i64 0)], .box [.d (.int .i64 0), .d (.int .i64 0)]]) ?_ ⟨_, _, _, h, (by first | rfl | (simp only [go_sem, seval, tok0, lxE]; done) | (simp only [go_sem, seval, tok0, lxE]; rfl)), (by first | rfl | (simp only [go_sem, seval, tok0, lxE]; done) | (simp only [go_sem, seval, tok0, lxE]; rfl))⟩
  clear h
  rintro m3 en hp ⟨k1, j7, j16, h, rfl, rfl⟩
  obtain _ | m3 := m3
  · cases h
  simp only [loopO, idB] at h
  obtain ⟨r3, h, g3⟩ := some_bind h
  refine Runs.seq ?_
  refine Runs.seq ?_
  refine Runs.row ?_
  refine Row.run 5 (by simp only [go_sem, seval, tok0, lxE]; rfl) ?_
  refine Row.guard (t := 23) (by simp only [go_sem, seval]; rfl) (fun hg4 => ?_) (fun hg4 => ?_)
  ·
   try simp only [N3] at hg4
   try simp only [hg4, C5] at h
   obtain ⟨x5, h5, h⟩ := some_bind h
   obtain ⟨ge5, at5⟩ := getP_some h5
   try dsimp only at h
   refine Row.run 5 (by simp only [go_sem, seval, tok0, lxE, ge5, at5, T49, hg4]; rfl) ?_
   refine Row.guard (t := 28) (by simp only [go_sem, seval]; rfl) (fun hg6 => ?_) (fun hg6 => ?_)
   ·
    try simp only [N3] at hg6
    try simp only [hg6, C5] at h
    refine Row.run 6 (by simp only [go_sem, seval, tok0, lxE, ge5, at5, T49, hg4, hg6]; rfl) ?_
    refine Row.end_ (by simp only [long19, go_sem, seval]; rfl) ?_
    refine Runs.cond (t := 34) rfl (fun hc7 => ?_) (fun hc7 => ?_)
    rotate_left
    · exact absurd hc7 (by first | decide | (simp only [hg4, hg6]; decide))
    try simp only [N3] at hc7
    try simp only [hc7, C5] at h
    refine Runs.skip ?_
    refine Runs.block ?_
    refine Runs.reg (by simp only [go_sem, seval, tok0, lxE, hg4, hg6]; rfl) (by simp only [long19, go_sem, seval]; rfl) ?_
    cases h
    refine ⟨m3, Nat.lt_succ_self _, _, _, by simp only [go_sem, seval, tok0, lxE]; try rfl, _, _, _, g3, rfl, rfl⟩
   ·
    try simp only [N3] at hg6
    try simp only [hg6, C5] at h
    refine Row.run 6 (by simp only [go_sem, seval, tok0, lxE, ge5, at5, T49, T50, hg4, hg6]; rfl) ?_
    refine Row.end_ (by simp only [long19, go_sem, seval]; rfl) ?_
    refine Runs.cond (t := 34) rfl (fun hc8 => ?_) (fun hc8 => ?_)
    ·
     try simp only [N3] at hc8
     try simp only [hc8, C5] at h
     refine Runs.skip ?_
     refine Runs.block ?_
     refine Runs.reg (by simp only [go_sem, seval, tok0, lxE, hg4, hg6, hc8]; rfl) (by simp only [long19, go_sem, seval]; rfl) ?_
     cases h
     refine ⟨m3, Nat.lt_succ_self _, _, _, by simp only [go_sem, seval, tok0, lxE]; try rfl, _, _, _, g3, rfl, rfl⟩
    try simp only [N3] at hc8
    try simp only [hc8, C5] at h
    refine Runs.exit ?_
    cases h
    cases g3
    have h := hk3
    try dsimp only at h
    try simp only [hg4, hg6, hc8, cond_true, cond_false] at h
    refine Runs.seq ?_
    refine Runs.seq ?_
    refine Runs.reg (by simp only [go_sem, seval, tok0, lxE, hg4, hg6, hc8]; rfl) (by simp only [long19, go_sem, seval]; rfl) ?_
    refine Runs.cond (t := 40) rfl (fun hc9 => ?_) (fun hc9 => ?_)
    ·
     try simp only [N3] at hc9
     try simp only [hc9, C5] at h
     refine Runs.seq ?_
     refine Runs.reg (by simp only [go_sem, seval, tok0, lxE, W22, hg4, hg6, hc8, hc9]; rfl) (by simp only [long19, go_sem, seval]; rfl) ?_
     refine Runs.ret ?_
     try cases h
     try dsimp only [outX]
     first
     | rfl
     | (exact fk (res := [.cell 4 79, .tmp 5, .cell 6 26]) rfl rfl rfl (by simp only [fin1, go_sem, seval, tok0, lxE, hg4, hg6, hc8, hc9]; try rfl))
    try simp only [N3] at hc9
    try simp only [hc9, C5] at h
    refine Runs.skip ?_
    refine Runs.seq ?_
    refine Runs.reg (by simp only [go_sem, seval, tok0, lxE, hg4, hg6, hc8, hc9]; rfl) (by simp only [long19, go_sem, seval]; rfl) ?_
    refine Runs.seq ?_
    refine Runs.seq ?_
    obtain ⟨y10, h10, h⟩ := some_bind h
    obtain ⟨ga10, gb10, gc10, rfl⟩ := subP_some h10
    try dsimp only at h
    refine Runs.reg (by simp only [go_sem, seval, tok0, lxE, ga10, gb10, gc10, T51, hg4, hg6, hc8, hc9]; rfl) (by simp only [long19, go_sem, seval]; rfl) ?_
    refine Runs.cond (t := 48) rfl (fun hc11 => ?_) (fun hc11 => ?_)
    ·
     try simp only [N3] at hc11
     try simp only [hc11, C5] at h
     refine Runs.reg (by simp only [go_sem, seval, tok0, lxE, hg4, hg6, hc8, hc9, hc11]; rfl) (by simp only [long19, go_sem, seval]; rfl) ?_
     refine Runs.seq ?_
     refine Runs.reg (by simp only [go_sem, seval, tok0, lxE, ga10, gb10, gc10, hg4, hg6, hc8, hc9, hc11]; rfl) (by simp only [long19, go_sem, seval]; rfl) ?_
     refine Runs.ret ?_
     try cases h
     try dsimp only [outX]
     first
     | rfl
     | (exact fk (res := [.cell 4 79, .tmp 5, .cell 6 26]) rfl rfl rfl (by simp only [fin1, go_sem, seval, tok0, lxE, hg4, hg6, hc8, hc9, hc11]; try rfl))
    try simp only [N3] at hc11
    try simp only [hc11, C5] at h
    refine Runs.skip ?_
    refine Runs.seq ?_
    refine Runs.reg (by simp only [go_sem, seval, tok0, lxE, ga10, gb10, gc10, hg4, hg6, hc8, hc9, hc11]; rfl) (by simp only [long19, go_sem, seval]; rfl) ?_
    refine Runs.ret ?_
    try cases h
    try dsimp only [outX]
    first
    | rfl
    | (exact fk (res := [.cell 4 79, .tmp 5, .cell 6 26]) rfl rfl rfl (by simp only [fin1, go_sem, seval, tok0, lxE, hg4, hg6, hc8, hc9, hc11]; try rfl))
  ·
   try simp only [N3] at hg4
   try simp only [hg4, C5] at h
   refine Row.run 11 (by simp only [go_sem, seval, tok0, lxE, hg4]; rfl) ?_
   refine Row.end_ (by simp only [long19, go_sem, seval]; rfl) ?_
   refine Runs.cond (t := 34) rfl (fun hc12 => ?_) (fun hc12 => ?_)
   · exact absurd hc12 (by first | decide | (simp only [hg4]; decide))
   try simp only [N3] at hc12
   try simp only [hc12, C5] at h
   refine Runs.exit ?_
   cases h
   cases g3
   have h := hk3
   try dsimp only at h
   try simp only [hg4, cond_true, cond_false] at h
   refine Runs.seq ?_
   refine Runs.seq ?_
   refine Runs.reg (by simp only [go_sem, seval, tok0, lxE, hg4]; rfl) (by simp only [long19, go_sem, seval]; rfl) ?_
   refine Runs.cond (t := 40) rfl (fun hc13 => ?_) (fun hc13 => ?_)
   ·
    try simp only [N3] at hc13
    try simp only [hc13, C5] at h
    refine Runs.seq ?_
    refine Runs.reg (by simp only [go_sem, seval, tok0, lxE, W22, hg4, hc13]; rfl) (by simp only [long19, go_sem, seval]; rfl) ?_
    refine Runs.ret ?_
    try cases h
    try dsimp only [outX]
    first
    | rfl
    | (exact fk (res := [.cell 4 79, .tmp 5, .cell 6 26]) rfl rfl rfl (by simp only [fin1, go_sem, seval, tok0, lxE, hg4, hc13]; try rfl))
   try simp only [N3] at hc13
   try simp only [hc13, C5] at h
   refine Runs.skip ?_
   refine Runs.seq ?_
   refine Runs.reg (by simp only [go_sem, seval, tok0, lxE, hg4, hc13]; rfl) (by simp only [long19, go_sem, seval]; rfl) ?_
   refine Runs.seq ?_
   refine Runs.seq ?_
   obtain ⟨y14, h14, h⟩ := some_bind h
   obtain ⟨ga14, gb14, gc14, rfl⟩ := subP_some h14
   try dsimp only at h
   refine Runs.reg (by simp only [go_sem, seval, tok0, lxE, ga14, gb14, gc14, T51, hg4, hc13]; rfl) (by simp only [long19, go_sem, seval]; rfl) ?_
   refine Runs.cond (t := 48) rfl (fun hc15 => ?_) (fun hc15 => ?_)
   ·
    try simp only [N3] at hc15
    try simp only [hc15, C5] at h
    refine Runs.reg (by simp only [go_sem, seval, tok0, lxE, hg4, hc13, hc15]; rfl) (by simp only [long19, go_sem, seval]; rfl) ?_
    refine Runs.seq ?_
    refine Runs.reg (by simp only [go_sem, seval, tok0, lxE, ga14, gb14, gc14, hg4, hc13, hc15]; rfl) (by simp only [long19, go_sem, seval]; rfl) ?_
    refine Runs.ret ?_
    try cases h
    try dsimp only [outX]
    first
    | rfl
    | (exact fk (res := [.cell 4 79, .tmp 5, .cell 6 26]) rfl rfl rfl (by simp only [fin1, go_sem, seval, tok0, lxE, hg4, hc13, hc15]; try rfl))
   try simp only [N3] at hc15
   try simp only [hc15, C5] at h
   refine Runs.skip ?_
   refine Runs.seq ?_
   refine Runs.reg (by simp only [go_sem, seval, tok0, lxE, ga14, gb14, gc14, hg4, hc13, hc15]; rfl) (by simp only [long19, go_sem, seval]; rfl) ?_
   refine Runs.ret ?_
   try cases h
   try dsimp only [outX]
   first
   | rfl
   | (exact fk (res := [.cell 4 79, .tmp 5, .cell 6 26]) rfl rfl rfl (by simp only [fin1, go_sem, seval, tok0, lxE, hg4, hc13, hc15]; try rfl))
 try simp only [N3] at hc2
 try simp only [hc2, C5] at h
 refine Runs.seq ?_
 refine Runs.reg (by simp only [go_sem, seval, tok0, lxE, T50, hc2]; rfl) (by simp only [long19, go_sem, seval]; rfl) ?_
 refine Runs.cond (t := 57) rfl (fun hc16 => ?_) (fun hc16 => ?_)
 ·
  try simp only [N3] at hc16
  try simp only [hc16, C5] at h
  refine Runs.seq ?_
  refine Runs.reg (by simp only [go_sem, seval, tok0, lxE, hc2, hc16]; rfl) (by simp only [long19, go_sem, seval]; rfl) ?_
  refine Runs.seq ?_
  refine Runs.block ?_
  obtain ⟨j17, h, hk17⟩ := some_bind h
  refine Runs.loop_rel (fun mz_ en hp => ∃ (x : Int × Int), loopO (numB s i) mz_ x = some j17 ∧ en = [(0, sI s), (1, iI i), (4, .c (.ptr 0 0)), (6, .c (.ptr 1 0)), (8, iI x.1), (10, iI x.2)] ∧ hp = [.box [.d (.int .i64 0), .d (.str []), .d (.int .i64 0), .d (.int .i64 0)], .box [.d (.int .i64 0), .d (.int .i64 0)]]) ?_ ⟨_, h, (by first | rfl | (simp only [go_sem, seval, tok0, lxE]; done) | (simp only [go_sem, seval, tok0, lxE]; rfl)), (by first | rfl | (simp only [go_sem, seval, tok0, lxE]; done) | (simp only [go_sem, seval, tok0, lxE]; rfl))⟩
  clear h
  rintro m17 en hp ⟨⟨k1, n1⟩, h, rfl, rfl⟩
  obtain _ | m17 := m17
  · cases h
  simp only [loopO, numB] at h
  obtain ⟨r17, h, g17⟩ := some_bind h
  refine Runs.seq ?_
  refine Runs.seq ?_
  refine Runs.row ?_
  refine Row.run 5 (by simp only [go_sem, seval, tok0, lxE]; rfl) ?_
  refine Row.guard (t := 64) (by simp only [go_sem, seval]; rfl) (fun hg18 => ?_) (fun hg18 => ?_)
  ·
   try simp only [N3] at hg18
   try simp only [hg18, C5] at h
   obtain ⟨x19, h19, h⟩ := some_bind h
   obtain ⟨ge19, at19⟩ := getP_some h19
   try dsimp only at h
   refine Row.run 5 (by simp only [go_sem, seval, tok0, lxE, ge19, at19, T50, hg18]; rfl) ?_
   refine Row.end_ (by simp only [long19, go_sem, seval]; rfl) ?_
   refine Runs.cond (t := 69) rfl (fun hc20 => ?_) (fun hc20 => ?_)
   ·
    try simp only [N3] at hc20
    try simp only [hc20, C5] at h
    refine Runs.skip ?_
    refine Runs.block ?_
    refine Runs.seq ?_
    refine Runs.seq ?_
    refine Runs.reg (by simp only [go_sem, seval, tok0, lxE, hg18, hc20]; rfl) (by simp only [long19, go_sem, seval]; rfl) ?_
    refine Runs.cond (t := 73) rfl (fun hc21 => ?_) (fun hc21 => ?_)
    ·
     try simp only [N3] at hc21
     try simp only [hc21, C5] at h
     refine Runs.reg (by simp only [go_sem, seval, tok0, lxE, ge19, at19, hg18, hc20, hc21]; rfl) (by simp only [long19, go_sem, seval]; rfl) ?_
     refine Runs.reg (by simp only [go_sem, seval, tok0, lxE, hg18, hc20, hc21]; rfl) (by simp only [long19, go_sem, seval]; rfl) ?_
     cases h
     refine ⟨m17, Nat.lt_succ_self _, _, _, by simp only [go_sem, seval, tok0, lxE]; try rfl, _, g17, rfl, rfl⟩
    try simp only [N3] at hc21
    try simp only [hc21, C5] at h
    refine Runs.skip ?_
    refine Runs.reg (by simp only [go_sem, seval, tok0, lxE, hg18, hc20, hc21]; rfl) (by simp only [long19, go_sem, seval]; rfl) ?_
    cases h
    refine ⟨m17, Nat.lt_succ_self _, _, _, by simp only [go_sem, seval, tok0, lxE]; try rfl, _, g17, rfl, rfl⟩
   try simp only [N3] at hc20
   try simp only [hc20, C5] at h
   refine Runs.exit ?_
   cases h
   cases g17
   have h := hk17
   try dsimp only at h
   try simp only [hg18, hc20, cond_true, cond_false] at h
   refine Runs.seq ?_
   refine Runs.seq ?_
   refine Runs.row ?_
   refine Row.run 5 (by simp only [go_sem, seval, tok0, lxE, hg18, hc20]; rfl) ?_
   refine Row.guard (t := 88) (by simp only [go_sem, seval]; rfl) (fun hg22 => ?_) (fun hg22 => ?_)
   ·
    try simp only [N3] at hg22
    try simp only [hg22, C5] at h
    refine Row.run 15 (by simp only [go_sem, seval, tok0, lxE, hg18, hc20, hg22]; rfl) ?_
    refine Row.end_ (by simp only [long19, go_sem, seval]; rfl) ?_
    refine Runs.cond (t := 103) rfl (fun hc23 => ?_) (fun hc23 => ?_)
    rotate_left
    · exact absurd hc23 (by first | decide | (simp only [hg18, hc20, hg22]; decide))
    try simp only [N3] at hc23
    try simp only [hc23, C5] at h
    refine Runs.seq ?_
    refine Runs.reg (by simp only [go_sem, seval, tok0, lxE, W22, hg18, hc20, hg22]; rfl) (by simp only [long19, go_sem, seval]; rfl) ?_
    refine Runs.ret ?_
    try cases h
    try dsimp only [outX]
    first
    | rfl
    | (exact fk (res := [.cell 4 79, .tmp 5, .cell 6 26]) rfl rfl rfl (by simp only [fin1, go_sem, seval, tok0, lxE, hg18, hc20, hg22]; try rfl))
   ·
    try simp only [N3] at hg22
    try simp only [hg22, C5] at h
    refine Row.run 4 (by simp only [go_sem, seval, tok0, lxE, hg18, hc20, hg22]; rfl) ?_
    refine Row.guard (t := 92) (by simp only [go_sem, seval]; rfl) (fun hg24 => ?_) (fun hg24 => ?_)
    ·
     try simp only [N3] at hg24
     try simp only [hg24, C5] at h
     refine Row.run 11 (by simp only [go_sem, seval, tok0, lxE, hg18, hc20, hg22, hg24]; rfl) ?_
     refine Row.end_ (by simp only [long19, go_sem, seval]; rfl) ?_
     refine Runs.cond (t := 103) rfl (fun hc25 => ?_) (fun hc25 => ?_)
     rotate_left
     · exact absurd hc25 (by first | decide | (simp only [hg18, hc20, hg22, hg24]; decide))
     try simp only [N3] at hc25
     try simp only [hc25, C5] at h
     refine Runs.seq ?_
     refine Runs.reg (by simp only [go_sem, seval, tok0, lxE, W22, hg18, hc20, hg22, hg24]; rfl) (by simp only [long19, go_sem, seval]; rfl) ?_
     refine Runs.ret ?_
     try cases h
     try dsimp only [outX]
     first
     | rfl
     | (exact fk (res := [.cell 4 79, .tmp 5, .cell 6 26]) rfl rfl rfl (by simp only [fin1, go_sem, seval, tok0, lxE, hg18, hc20, hg22, hg24]; try rfl))
    ·
     try simp only [N3] at hg24
     try simp only [hg24, C5] at h
     obtain ⟨x26, h26, h⟩ := some_bind h
     obtain ⟨ge26, at26⟩ := getP_some h26
     try dsimp only at h
     refine Row.run 11 (by simp only [go_sem, seval, tok0, lxE, ge26, at26, T49, hg18, hc20, hg22, hg24]; rfl) ?_
     refine Row.end_ (by simp only [long19, go_sem, seval]; rfl) ?_
     refine Runs.cond (t := 103) rfl (fun hc27 => ?_) (fun hc27 => ?_)
     ·
      try simp only [N3] at hc27
      try simp only [hc27, C5] at h
      refine Runs.seq ?_
      refine Runs.reg (by simp only [go_sem, seval, tok0, lxE, W22, hg18, hc20, hg22, hg24, hc27]; rfl) (by simp only [long19, go_sem, seval]; rfl) ?_
      refine Runs.ret ?_
      try cases h
      try dsimp only [outX]
      first
      | rfl
      | (exact fk (res := [.cell 4 79, .tmp 5, .cell 6 26]) rfl rfl rfl (by simp only [fin1, go_sem, seval, tok0, lxE, hg18, hc20, hg22, hg24, hc27]; try rfl))
     try simp only [N3] at hc27
     try simp only [hc27, C5] at h
     refine Runs.skip ?_
     refine Runs.seq ?_
     obtain ⟨y28, h28, h⟩ := some_bind h
     obtain ⟨ga28, gb28, gc28, rfl⟩ := subP_some h28
     try dsimp only at h
     refine Runs.reg (by simp only [go_sem, seval, tok0, lxE, ga28, gb28, gc28, hg18, hc20, hg22, hg24, hc27]; rfl) (by simp only [long19, go_sem, seval]; rfl) ?_
     refine Runs.ret ?_
     try cases h
     try dsimp only [outX]
     first
     | rfl
     | (exact fk (res := [.cell 4 79, .tmp 5, .cell 6 26]) rfl rfl rfl (by simp only [fin1, go_sem, seval, tok0, lxE, hg18, hc20, hg22, hg24, hc27]; try rfl))
  ·
   try simp only [N3] at hg18
   try simp only [hg18, C5] at h
   refine Row.run 5 (by simp only [go_sem, seval, tok0, lxE, hg18]; rfl) ?_
   refine Row.end_ (by simp only [long19, go_sem, seval]; rfl) ?_
   refine Runs.cond (t := 69) rfl (fun hc29 => ?_) (fun hc29 => ?_)
   · exact absurd hc29 (by first | decide | (simp only [hg18]; decide))
   try simp only [N3] at hc29
   try simp only [hc29, C5] at h
   refine Runs.exit ?_
   cases h
   cases g17
   have h := hk17
   try dsimp only at h
   try simp only [hg18, cond_true, cond_false] at h
   refine Runs.seq ?_
   refine Runs.seq ?_
   refine Runs.row ?_
   refine Row.run 5 (by simp only [go_sem, seval, tok0, lxE, hg18]; rfl) ?_
   refine Row.guard (t := 88) (by simp only [go_sem, seval]; rfl) (fun hg30 => ?_) (fun hg30 => ?_)
   ·
    try simp only [N3] at hg30
    try simp only [hg30, C5] at h
    refine Row.run 15 (by simp only [go_sem, seval, tok0, lxE, hg18, hg30]; rfl) ?_
    refine Row.end_ (by simp only [long19, go_sem, seval]; rfl) ?_
    refine Runs.cond (t := 103) rfl (fun hc31 => ?_) (fun hc31 => ?_)
    rotate_left
    · exact absurd hc31 (by first | decide | (simp only [hg18, hg30]; decide))
    try simp only [N3] at hc31
    try simp only [hc31, C5] at h
    refine Runs.seq ?_
    refine Runs.reg (by simp only [go_sem, seval, tok0, lxE, W22, hg18, hg30]; rfl) (by simp only [long19, go_sem, seval]; rfl) ?_
    refine Runs.ret ?_
    try cases h
    try dsimp only [outX]
    first
    | rfl
    | (exact fk (res := [.cell 4 79, .tmp 5, .cell 6 26]) rfl rfl rfl (by simp only [fin1, go_sem, seval, tok0, lxE, hg18, hg30]; try rfl))
   ·
    try simp only [N3] at hg30
    try simp only [hg30, C5] at h
    refine Row.run 4 (by simp only [go_sem, seval, tok0, lxE, hg18, hg30]; rfl) ?_
    refine Row.guard (t := 92) (by simp only [go_sem, seval]; rfl) (fun hg32 => ?_) (fun hg32 => ?_)
    ·
     try simp only [N3] at hg32
     try simp only [hg32, C5] at h
     refine Row.run 11 (by simp only [go_sem, seval, tok0, lxE, hg18, hg30, hg32]; rfl) ?_
     refine Row.end_ (by simp only [long19, go_sem, seval]; rfl) ?_
     refine Runs.cond (t := 103) rfl (fun hc33 => ?_) (fun hc33 => ?_)
     rotate_left
     · exact absurd hc33 (by first | decide | (simp only [hg18, hg30, hg32]; decide))
     try simp only [N3] at hc33
     try simp only [hc33, C5] at h
     refine Runs.seq ?_
     refine Runs.reg (by simp only [go_sem, seval, tok0, lxE, W22, hg18, hg30, hg32]; rfl) (by simp only [long19, go_sem, seval]; rfl) ?_
     refine Runs.ret ?_
     try cases h
     try dsimp only [outX]
     first
     | rfl
     | (exact fk (res := [.cell 4 79, .tmp 5, .cell 6 26]) rfl rfl rfl (by simp only [fin1, go_sem, seval, tok0, lxE, hg18, hg30, hg32]; try rfl))
    ·
     try simp only [N3] at hg32
     try simp only [hg32, C5] at h
     refine Row.run 11 (by simp only [go_sem, seval, tok0, lxE, hg18, hg30, hg32]; rfl) ?_
     refine Row.end_ (by simp only [long19, go_sem, seval]; rfl) ?_
     refine Runs.cond (t := 103) rfl (fun hc34 => ?_) (fun hc34 => ?_)
     · exact absurd hc34 (by first | decide | (simp only [hg18, hg30, hg32]; decide))
     try simp only [N3] at hc34
     try simp only [hc34, C5] at h
     refine Runs.skip ?_
     refine Runs.seq ?_
     obtain ⟨y35, h35, h⟩ := some_bind h
     obtain ⟨ga35, gb35, gc35, rfl⟩ := subP_some h35
     try dsimp only at h
     refine Runs.reg (by simp only [go_sem, seval, tok0, lxE, ga35, gb35, gc35, hg18, hg30, hg32]; rfl) (by simp only [long19, go_sem, seval]; rfl) ?_
     refine Runs.ret ?_
     try cases h
     try dsimp only [outX]
     first
     | rfl
     | (exact fk (res := [.cell 4 79, .tmp 5, .cell 6 26]) rfl rfl rfl (by simp only [fin1, go_sem, seval, tok0, lxE, hg18, hg30, hg32]; try rfl))
 try simp only [N3] at hc16
 try simp only [hc16, C5] at h
 refine Runs.seq ?_
 refine Runs.reg (by simp only [go_sem, seval, tok0, lxE, hc2, hc16]; rfl) (by simp only [long19, go_sem, seval]; rfl) ?_
 refine Runs.cond (t := 115) rfl (fun hc36 => ?_) (fun hc36 => ?_)
 ·
  try simp only [N3] at hc36
  try simp only [hc36, C5] at h
  refine Runs.seq ?_
  obtain ⟨⟨t37, k37, c37, a37⟩, h37, h⟩ := some_bind h
  have w37 := W52 h37
  try dsimp only at h
  refine Runs.reg (by simp only [go_sem, seval, tok0, lxE, w37, hc2, hc16, hc36]; rfl) (by simp only [long19, go_sem, seval]; rfl) ?_
  refine Runs.ret ?_
  try cases h
  try dsimp only [outX]
  first
  | rfl
  | (exact fk (res := [.cell 4 79, .tmp 5, .cell 6 26]) rfl rfl rfl (by simp only [fin1, go_sem, seval, tok0, lxE, hc2, hc16, hc36]; try rfl))
 try simp only [N3] at hc36
 try simp only [hc36, C5] at h
 refine Runs.skip ?_
 refine Runs.seq ?_
 refine Runs.seq ?_
 try simp only [twoT] at h
 refine Runs.row ?_
 refine Row.run 6 (by simp only [go_sem, seval, tok0, lxE, hc2, hc16, hc36]; rfl) ?_
 refine Row.guard (t := 129) (by simp only [go_sem, seval]; rfl) (fun hg38 => ?_) (fun hg38 => ?_)
 ·
  try simp only [N3] at hg38
  try simp only [hg38, C5] at h
  obtain ⟨y39, h39, h⟩ := some_bind h
  obtain ⟨ga39, gb39, gc39, rfl⟩ := subP_some h39
  try dsimp only at h
  refine Row.run 7 (by simp only [go_sem, seval, tok0, lxE, ga39, gb39, gc39, T53, hc2, hc16, hc36, hg38]; rfl) ?_
  refine Row.end_ (by simp only [long19, go_sem, seval]; rfl) ?_
  refine Runs.cond (t := 136) rfl (fun hc40 => ?_) (fun hc40 => ?_)
  ·
   try simp only [N3] at hc40
   try simp only [hc40, C5] at h
   refine Runs.seq ?_
   refine Runs.reg (by simp only [go_sem, seval, tok0, lxE, ga39, gb39, gc39, hc2, hc16, hc36, hg38, hc40]; rfl) (by simp only [long19, go_sem, seval]; rfl) ?_
   refine Runs.ret ?_
   try cases h
   try dsimp only [outX]
   first
   | rfl
   | (exact fk (res := [.cell 4 79, .tmp 5, .cell 6 26]) rfl rfl rfl (by simp only [fin1, go_sem, seval, tok0, lxE, hc2, hc16, hc36, hg38, hc40]; try rfl))
  try simp only [N3] at hc40
  try simp only [hc40, C5] at h
  refine Runs.skip ?_
  refine Runs.seq ?_
  refine Runs.reg (by simp only [go_sem, seval, tok0, lxE, T54, hc2, hc16, hc36, hg38, hc40]; rfl) (by simp only [long19, go_sem, seval]; rfl) ?_
  refine Runs.seq ?_
  refine Runs.seq ?_
  refine Runs.reg (by simp only [go_sem, seval, tok0, lxE, hc2, hc16, hc36, hg38, hc40]; rfl) (by simp only [long19, go_sem, seval]; rfl) ?_
  refine Runs.cond (t := 148) rfl (fun hc41 => ?_) (fun hc41 => ?_)
  ·
   try simp only [N3] at hc41
   try simp only [hc41, C5] at h
   refine Runs.seq ?_
   obtain ⟨y42, h42, h⟩ := some_bind h
   obtain ⟨ga42, gb42, gc42, rfl⟩ := subP_some h42
   try dsimp only at h
   refine Runs.reg (by simp only [go_sem, seval, tok0, lxE, ga42, gb42, gc42, hc2, hc16, hc36, hg38, hc40, hc41]; rfl) (by simp only [long19, go_sem, seval]; rfl) ?_
   refine Runs.ret ?_
   try cases h
   try dsimp only [outX]
   first
   | rfl
   | (exact fk (res := [.cell 4 79, .tmp 5, .cell 6 26]) rfl rfl rfl (by simp only [fin1, go_sem, seval, tok0, lxE, hc2, hc16, hc36, hg38, hc40, hc41]; try rfl))
  try simp only [N3] at hc41
  try simp only [hc41, C5] at h
  refine Runs.skip ?_
  refine Runs.seq ?_
  refine Runs.reg (by simp only [go_sem, seval, tok0, lxE, W22, hc2, hc16, hc36, hg38, hc40, hc41]; rfl) (by simp only [long19, go_sem, seval]; rfl) ?_
  refine Runs.ret ?_
  try cases h
  try dsimp only [outX]
  first
  | rfl
  | (exact fk (res := [.cell 4 79, .tmp 5, .cell 6 26]) rfl rfl rfl (by simp only [fin1, go_sem, seval, tok0, lxE, hc2, hc16, hc36, hg38, hc40, hc41]; try rfl))
 ·
  try simp only [N3] at hg38
  try simp only [hg38, C5] at h
  refine Row.run 7 (by simp only [go_sem, seval, tok0, lxE, hc2, hc16, hc36, hg38]; rfl) ?_
  refine Row.end_ (by simp only [long19, go_sem, seval]; rfl) ?_
  refine Runs.cond (t := 136) rfl (fun hc43 => ?_) (fun hc43 => ?_)
  · exact absurd hc43 (by first | decide | (simp only [hc2, hc16, hc36, hg38]; decide))
  try simp only [N3] at hc43
  try simp only [hc43, C5] at h
  refine Runs.skip ?_
  refine Runs.seq ?_
  refine Runs.reg (by simp only [go_sem, seval, tok0, lxE, T54, hc2, hc16, hc36, hg38]; rfl) (by simp only [long19, go_sem, seval]; rfl) ?_
  refine Runs.seq ?_
  refine Runs.seq ?_
  refine Runs.reg (by simp only [go_sem, seval, tok0, lxE, hc2, hc16, hc36, hg38]; rfl) (by simp only [long19, go_sem, seval]; rfl) ?_
  refine Runs.cond (t := 148) rfl (fun hc44 => ?_) (fun hc44 => ?_)
  ·
   try simp only [N3] at hc44
   try simp only [hc44, C5] at h
   refine Runs.seq ?_
   obtain ⟨y45, h45, h⟩ := some_bind h
   obtain ⟨ga45, gb45, gc45, rfl⟩ := subP_some h45
   try dsimp only at h
   refine Runs.reg (by simp only [go_sem, seval, tok0, lxE, ga45, gb45, gc45, hc2, hc16, hc36, hg38, hc44]; rfl) (by simp only [long19, go_sem, seval]; rfl) ?_
   refine Runs.ret ?_
   try cases h
   try dsimp only [outX]
   first
   | rfl
   | (exact fk (res := [.cell 4 79, .tmp 5, .cell 6 26]) rfl rfl rfl (by simp only [fin1, go_sem, seval, tok0, lxE, hc2, hc16, hc36, hg38, hc44]; try rfl))
  try simp only [N3] at hc44
  try simp only [hc44, C5] at h
  refine Runs.skip ?_
  refine Runs.seq ?_
  refine Runs.reg (by simp only [go_sem, seval, tok0, lxE, W22, hc2, hc16, hc36, hg38, hc44]; rfl) (by simp only [long19, go_sem, seval]; rfl) ?_
  refine Runs.ret ?_
  try cases h
  try dsimp only [outX]
  first
  | rfl
  | (exact fk (res := [.cell 4 79, .tmp 5, .cell 6 26]) rfl rfl rfl (by simp only [fin1, go_sem, seval, tok0, lxE, hc2, hc16, hc36, hg38, hc44]; try rfl))
theorem W10 {s : List UInt8} {l : List Tok} {c a : Int} (h : tokensP s = some (l, c, a)) : callW ip 9 [sI s] [] = some (.ret [.c (.d (.sl (l.map tokD))), mI (c, a)], []) := by
 simp only [tokensP] at h
 generalize s.length + 2 = N at h
 refine callW_runs (fn := Tryd.f9) (L := long9) (nt := 48) (n0 := 0) (T := tab) (rw' := []) (kA := keepA) Tryd.func9 rfl rfl rfl rfl rfl rfl rfl rfl rfl ?_
 refine Runs.seq ?_
 refine Runs.reg (by simp only [go_sem, seval, chunks_tok, rowC_snoc]; rfl) (by simp only [long9, go_sem, seval]; rfl) ?_
 refine Runs.seq ?_
 refine Runs.seq ?_
 refine Runs.reg (by simp only [go_sem, seval, chunks_tok, rowC_snoc]; rfl) (by simp only [long9, go_sem, seval]; rfl) ?_
 refine Runs.cond (t := 12) rfl (fun hc1 => ?_) (fun hc1 => ?_)
 ·
  try simp only [N3] at hc1
  try simp only [hc1, C5] at h
  refine Runs.seq ?_
  refine Runs.reg (by simp only [go_sem, seval, chunks_tok, rowC_snoc, W22, hc1]; rfl) (by simp only [long9, go_sem, seval]; rfl) ?_
  refine Runs.ret ?_
  try cases h
  try dsimp only [outX]
  first
  | rfl
  | (exact fk (res := [.tmp 2, .cell 3 26]) rfl rfl rfl (by simp only [fin1, go_sem, seval, chunks_tok, rowC_snoc, hc1]; try rfl))
 try simp only [N3] at hc1
 try simp only [hc1, C5] at h
 refine Runs.skip ?_
 refine Runs.seq ?_
 refine Runs.reg (by simp only [go_sem, seval, chunks_tok, rowC_snoc, hc1]; rfl) (by simp only [long9, go_sem, seval]; rfl) ?_
 refine Runs.seq ?_
 refine Runs.reg (by simp only [go_sem, seval, chunks_tok, rowC_snoc, hc1]; rfl) (by simp only [long9, go_sem, seval]; rfl) ?_
 refine Runs.block ?_
 refine Runs.loop_rel (fun mz_ en hp => ∃ (x : Int × List Tok), loopO (tokensB s) mz_ x = some (l, c, a) ∧ en = [(0, sI s), (3, .c (.ptr 0 0)), (4, .c (.row 1)), (5, iI x.1)] ∧ hp = [.box [.d (.int .i64 0), .d (.int .i64 0)], .row 79 4 x.2.length (rowC tokD x.2)]) ?_ ⟨_, h, (by first | rfl | (simp only [go_sem, seval, chunks_tok, rowC_snoc]; done) | (simp only [go_sem, seval, chunks_tok, rowC_snoc]; rfl)), (by first | rfl | (simp only [go_sem, seval, chunks_tok, rowC_snoc]; done) | (simp only [go_sem, seval, chunks_tok, rowC_snoc]; rfl))⟩
 clear h
 rintro m2 en hp ⟨⟨i, l1⟩, h, rfl, rfl⟩
 obtain _ | m2 := m2
 · cases h
 simp only [loopO, tokensB] at h
 obtain ⟨r2, h, g2⟩ := some_bind h
 refine Runs.block ?_
 refine Runs.seq ?_
 obtain ⟨⟨k3, c3, a3⟩, h3, h⟩ := some_bind h
 have w3 := W23 h3
 try dsimp only at h
 refine Runs.reg (by simp only [go_sem, seval, chunks_tok, rowC_snoc, w3]; rfl) (by simp only [long9, go_sem, seval]; rfl) ?_
 refine Runs.seq ?_
 refine Runs.seq ?_
 refine Runs.reg (by simp only [go_sem, seval, chunks_tok, rowC_snoc]; rfl) (by simp only [long9, go_sem, seval]; rfl) ?_
 refine Runs.cond (t := 22) rfl (fun hc4 => ?_) (fun hc4 => ?_)
 ·
  try simp only [N3] at hc4
  try simp only [hc4, C5] at h
  refine Runs.seq ?_
  refine Runs.drw rfl (by simp only [go_sem, seval, chunks_tok, rowC_snoc, hc4]; rfl) (by simp only [long9, go_sem, seval]; rfl) ?_
  refine Runs.ret ?_
  cases h
  cases g2
  try cases h
  try dsimp only [outX]
  first
  | rfl
  | (exact fk (res := [.tmp 2, .cell 3 26]) rfl rfl rfl (by simp only [fin1, go_sem, seval, chunks_tok, rowC_snoc, hc4]; try rfl))
 try simp only [N3] at hc4
 try simp only [hc4, C5] at h
 refine Runs.skip ?_
 refine Runs.seq ?_
 refine Runs.seq ?_
 refine Runs.reg (by simp only [go_sem, seval, chunks_tok, rowC_snoc, hc4]; rfl) (by simp only [long9, go_sem, seval]; rfl) ?_
 refine Runs.cond (t := 27) rfl (fun hc5 => ?_) (fun hc5 => ?_)
 ·
  try simp only [N3] at hc5
  try simp only [hc5, C5] at h
  refine Runs.seq ?_
  refine Runs.reg (by simp only [go_sem, seval, chunks_tok, rowC_snoc, hc4, hc5]; rfl) (by simp only [long9, go_sem, seval]; rfl) ?_
  refine Runs.ret ?_
  cases h
  cases g2
  try cases h
  try dsimp only [outX]
  first
  | rfl
  | (exact fk (res := [.tmp 2, .cell 3 26]) rfl rfl rfl (by simp only [fin1, go_sem, seval, chunks_tok, rowC_snoc, hc4, hc5]; try rfl))
 try simp only [N3] at hc5
 try simp only [hc5, C5] at h
 refine Runs.skip ?_
 refine Runs.seq ?_
 obtain ⟨⟨t6, k6, c6, a6⟩, h6, h⟩ := some_bind h
 have w6 := W24 h6
 try dsimp only at h
 refine Runs.reg (by simp only [go_sem, seval, chunks_tok, rowC_snoc, w6, hc4, hc5]; rfl) (by simp only [long9, go_sem, seval]; rfl) ?_
 refine Runs.seq ?_
 refine Runs.seq ?_
 refine Runs.reg (by simp only [go_sem, seval, chunks_tok, rowC_snoc, hc4, hc5]; rfl) (by simp only [long9, go_sem, seval]; rfl) ?_
 refine Runs.cond (t := 39) rfl (fun hc7 => ?_) (fun hc7 => ?_)
 ·
  try simp only [N3] at hc7
  try simp only [hc7, C5] at h
  refine Runs.seq ?_
  refine Runs.drw rfl (by simp only [go_sem, seval, chunks_tok, rowC_snoc, hc4, hc5, hc7]; rfl) (by simp only [long9, go_sem, seval]; rfl) ?_
  refine Runs.ret ?_
  cases h
  cases g2
  try cases h
  try dsimp only [outX]
  first
  | rfl
  | (exact fk (res := [.tmp 2, .cell 3 26]) rfl rfl rfl (by simp only [fin1, go_sem, seval, chunks_tok, rowC_snoc, hc4, hc5, hc7]; try rfl))
 try simp only [N3] at hc7
 try simp only [hc7, C5] at h
 refine Runs.skip ?_
 refine Runs.seq ?_
 refine Runs.reg (by simp only [go_sem, seval, chunks_tok, rowC_snoc, hc4, hc5, hc7]; rfl) (by simp only [long9, go_sem, seval]; rfl) ?_
 refine Runs.seq ?_
 obtain ⟨y8, h8, h⟩ := some_bind h
 obtain ⟨le8, rfl⟩ := appP_some h8
 try simp only [List.length_set, List.length_map, List.length_append, List.length_cons, List.length_nil, seval] at le8
 try dsimp only at h
 refine Runs.reg (by simp only [go_sem, seval, chunks_tok, rowC_snoc, le8, hc4, hc5, hc7]; rfl) (by simp only [long9, go_sem, seval]; rfl) ?_
 refine Runs.reg (by simp only [go_sem, seval, chunks_tok, rowC_snoc, hc4, hc5, hc7]; rfl) (by simp only [long9, go_sem, seval]; rfl) ?_
 cases h
 refine ⟨m2, Nat.lt_succ_self _, _, _, by simp only [go_sem, seval, chunks_tok, rowC_snoc]; try rfl, _, g2, rfl, rfl⟩
end Go.Proofs.YtmkacifjegnehaaDoor
