import Derived.Test.YtmkacifjegnehaaDoorM14
namespace Go.Proofs.YtmkacifjegnehaaDoor
open Go Go.Proofs Go.Proofs.YtmkacifjegnehaaDoor.Ab
set_option linter.unusedSimpArgs false
set_option linter.unusedVariables false
set_option maxRecDepth 10000
set_option maxHeartbeats 8000000
def fstC : Code → Code
  | .seq a _ => a
  | c => c
def sndC : Code → Code
  | .seq _ b => b
  | c => c
noncomputable def b7 : Code := Tryd.f7.body.getD .skip
noncomputable def c7a : Code := fstC (sndC (sndC b7))
noncomputable def c7b : Code := fstC (sndC (sndC (sndC b7)))
noncomputable def c7c : Code := fstC (sndC (sndC (sndC (sndC b7))))
noncomputable def d7 : Code := sndC (sndC (sndC (sndC (sndC b7))))
def L7 (k : Nat) : Lv := if k = 2 then ([0, 2, 3, 4], [(2, 0, 46, 21), (4, 0, 1, 0)]) else if k = 20 then ([2, 3], [(2, 0, 2, 0)]) else long7 k
def knowU (n : Nat) (u : Uni) (_ : Unit) (m : MS) : Option (Xr Unit) := cond (u.kind == 7) (bindX (knowX n u m) fun _ m => some (.ok () m)) (some (.ok () m))
def addX (out : List Uni) (u : Uni) (m : MS) : Option (Xr (List Uni)) := (appP out [u]).bind fun out => some (.ok out m)
def uniX (n : Nat) (u : Uni) (out : List Uni) (m : MS) : Option (Xr (List Uni)) := bindX (stmtsE n sc0 u.body m) fun b m => addX out { u with body := b } m
def unitX (n : Nat) (u : Uni) (out : List Uni) (m : MS) : Option (Xr (List Uni)) := cond (u.kind == 7) (some (.ok out m)) (cond (u.kind == 4) (uniX n u out m) (cond (u.kind == 5) (uniX n u out m) (cond (u.kind == 6) (uniX n u out m) (addX out u m))))
def inlX (n : Nat) (l : List Uni) : Option (Xr (List Uni)) := lenO l (bindX (foldX (knowU n) l () ⟨[], 0, 0, 0⟩) fun _ m => foldX (unitX n) l [] m)
abbrev mBox7 (m : MS) : O := .box [.mp 4, .d (.int .i64 m.parts), .d (.int .i64 m.calls), .d (.int .i64 m.pos)]
abbrev box26 : O := .box [.d (.int .i64 0), .d (.int .i64 0)]
def K7 (r : Xr (List Uni)) (x : Ex) (e : List (Nat × V)) (H : List O) : Prop := Env.get e 2 = .c (.ptr 0 0) ∧ Env.get e 3 = .c (.ptr 1 0) ∧ match r with
  | .ok out m => x = .normal ∧ H = [.box [.row 3], box26, mBox7 m, .row 46 21 out.length (rowC uniD out), mMap m]
  | .pan c z m => x = .panic 26 [.int .i64 c, .int .i64 z] ∧ ∃ rest, H = .box [.row 3] :: box26 :: rest

theorem R7 {n : Nat} (st : ExpSH n) {l : List Uni} {r : Xr (List Uni)} (h : inlX n l = some r) : Runs (callW ip) ⟨tab, [], 53, 2⟩ keepA L7 (fun _ => none) (.seq c7a (.seq c7b c7c)) [(0, slV uniD l), (2, .c (.ptr 0 0)), (3, .c (.ptr 1 0))] [.box [.nilS], box26] (K7 r) := by
  simp only [inlX] at h
  obtain ⟨hL_, h⟩ := lenO_some h
  refine Runs.seq ?_
  refine Runs.reg (by simp only [go_sem, seval, outX, long7, L7, V.isAgg, capsOf]; rfl) (by simp only [L7, go_sem, seval]; rfl) ?_
  refine Runs.seq ?_
  refine Runs.seq ?_
  refine Runs.reg (by simp only [go_sem, seval, outX, long7, L7, V.isAgg, capsOf]; rfl) (by simp only [L7, go_sem, seval]; rfl) ?_
  refine Runs.block ?_
  obtain ⟨j1, h, hk1⟩ := bindX_some h
  refine Runs.loop_rel (m := (l).length) (fun mz_ en hp => ∃ (i : Nat) (m : MS), foldX (knowU n) (List.drop i (l)) () m = some j1 ∧ mz_ + i = (l).length ∧ en = [(0, slV uniD l), (2, .c (.ptr 0 0)), (3, .c (.ptr 1 0)), (4, .c (.ptr 2 0)), (13, slV uniD l), (14, iI (l.length : Int)), (15, .c (.d (.int .i64 (i : Int))))] ∧ hp = [.box [.row 3], box26, mBox7 m, .row 46 21 0 (rowC uniD []), mMap m]) ?_ ⟨0, _, h, rfl, (by first | rfl | (simp only [go_sem, seval, outX, long7, L7, V.isAgg, capsOf]; done) | (simp only [go_sem, seval, outX, long7, L7, V.isAgg, capsOf]; rfl)), (by first | rfl | (simp only [go_sem, seval, outX, long7, L7, V.isAgg, capsOf]; done) | (simp only [go_sem, seval, outX, long7, L7, V.isAgg, capsOf]; rfl))⟩
  clear h
  rintro m1 en hp ⟨i1, m_, h, hm1, rfl, rfl⟩
  refine Runs.seq ?_
  refine Runs.reg (by simp only [go_sem, seval, outX, long7, L7, V.isAgg, capsOf]; rfl) (by simp only [L7, go_sem, seval]; rfl) ?_
  refine Runs.seq ?_
  refine Runs.cond (t := 16) rfl (fun hc2 => ?_) (fun hc2 => ?_)
  · skip
    try simp only [N3] at hc2
    try simp only [hc2, C5] at h
    have hi1 := of_decide_eq_true hc2
    obtain ⟨x1, xs1, hx1⟩ := drop_ex (l := l) (i := i1) (by omega)
    obtain ⟨ha1, hb1, hd1⟩ := drop_cons hx1
    rw [hx1] at h
    simp only [foldX, knowU, wadd, wsub] at h
    obtain ⟨r1, h, g1⟩ := bindX_some h
    have hn1 := cast_nonneg i1
    have hw1 := wrap_succ (n := i1) (by omega)
    refine Runs.skip ?_
    refine Runs.seq ?_
    refine Runs.block ?_
    refine Runs.seq ?_
    refine Runs.reg (by simp only [go_sem, seval, outX, long7, L7, V.isAgg, capsOf, ha1, hn1, hw1, hc2]; rfl) (by simp only [L7, go_sem, seval]; rfl) ?_
    refine Runs.seq ?_
    refine Runs.reg (by simp only [go_sem, seval, outX, long7, L7, V.isAgg, capsOf, ha1, hn1, hw1, hc2]; rfl) (by simp only [L7, go_sem, seval]; rfl) ?_
    refine Runs.cond (t := 21) rfl (fun hc3 => ?_) (fun hc3 => ?_)
    · skip
      try simp only [N3] at hc3
      try simp only [hc3, C5] at h
      obtain ⟨r4, h4, h⟩ := bindX_some h
      have w4 := W16 h4
      rcases r4 with ⟨u4, m4⟩ | ⟨c4, z4, m4⟩
      rotate_left
      · try dsimp only [outX, outRow, outU] at w4
        subst h
        dsimp only at g1
        subst g1
        dsimp only at hk1
        subst hk1
        refine Runs.region_pan (by simp only [go_sem, seval, outX, long7, L7, V.isAgg, capsOf, ha1, hn1, hw1, w4, hc2, hc3]; rfl) ?_
        exact ⟨rfl, rfl, rfl, _, rfl⟩
      try dsimp only [outX, outRow, outU] at w4
      dsimp only at h
      refine Runs.reg (by simp only [go_sem, seval, outX, long7, L7, V.isAgg, capsOf, ha1, hn1, hw1, w4, hc2, hc3]; rfl) (by simp only [L7, go_sem, seval]; rfl) ?_
      refine Runs.reg (by simp only [go_sem, seval, outX, long7, L7, V.isAgg, capsOf, ha1, hn1, hw1, hc2, hc3]; rfl) (by simp only [L7, go_sem, seval]; rfl) ?_
      cases h
      dsimp only at g1
      rw [← hd1] at g1
      refine ⟨m1 - 1, by omega, _, _, by simp only [go_sem, seval, outX, long7, L7, V.isAgg, capsOf, ha1, hn1, hw1]; try rfl, i1 + 1, _, g1, by omega, rfl, rfl⟩
    try simp only [N3] at hc3
    try simp only [hc3, C5] at h
    refine Runs.skip ?_
    refine Runs.reg (by simp only [go_sem, seval, outX, long7, L7, V.isAgg, capsOf, ha1, hn1, hw1, hc2, hc3]; rfl) (by simp only [L7, go_sem, seval]; rfl) ?_
    cases h
    dsimp only at g1
    rw [← hd1] at g1
    refine ⟨m1 - 1, by omega, _, _, by simp only [go_sem, seval, outX, long7, L7, V.isAgg, capsOf, ha1, hn1, hw1]; try rfl, i1 + 1, _, g1, by omega, rfl, rfl⟩
  try simp only [N3] at hc2
  try simp only [hc2, C5] at h
  have hi1 := of_decide_eq_false hc2
  rw [List.drop_eq_nil_of_le (by omega)] at h
  simp only [foldX, knowU, wadd, wsub] at h
  refine Runs.exit ?_
  cases h
  have h := hk1
  try dsimp only at h
  try simp only [hc2, cond_true, cond_false] at h
  refine Runs.seq ?_
  refine Runs.reg (by simp only [go_sem, seval, outX, long7, L7, V.isAgg, capsOf, hc2]; rfl) (by simp only [L7, go_sem, seval]; rfl) ?_
  refine Runs.block ?_
  refine Runs.loop_rel (m := (l).length) (fun mz_ en hp => ∃ (i : Nat) (k : List Uni) (m : MS), foldX (unitX n) (List.drop i (l)) k m = some r ∧ mz_ + i = (l).length ∧ en = [(2, .c (.ptr 0 0)), (3, .c (.ptr 1 0)), (4, .c (.ptr 2 0)), (26, slV uniD l), (27, iI (l.length : Int)), (28, .c (.d (.int .i64 (i : Int))))] ∧ hp = [.box [.row 3], box26, mBox7 m, .row 46 21 k.length (rowC uniD k), mMap m]) ?_ ⟨0, _, _, h, rfl, (by first | rfl | (simp only [go_sem, seval, outX, long7, L7, V.isAgg, capsOf]; done) | (simp only [go_sem, seval, outX, long7, L7, V.isAgg, capsOf]; rfl)), (by first | rfl | (simp only [go_sem, seval, outX, long7, L7, V.isAgg, capsOf]; done) | (simp only [go_sem, seval, outX, long7, L7, V.isAgg, capsOf]; rfl))⟩
  clear h
  rintro m5 en hp ⟨i5, k_, m_, h, hm5, rfl, rfl⟩
  refine Runs.seq ?_
  refine Runs.reg (by simp only [go_sem, seval, outX, long7, L7, V.isAgg, capsOf]; rfl) (by simp only [L7, go_sem, seval]; rfl) ?_
  refine Runs.seq ?_
  refine Runs.cond (t := 29) rfl (fun hc6 => ?_) (fun hc6 => ?_)
  · skip
    try simp only [N3] at hc6
    try simp only [hc6, C5] at h
    have hi5 := of_decide_eq_true hc6
    obtain ⟨x5, xs5, hx5⟩ := drop_ex (l := l) (i := i5) (by omega)
    obtain ⟨ha5, hb5, hd5⟩ := drop_cons hx5
    rw [hx5] at h
    simp only [foldX, unitX, uniX, addX, wadd, wsub] at h
    obtain ⟨r5, h, g5⟩ := bindX_some h
    have hn5 := cast_nonneg i5
    have hw5 := wrap_succ (n := i5) (by omega)
    refine Runs.skip ?_
    refine Runs.seq ?_
    refine Runs.block ?_
    refine Runs.seq ?_
    refine Runs.reg (by simp only [go_sem, seval, outX, long7, L7, V.isAgg, capsOf, ha5, hn5, hw5, hc6]; rfl) (by simp only [L7, go_sem, seval]; rfl) ?_
    refine Runs.seq ?_
    refine Runs.seq ?_
    refine Runs.reg (by simp only [go_sem, seval, outX, long7, L7, V.isAgg, capsOf, ha5, hn5, hw5, hc6]; rfl) (by simp only [L7, go_sem, seval]; rfl) ?_
    refine Runs.block ?_
    refine Runs.seq ?_
    refine Runs.reg (by simp only [go_sem, seval, outX, long7, L7, V.isAgg, capsOf, ha5, hn5, hw5, hc6]; rfl) (by simp only [L7, go_sem, seval]; rfl) ?_
    refine Runs.cond (t := 34) rfl (fun hc7 => ?_) (fun hc7 => ?_)
    · skip
      try simp only [N3] at hc7
      try simp only [hc7, C5] at h
      refine Runs.exit ?_
      refine Runs.reg (by simp only [go_sem, seval, outX, long7, L7, V.isAgg, capsOf, ha5, hn5, hw5, hc6, hc7]; rfl) (by simp only [L7, go_sem, seval]; rfl) ?_
      cases h
      dsimp only at g5
      rw [← hd5] at g5
      refine ⟨m5 - 1, by omega, _, _, by simp only [go_sem, seval, outX, long7, L7, V.isAgg, capsOf, ha5, hn5, hw5]; try rfl, i5 + 1, _, _, g5, by omega, rfl, rfl⟩
    try simp only [N3] at hc7
    try simp only [hc7, C5] at h
    refine Runs.seq ?_
    refine Runs.seq ?_
    refine Runs.reg (by simp only [go_sem, seval, outX, long7, L7, V.isAgg, capsOf, ha5, hn5, hw5, hc6, hc7]; rfl) (by simp only [L7, go_sem, seval]; rfl) ?_
    refine Runs.cond (t := 36) rfl (fun hc8 => ?_) (fun hc8 => ?_)
    · skip
      try simp only [N3] at hc8
      try simp only [hc8, C5] at h
      refine Runs.skip ?_
      refine Runs.cond (t := 36) rfl (fun hc9 => ?_) (fun hc9 => ?_)
      rotate_left
      · exact absurd hc9 (by first | decide | (simp only [hc6, hc7, hc8]; decide))
      try simp only [N3] at hc9
      try simp only [hc9, C5] at h
      obtain ⟨r10, h10, h⟩ := bindX_some h
      have w10 := st.e17 h10
      try simp only [scV, sc0, List.map_nil] at w10
      rcases r10 with ⟨l10, m10⟩ | ⟨c10, z10, m10⟩
      rotate_left
      · try dsimp only [outX, outRow, outU] at w10
        subst h
        dsimp only at g5
        subst g5
        refine Runs.region_pan (by simp only [go_sem, seval, outX, long7, L7, V.isAgg, capsOf, ha5, hn5, hw5, w10, hc6, hc7, hc8]; rfl) ?_
        exact ⟨rfl, rfl, rfl, _, rfl⟩
      try dsimp only [outX, outRow, outU] at w10
      dsimp only at h
      refine Runs.reg (by simp only [go_sem, seval, outX, long7, L7, V.isAgg, capsOf, ha5, hn5, hw5, w10, hc6, hc7, hc8]; rfl) (by simp only [L7, go_sem, seval]; rfl) ?_
      obtain ⟨y11, h11, h⟩ := some_bind h
      obtain ⟨le11, rfl⟩ := appP_some h11
      try simp only [List.length_set, List.length_map, List.length_append, List.length_cons, List.length_nil, seval] at le11
      try dsimp only at h
      refine Runs.reg (by simp only [go_sem, seval, outX, long7, L7, V.isAgg, capsOf, ha5, hn5, hw5, le11, hc6, hc7, hc8]; rfl) (by simp only [L7, go_sem, seval]; rfl) ?_
      refine Runs.reg (by simp only [go_sem, seval, outX, long7, L7, V.isAgg, capsOf, ha5, hn5, hw5, hc6, hc7, hc8]; rfl) (by simp only [L7, go_sem, seval]; rfl) ?_
      cases h
      dsimp only at g5
      rw [← hd5] at g5
      refine ⟨m5 - 1, by omega, _, _, by simp only [go_sem, seval, outX, long7, L7, V.isAgg, capsOf, ha5, hn5, hw5]; try rfl, i5 + 1, _, _, g5, by omega, rfl, rfl⟩
    try simp only [N3] at hc8
    try simp only [hc8, C5] at h
    refine Runs.seq ?_
    refine Runs.reg (by simp only [go_sem, seval, outX, long7, L7, V.isAgg, capsOf, ha5, hn5, hw5, hc6, hc7, hc8]; rfl) (by simp only [L7, go_sem, seval]; rfl) ?_
    refine Runs.cond (t := 36) rfl (fun hc12 => ?_) (fun hc12 => ?_)
    · skip
      try simp only [N3] at hc12
      try simp only [hc12, C5] at h
      refine Runs.skip ?_
      refine Runs.cond (t := 36) rfl (fun hc13 => ?_) (fun hc13 => ?_)
      rotate_left
      · exact absurd hc13 (by first | decide | (simp only [hc6, hc7, hc8, hc12]; decide))
      try simp only [N3] at hc13
      try simp only [hc13, C5] at h
      obtain ⟨r14, h14, h⟩ := bindX_some h
      have w14 := st.e17 h14
      try simp only [scV, sc0, List.map_nil] at w14
      rcases r14 with ⟨l14, m14⟩ | ⟨c14, z14, m14⟩
      rotate_left
      · try dsimp only [outX, outRow, outU] at w14
        subst h
        dsimp only at g5
        subst g5
        refine Runs.region_pan (by simp only [go_sem, seval, outX, long7, L7, V.isAgg, capsOf, ha5, hn5, hw5, w14, hc6, hc7, hc8, hc12]; rfl) ?_
        exact ⟨rfl, rfl, rfl, _, rfl⟩
      try dsimp only [outX, outRow, outU] at w14
      dsimp only at h
      refine Runs.reg (by simp only [go_sem, seval, outX, long7, L7, V.isAgg, capsOf, ha5, hn5, hw5, w14, hc6, hc7, hc8, hc12]; rfl) (by simp only [L7, go_sem, seval]; rfl) ?_
      obtain ⟨y15, h15, h⟩ := some_bind h
      obtain ⟨le15, rfl⟩ := appP_some h15
      try simp only [List.length_set, List.length_map, List.length_append, List.length_cons, List.length_nil, seval] at le15
      try dsimp only at h
      refine Runs.reg (by simp only [go_sem, seval, outX, long7, L7, V.isAgg, capsOf, ha5, hn5, hw5, le15, hc6, hc7, hc8, hc12]; rfl) (by simp only [L7, go_sem, seval]; rfl) ?_
      refine Runs.reg (by simp only [go_sem, seval, outX, long7, L7, V.isAgg, capsOf, ha5, hn5, hw5, hc6, hc7, hc8, hc12]; rfl) (by simp only [L7, go_sem, seval]; rfl) ?_
      cases h
      dsimp only at g5
      rw [← hd5] at g5
      refine ⟨m5 - 1, by omega, _, _, by simp only [go_sem, seval, outX, long7, L7, V.isAgg, capsOf, ha5, hn5, hw5]; try rfl, i5 + 1, _, _, g5, by omega, rfl, rfl⟩
    try simp only [N3] at hc12
    try simp only [hc12, C5] at h
    refine Runs.reg (by simp only [go_sem, seval, outX, long7, L7, V.isAgg, capsOf, ha5, hn5, hw5, hc6, hc7, hc8, hc12]; rfl) (by simp only [L7, go_sem, seval]; rfl) ?_
    refine Runs.cond (t := 36) rfl (fun hc16 => ?_) (fun hc16 => ?_)
    · skip
      try simp only [N3] at hc16
      try simp only [hc16, C5] at h
      obtain ⟨r17, h17, h⟩ := bindX_some h
      have w17 := st.e17 h17
      try simp only [scV, sc0, List.map_nil] at w17
      rcases r17 with ⟨l17, m17⟩ | ⟨c17, z17, m17⟩
      rotate_left
      · try dsimp only [outX, outRow, outU] at w17
        subst h
        dsimp only at g5
        subst g5
        refine Runs.region_pan (by simp only [go_sem, seval, outX, long7, L7, V.isAgg, capsOf, ha5, hn5, hw5, w17, hc6, hc7, hc8, hc12, hc16]; rfl) ?_
        exact ⟨rfl, rfl, rfl, _, rfl⟩
      try dsimp only [outX, outRow, outU] at w17
      dsimp only at h
      refine Runs.reg (by simp only [go_sem, seval, outX, long7, L7, V.isAgg, capsOf, ha5, hn5, hw5, w17, hc6, hc7, hc8, hc12, hc16]; rfl) (by simp only [L7, go_sem, seval]; rfl) ?_
      obtain ⟨y18, h18, h⟩ := some_bind h
      obtain ⟨le18, rfl⟩ := appP_some h18
      try simp only [List.length_set, List.length_map, List.length_append, List.length_cons, List.length_nil, seval] at le18
      try dsimp only at h
      refine Runs.reg (by simp only [go_sem, seval, outX, long7, L7, V.isAgg, capsOf, ha5, hn5, hw5, le18, hc6, hc7, hc8, hc12, hc16]; rfl) (by simp only [L7, go_sem, seval]; rfl) ?_
      refine Runs.reg (by simp only [go_sem, seval, outX, long7, L7, V.isAgg, capsOf, ha5, hn5, hw5, hc6, hc7, hc8, hc12, hc16]; rfl) (by simp only [L7, go_sem, seval]; rfl) ?_
      cases h
      dsimp only at g5
      rw [← hd5] at g5
      refine ⟨m5 - 1, by omega, _, _, by simp only [go_sem, seval, outX, long7, L7, V.isAgg, capsOf, ha5, hn5, hw5]; try rfl, i5 + 1, _, _, g5, by omega, rfl, rfl⟩
    try simp only [N3] at hc16
    try simp only [hc16, C5] at h
    refine Runs.skip ?_
    obtain ⟨y19, h19, h⟩ := some_bind h
    obtain ⟨le19, rfl⟩ := appP_some h19
    try simp only [List.length_set, List.length_map, List.length_append, List.length_cons, List.length_nil, seval] at le19
    try dsimp only at h
    refine Runs.reg (by simp only [go_sem, seval, outX, long7, L7, V.isAgg, capsOf, ha5, hn5, hw5, le19, hc6, hc7, hc8, hc12, hc16]; rfl) (by simp only [L7, go_sem, seval]; rfl) ?_
    refine Runs.reg (by simp only [go_sem, seval, outX, long7, L7, V.isAgg, capsOf, ha5, hn5, hw5, hc6, hc7, hc8, hc12, hc16]; rfl) (by simp only [L7, go_sem, seval]; rfl) ?_
    cases h
    dsimp only at g5
    rw [← hd5] at g5
    refine ⟨m5 - 1, by omega, _, _, by simp only [go_sem, seval, outX, long7, L7, V.isAgg, capsOf, ha5, hn5, hw5]; try rfl, i5 + 1, _, _, g5, by omega, rfl, rfl⟩
  try simp only [N3] at hc6
  try simp only [hc6, C5] at h
  have hi5 := of_decide_eq_false hc6
  rw [List.drop_eq_nil_of_le (by omega)] at h
  simp only [foldX, unitX, uniX, addX, wadd, wsub] at h
  refine Runs.exit ?_
  cases h
  exact ⟨rfl, rfl, rfl, rfl⟩
end Go.Proofs.YtmkacifjegnehaaDoor
