import Derived.Test.YtmkacifjegnehaaDoorM7
namespace Go.Proofs.YtmkacifjegnehaaDoor
open Go Go.Proofs Go.Proofs.YtmkacifjegnehaaDoor.Ab
set_option linter.unusedSimpArgs false
set_option linter.unusedVariables false
set_option maxRecDepth 10000
set_option maxHeartbeats 8000000
abbrev uBox (u : Uni) : O := .box [.d (.int .i64 u.kind), .d (.int .i64 u.pos), .d (.str u.name), .d (.str u.text), .d (.sl (u.names.map strD)), .d (.bo u.active), .d (.int .i64 u.count.kind), .d (.int .i64 u.count.n), .d (.str u.count.name), .d (.str u.count.label), .d (.sl (u.count.ref.names.map strD)), .d (.sl (u.count.ref.index.map astD)), .d (.sl (u.count.ref.has.map boD)), .d (.sl (u.count.kids.map astD)), .d (.sl (u.count.args.map argD)), .d (.int .i64 u.decl.type), .d (.str u.decl.named), .d (.sl (u.decl.vars.map dvarD)), .d (.int .i64 u.decl.pos), .d (.sl (u.decls.map declD)), .d (.sl (u.body.map stmtD))]
def proc2 (n : Nat) (u : Uni) (p : PS) : Option (Uni × PS) := (needP p [112, 114, 111, 99, 116, 121, 112, 101]).bind fun p => (idP p).bind fun (w, p) => (needP p [40]).bind fun p => (seesP p 0 [41]).bind fun b => cond b ((needP p [41]).bind fun p => (bodyP n p).bind fun (l, p) => some ({ u with name := w, body := l }, p)) ((declsP n p [41]).bind fun (d, p) => (needP p [41]).bind fun p => (bodyP n p).bind fun (l, p) => some ({ u with name := w, decls := d, body := l }, p))
def procP (n : Nat) (p : PS) (u : Uni) : Option (Uni × PS) := (takeP p [97, 99, 116, 105, 118, 101]).bind fun (a, p) => cond a ((takeP p [91]).bind fun (m, p) => cond m ((exprP n p 0).bind fun (e, p) => (needP p [93]).bind fun p => proc2 n { u with kind := 4, active := true, count := e } p) (proc2 n { u with kind := 4, active := true, count := { ast0 with kind := 1, n := 1 } } p)) (proc2 n { u with kind := 4, active := false } p)
def ltlB (fr : Int) (x : PS × Int × Uni) : Option ((PS × Int × Uni) ⊕ (Uni × PS)) := cond (okP x.1) (cond (decide ((x.1.l.length : Int) ≤ x.1.pos)) ((wrongP x.1).bind fun p => some (.inl (p, x.2.1, x.2.2))) ((takeP x.1 [123]).bind fun (b, p) => cond b (some (.inl (p, wadd x.2.1 1, x.2.2))) ((takeP p [125]).bind fun (b, p) => cond b (cond (wsub x.2.1 1 == 0) ((getP p.l (wsub p.pos 1)).bind fun t => (subP p.s fr t.pos).bind fun y => some (.inr ({ x.2.2 with text := y }, p))) (some (.inl (p, wsub x.2.1 1, x.2.2)))) (some (.inl (incBy p 1, x.2.1, x.2.2)))))) (some (.inr (x.2.2, x.1)))
def ltl2 (u : Uni) (p : PS) : Option (Uni × PS) := (needP p [123]).bind fun p => cond (okP p) ((getP p.l (wsub p.pos 1)).bind fun t => loopO (ltlB (wadd t.pos 1)) (fuelP p) (p, 1, u)) (some (u, p))
def ltlP (p : PS) (u : Uni) : Option (Uni × PS) := (kindP p 0).bind fun k => cond (k == 1) ((idP p).bind fun (w, p) => ltl2 { u with kind := 8, name := w } p) (ltl2 { u with kind := 8 } p)
def mtyQ (p : PS) : Option Bool := (seesP p 0 [109, 116, 121, 112, 101]).bind fun a => cond a ((seesP p 1 [61]).bind fun b => cond b (some true) (seesP p 1 [123])) (some false)
def procQ (n : Nat) (u : Uni) (p : PS) : Option (Uni × PS) := (procP n p u).bind fun (u, p) => some (u, p)
def bodQ (n : Nat) (k : Int) (u : Uni) (p : PS) : Option (Uni × PS) := (bodyP n p).bind fun (l, p) => some ({ u with kind := k, body := l }, p)
def inlQ (n : Nat) (u : Uni) (p : PS) : Option (Uni × PS) := (idP p).bind fun (w, p) => (needP p [40]).bind fun p => (seesP p 0 [41]).bind fun b => cond b ((needP p [41]).bind fun p => (bodyP n p).bind fun (l, p) => some ({ u with kind := 7, name := w, body := l }, p)) ((namesP p).bind fun (s, p) => (needP p [41]).bind fun p => (bodyP n p).bind fun (l, p) => some ({ u with kind := 7, name := w, names := s, body := l }, p))
def uQ (w : Bytes) (p : PS) (f g : PS → Option (Uni × PS)) : Option (Uni × PS) := (takeP p w).bind fun (b, p) => cond b (f p) (g p)
def unitP (n : Nat) (p : PS) : Option (Uni × PS) := (placeP p).bind fun at_ => (mtyQ p).bind fun b => cond b ((takeP (incBy p 1) [61]).bind fun (_, p) => (needP p [123]).bind fun p => (namesP p).bind fun (l, p) => (needP p [125]).bind fun p => some ({ uni0 with pos := at_, kind := 1, names := l }, p)) (
  uQ [116, 121, 112, 101, 100, 101, 102] p (fun p => (idP p).bind fun (w, p) => (needP p [123]).bind fun p => (declsP n p [125]).bind fun (l, p) => (needP p [125]).bind fun p => some ({ uni0 with pos := at_, kind := 3, name := w, decls := l }, p)) fun p =>
  (seesP p 0 [97, 99, 116, 105, 118, 101]).bind fun b => cond b (procQ n { uni0 with pos := at_ } p) ((seesP p 0 [112, 114, 111, 99, 116, 121, 112, 101]).bind fun b => cond b (procQ n { uni0 with pos := at_ } p) (
  uQ [105, 110, 105, 116] p (bodQ n 5 { uni0 with pos := at_ }) fun p => uQ [110, 101, 118, 101, 114] p (bodQ n 6 { uni0 with pos := at_ }) fun p => uQ [105, 110, 108, 105, 110, 101] p (inlQ n { uni0 with pos := at_ }) fun p =>
  uQ [108, 116, 108] p (fun p => (ltlP p { uni0 with pos := at_ }).bind fun (u, p) => some (u, p)) fun p => (declP n p).bind fun (d, p) => some ({ uni0 with pos := at_, kind := 2, decl := d }, p))))

theorem W32 {n : Nat} (ie : ExprIH n) (is : StmtIH n) {p q : PS} {u v : Uni} (h : procP n p u = some (v, q)) : callW ip 27 [pV, .c (.ptr 1 0)] [pBox p, uBox u] = some (.ret [], [pBox q, uBox v]) := by
 simp only [procP, proc2, ast0, ref0, wadd, wsub, incBy] at h
 refine callW_runs (fn := Tryd.f27) (L := long27) (nt := 55) (n0 := 2) (T := tab) (rw' := []) (kA := keepA) Tryd.func27 rfl rfl rfl rfl rfl rfl rfl rfl rfl ?_
 refine Runs.seq ?_
 refine Runs.reg (by simp only [go_sem, seval]; rfl) (by simp only [long27, go_sem, seval]; rfl) ?_
 refine Runs.seq ?_
 obtain ⟨⟨b1, q1⟩, h1, h⟩ := some_bind h
 have w1 := W12 _ _ _ _ h1
 try dsimp only at h
 refine Runs.reg (by simp only [go_sem, seval, w1]; rfl) (by simp only [long27, go_sem, seval]; rfl) ?_
 refine Runs.seq ?_
 refine Runs.seq ?_
 refine Runs.reg (by simp only [go_sem, seval]; rfl) (by simp only [long27, go_sem, seval]; rfl) ?_
 refine Runs.cond (t := 16) rfl (fun hc2 => ?_) (fun hc2 => ?_)
 ·
  try simp only [N3] at hc2
  try simp only [hc2, C5] at h
  refine Runs.seq ?_
  refine Runs.reg (by simp only [go_sem, seval, hc2]; rfl) (by simp only [long27, go_sem, seval]; rfl) ?_
  refine Runs.seq ?_
  obtain ⟨⟨b3, q3⟩, h3, h⟩ := some_bind h
  have w3 := W12 _ _ _ _ h3
  try dsimp only at h
  refine Runs.reg (by simp only [go_sem, seval, w3, hc2]; rfl) (by simp only [long27, go_sem, seval]; rfl) ?_
  refine Runs.seq ?_
  refine Runs.reg (by simp only [go_sem, seval, hc2]; rfl) (by simp only [long27, go_sem, seval]; rfl) ?_
  refine Runs.cond (t := 23) rfl (fun hc4 => ?_) (fun hc4 => ?_)
  ·
   try simp only [N3] at hc4
   try simp only [hc4, C5] at h
   refine Runs.seq ?_
   obtain ⟨⟨e5, q5⟩, h5, h⟩ := some_bind h
   have w5 := ie.e57 h5
   try dsimp only at h
   refine Runs.reg (by simp only [go_sem, seval, w5, hc2, hc4]; rfl) (by simp only [long27, go_sem, seval]; rfl) ?_
   obtain ⟨q6, h6, h⟩ := some_bind h
   have w6 := W28 _ _ _ h6
   try dsimp only at h
   refine Runs.reg (by simp only [go_sem, seval, w6, hc2, hc4]; rfl) (by simp only [long27, go_sem, seval]; rfl) ?_
   refine Runs.seq ?_
   obtain ⟨q7, h7, h⟩ := some_bind h
   have w7 := W28 _ _ _ h7
   try dsimp only at h
   refine Runs.reg (by simp only [go_sem, seval, w7, hc2, hc4]; rfl) (by simp only [long27, go_sem, seval]; rfl) ?_
   refine Runs.seq ?_
   obtain ⟨⟨s8, q8⟩, h8, h⟩ := some_bind h
   have w8 := W30 _ _ _ h8
   try dsimp only at h
   refine Runs.reg (by simp only [go_sem, seval, w8, hc2, hc4]; rfl) (by simp only [long27, go_sem, seval]; rfl) ?_
   refine Runs.seq ?_
   obtain ⟨q9, h9, h⟩ := some_bind h
   have w9 := W28 _ _ _ h9
   try dsimp only at h
   refine Runs.reg (by simp only [go_sem, seval, w9, hc2, hc4]; rfl) (by simp only [long27, go_sem, seval]; rfl) ?_
   refine Runs.seq ?_
   refine Runs.seq ?_
   obtain ⟨b10, h10, h⟩ := some_bind h
   have w10 := W25 _ _ _ h10
   try dsimp only at h
   refine Runs.reg (by simp only [go_sem, seval, w10, hc2, hc4]; rfl) (by simp only [long27, go_sem, seval]; rfl) ?_
   refine Runs.cond (t := 42) rfl (fun hc11 => ?_) (fun hc11 => ?_)
   ·
    try simp only [N3] at hc11
    try simp only [hc11, C5] at h
    obtain ⟨⟨l12, q12⟩, h12, h⟩ := some_bind h
    have w12 := W31 ie h12
    try dsimp only at h
    refine Runs.reg (by simp only [go_sem, seval, w12, hc2, hc4, hc11]; rfl) (by simp only [long27, go_sem, seval]; rfl) ?_
    refine Runs.seq ?_
    obtain ⟨q13, h13, h⟩ := some_bind h
    have w13 := W28 _ _ _ h13
    try dsimp only at h
    refine Runs.reg (by simp only [go_sem, seval, w13, hc2, hc4, hc11]; rfl) (by simp only [long27, go_sem, seval]; rfl) ?_
    obtain ⟨⟨l14, q14⟩, h14, h⟩ := some_bind h
    have w14 := is.e33 h14
    try dsimp only at h
    refine Runs.reg (by simp only [go_sem, seval, w14, hc2, hc4, hc11]; rfl) (by simp only [long27, go_sem, seval]; rfl) ?_
    try cases h
    try dsimp only [outX]
    first
    | rfl
    | (exact fkn (res := []) rfl rfl rfl (by simp only [fin1, go_sem, seval, hc2, hc4, hc11]; try rfl))
   try simp only [N3] at hc11
   try simp only [hc11, C5] at h
   refine Runs.skip ?_
   refine Runs.seq ?_
   obtain ⟨q15, h15, h⟩ := some_bind h
   have w15 := W28 _ _ _ h15
   try dsimp only at h
   refine Runs.reg (by simp only [go_sem, seval, w15, hc2, hc4, hc11]; rfl) (by simp only [long27, go_sem, seval]; rfl) ?_
   obtain ⟨⟨l16, q16⟩, h16, h⟩ := some_bind h
   have w16 := is.e33 h16
   try dsimp only at h
   refine Runs.reg (by simp only [go_sem, seval, w16, hc2, hc4, hc11]; rfl) (by simp only [long27, go_sem, seval]; rfl) ?_
   try cases h
   try dsimp only [outX]
   first
   | rfl
   | (exact fkn (res := []) rfl rfl rfl (by simp only [fin1, go_sem, seval, hc2, hc4, hc11]; try rfl))
  try simp only [N3] at hc4
  try simp only [hc4, C5] at h
  refine Runs.skip ?_
  refine Runs.seq ?_
  obtain ⟨q17, h17, h⟩ := some_bind h
  have w17 := W28 _ _ _ h17
  try dsimp only at h
  refine Runs.reg (by simp only [go_sem, seval, w17, hc2, hc4]; rfl) (by simp only [long27, go_sem, seval]; rfl) ?_
  refine Runs.seq ?_
  obtain ⟨⟨s18, q18⟩, h18, h⟩ := some_bind h
  have w18 := W30 _ _ _ h18
  try dsimp only at h
  refine Runs.reg (by simp only [go_sem, seval, w18, hc2, hc4]; rfl) (by simp only [long27, go_sem, seval]; rfl) ?_
  refine Runs.seq ?_
  obtain ⟨q19, h19, h⟩ := some_bind h
  have w19 := W28 _ _ _ h19
  try dsimp only at h
  refine Runs.reg (by simp only [go_sem, seval, w19, hc2, hc4]; rfl) (by simp only [long27, go_sem, seval]; rfl) ?_
  refine Runs.seq ?_
  refine Runs.seq ?_
  obtain ⟨b20, h20, h⟩ := some_bind h
  have w20 := W25 _ _ _ h20
  try dsimp only at h
  refine Runs.reg (by simp only [go_sem, seval, w20, hc2, hc4]; rfl) (by simp only [long27, go_sem, seval]; rfl) ?_
  refine Runs.cond (t := 42) rfl (fun hc21 => ?_) (fun hc21 => ?_)
  ·
   try simp only [N3] at hc21
   try simp only [hc21, C5] at h
   obtain ⟨⟨l22, q22⟩, h22, h⟩ := some_bind h
   have w22 := W31 ie h22
   try dsimp only at h
   refine Runs.reg (by simp only [go_sem, seval, w22, hc2, hc4, hc21]; rfl) (by simp only [long27, go_sem, seval]; rfl) ?_
   refine Runs.seq ?_
   obtain ⟨q23, h23, h⟩ := some_bind h
   have w23 := W28 _ _ _ h23
   try dsimp only at h
   refine Runs.reg (by simp only [go_sem, seval, w23, hc2, hc4, hc21]; rfl) (by simp only [long27, go_sem, seval]; rfl) ?_
   obtain ⟨⟨l24, q24⟩, h24, h⟩ := some_bind h
   have w24 := is.e33 h24
   try dsimp only at h
   refine Runs.reg (by simp only [go_sem, seval, w24, hc2, hc4, hc21]; rfl) (by simp only [long27, go_sem, seval]; rfl) ?_
   try cases h
   try dsimp only [outX]
   first
   | rfl
   | (exact fkn (res := []) rfl rfl rfl (by simp only [fin1, go_sem, seval, hc2, hc4, hc21]; try rfl))
  try simp only [N3] at hc21
  try simp only [hc21, C5] at h
  refine Runs.skip ?_
  refine Runs.seq ?_
  obtain ⟨q25, h25, h⟩ := some_bind h
  have w25 := W28 _ _ _ h25
  try dsimp only at h
  refine Runs.reg (by simp only [go_sem, seval, w25, hc2, hc4, hc21]; rfl) (by simp only [long27, go_sem, seval]; rfl) ?_
  obtain ⟨⟨l26, q26⟩, h26, h⟩ := some_bind h
  have w26 := is.e33 h26
  try dsimp only at h
  refine Runs.reg (by simp only [go_sem, seval, w26, hc2, hc4, hc21]; rfl) (by simp only [long27, go_sem, seval]; rfl) ?_
  try cases h
  try dsimp only [outX]
  first
  | rfl
  | (exact fkn (res := []) rfl rfl rfl (by simp only [fin1, go_sem, seval, hc2, hc4, hc21]; try rfl))
 try simp only [N3] at hc2
 try simp only [hc2, C5] at h
 refine Runs.skip ?_
 refine Runs.seq ?_
 obtain ⟨q27, h27, h⟩ := some_bind h
 have w27 := W28 _ _ _ h27
 try dsimp only at h
 refine Runs.reg (by simp only [go_sem, seval, w27, hc2]; rfl) (by simp only [long27, go_sem, seval]; rfl) ?_
 refine Runs.seq ?_
 obtain ⟨⟨s28, q28⟩, h28, h⟩ := some_bind h
 have w28 := W30 _ _ _ h28
 try dsimp only at h
 refine Runs.reg (by simp only [go_sem, seval, w28, hc2]; rfl) (by simp only [long27, go_sem, seval]; rfl) ?_
 refine Runs.seq ?_
 obtain ⟨q29, h29, h⟩ := some_bind h
 have w29 := W28 _ _ _ h29
 try dsimp only at h
 refine Runs.reg (by simp only [go_sem, seval, w29, hc2]; rfl) (by simp only [long27, go_sem, seval]; rfl) ?_
 refine Runs.seq ?_
 refine Runs.seq ?_
 obtain ⟨b30, h30, h⟩ := some_bind h
 have w30 := W25 _ _ _ h30
 try dsimp only at h
 refine Runs.reg (by simp only [go_sem, seval, w30, hc2]; rfl) (by simp only [long27, go_sem, seval]; rfl) ?_
 refine Runs.cond (t := 42) rfl (fun hc31 => ?_) (fun hc31 => ?_)
 ·
  try simp only [N3] at hc31
  try simp only [hc31, C5] at h
  obtain ⟨⟨l32, q32⟩, h32, h⟩ := some_bind h
  have w32 := W31 ie h32
  try dsimp only at h
  refine Runs.reg (by simp only [go_sem, seval, w32, hc2, hc31]; rfl) (by simp only [long27, go_sem, seval]; rfl) ?_
  refine Runs.seq ?_
  obtain ⟨q33, h33, h⟩ := some_bind h
  have w33 := W28 _ _ _ h33
  try dsimp only at h
  refine Runs.reg (by simp only [go_sem, seval, w33, hc2, hc31]; rfl) (by simp only [long27, go_sem, seval]; rfl) ?_
  obtain ⟨⟨l34, q34⟩, h34, h⟩ := some_bind h
  have w34 := is.e33 h34
  try dsimp only at h
  refine Runs.reg (by simp only [go_sem, seval, w34, hc2, hc31]; rfl) (by simp only [long27, go_sem, seval]; rfl) ?_
  try cases h
  try dsimp only [outX]
  first
  | rfl
  | (exact fkn (res := []) rfl rfl rfl (by simp only [fin1, go_sem, seval, hc2, hc31]; try rfl))
 try simp only [N3] at hc31
 try simp only [hc31, C5] at h
 refine Runs.skip ?_
 refine Runs.seq ?_
 obtain ⟨q35, h35, h⟩ := some_bind h
 have w35 := W28 _ _ _ h35
 try dsimp only at h
 refine Runs.reg (by simp only [go_sem, seval, w35, hc2, hc31]; rfl) (by simp only [long27, go_sem, seval]; rfl) ?_
 obtain ⟨⟨l36, q36⟩, h36, h⟩ := some_bind h
 have w36 := is.e33 h36
 try dsimp only at h
 refine Runs.reg (by simp only [go_sem, seval, w36, hc2, hc31]; rfl) (by simp only [long27, go_sem, seval]; rfl) ?_
 try cases h
 try dsimp only [outX]
 first
 | rfl
 | (exact fkn (res := []) rfl rfl rfl (by simp only [fin1, go_sem, seval, hc2, hc31]; try rfl))
theorem W34 {p q : PS} {u v : Uni} (h : ltlP p u = some (v, q)) : callW ip 29 [pV, .c (.ptr 1 0)] [pBox p, uBox u] = some (.ret [], [pBox q, uBox v]) := by
 simp only [ltlP, ltl2, wadd, wsub, incBy] at h
 refine callW_runs (fn := Tryd.f29) (L := long29) (nt := 90) (n0 := 2) (T := tab) (rw' := []) (kA := keepA) Tryd.func29 rfl rfl rfl rfl rfl rfl rfl rfl rfl ?_
 refine Runs.seq ?_
 refine Runs.reg (by simp only [go_sem, seval]; rfl) (by simp only [long29, go_sem, seval]; rfl) ?_
 refine Runs.seq ?_
 refine Runs.seq ?_
 obtain ⟨k1, h1, h⟩ := some_bind h
 have w1 := W55 _ _ _ h1
 try dsimp only at h
 refine Runs.reg (by simp only [go_sem, seval, w1]; rfl) (by simp only [long29, go_sem, seval]; rfl) ?_
 refine Runs.cond (t := 11) rfl (fun hc2 => ?_) (fun hc2 => ?_)
 ·
  try simp only [N3] at hc2
  try simp only [hc2, C5] at h
  obtain ⟨⟨s3, q3⟩, h3, h⟩ := some_bind h
  have w3 := W30 _ _ _ h3
  try dsimp only at h
  refine Runs.reg (by simp only [go_sem, seval, w3, hc2]; rfl) (by simp only [long29, go_sem, seval]; rfl) ?_
  refine Runs.seq ?_
  obtain ⟨q4, h4, h⟩ := some_bind h
  have w4 := W28 _ _ _ h4
  try dsimp only at h
  refine Runs.reg (by simp only [go_sem, seval, w4, hc2]; rfl) (by simp only [long29, go_sem, seval]; rfl) ?_
  refine Runs.seq ?_
  refine Runs.seq ?_
  refine Runs.reg (by simp only [go_sem, seval, W11, hc2]; rfl) (by simp only [long29, go_sem, seval]; rfl) ?_
  refine Runs.cond (t := 21) rfl (fun hc5 => ?_) (fun hc5 => ?_)
  ·
   try simp only [N3] at hc5
   try simp only [hc5, C5] at h
   refine Runs.ret ?_
   try cases h
   try dsimp only [outX]
   first
   | rfl
   | (exact fk (res := []) rfl rfl rfl (by simp only [fin1, go_sem, seval, hc2, hc5]; try rfl))
  try simp only [N3] at hc5
  try simp only [hc5, C5] at h
  refine Runs.skip ?_
  refine Runs.seq ?_
  obtain ⟨x6, h6, h⟩ := some_bind h
  obtain ⟨ge6, at6⟩ := getP_some h6
  try dsimp only at h
  refine Runs.drw rfl (by simp only [go_sem, seval, ge6, at6, hc2, hc5]; rfl) (by simp only [long29, go_sem, seval]; rfl) ?_
  refine Runs.seq ?_
  refine Runs.reg (by simp only [go_sem, seval, ge6, at6, hc2, hc5]; rfl) (by simp only [long29, go_sem, seval]; rfl) ?_
  refine Runs.block ?_
  generalize hfr_ : IntKind.i64.wrap _ = fr_ at h ⊢
  refine Runs.loop_rel (fun mz_ en hp => ∃ (x : PS × Int × Uni), loopO (ltlB fr_) mz_ x = some (v, q) ∧ en = [(0, pV), (1, .c (.ptr 1 0)), (4, iI fr_), (5, iI x.2.1)] ∧ hp = [.box [.d (.str x.1.s), .d (.sl (x.1.l.map tokD)), .d (.int .i64 x.1.pos), .d (.int .i64 x.1.code), .d (.int .i64 x.1.mat)], .box [.d (.int .i64 x.2.2.kind), .d (.int .i64 x.2.2.pos), .d (.str x.2.2.name), .d (.str x.2.2.text), .d (.sl (x.2.2.names.map strD)), .d (.bo x.2.2.active), .d (.int .i64 x.2.2.count.kind), .d (.int .i64 x.2.2.count.n), .d (.str x.2.2.count.name), .d (.str x.2.2.count.label), .d (.sl (x.2.2.count.ref.names.map strD)), .d (.sl (x.2.2.count.ref.index.map astD)), .d (.sl (x.2.2.count.ref.has.map boD)), .d (.sl (x.2.2.count.kids.map astD)), .d (.sl (x.2.2.count.args.map argD)), .d (.int .i64 x.2.2.decl.type), .d (.str x.2.2.decl.named), .d (.sl (x.2.2.decl.vars.map dvarD)), .d (.int .i64 x.2.2.decl.pos), .d (.sl (x.2.2.decls.map declD)), .d (.sl (x.2.2.body.map stmtD))]]) ?_ ⟨_, h, (by first | rfl | (simp only [go_sem, seval, ge6, at6]; done) | (simp only [go_sem, seval, ge6, at6]; rfl)), (by first | rfl | (simp only [go_sem, seval, ge6, at6]; done) | (simp only [go_sem, seval, ge6, at6]; rfl))⟩
  clear h
  rintro m7 en hp ⟨⟨p1, o1, u1⟩, h, rfl, rfl⟩
  obtain _ | m7 := m7
  · cases h
  simp only [loopO, ltlB, wadd, wsub, incBy] at h
  obtain ⟨r7, h, g7⟩ := some_bind h
  refine Runs.seq ?_
  refine Runs.seq ?_
  refine Runs.reg (by simp only [go_sem, seval, ge6, at6, W11]; rfl) (by simp only [long29, go_sem, seval]; rfl) ?_
  refine Runs.cond (t := 36) rfl (fun hc8 => ?_) (fun hc8 => ?_)
  ·
   try simp only [N3] at hc8
   try simp only [hc8, C5] at h
   refine Runs.skip ?_
   refine Runs.block ?_
   refine Runs.block ?_
   refine Runs.seq ?_
   refine Runs.drw rfl (by simp only [go_sem, seval, ge6, at6, hc8]; rfl) (by simp only [long29, go_sem, seval]; rfl) ?_
   refine Runs.cond (t := 44) rfl (fun hc9 => ?_) (fun hc9 => ?_)
   ·
    try simp only [N3] at hc9
    try simp only [hc9, C5] at h
    obtain ⟨q10, h10, h⟩ := some_bind h
    have w10 := W56 _ _ h10
    try dsimp only at h
    refine Runs.reg (by simp only [go_sem, seval, ge6, at6, w10, hc8, hc9]; rfl) (by simp only [long29, go_sem, seval]; rfl) ?_
    cases h
    refine ⟨m7, Nat.lt_succ_self _, _, _, by simp only [go_sem, seval, ge6, at6]; try rfl, _, g7, rfl, rfl⟩
   try simp only [N3] at hc9
   try simp only [hc9, C5] at h
   refine Runs.seq ?_
   obtain ⟨⟨b11, q11⟩, h11, h⟩ := some_bind h
   have w11 := W12 _ _ _ _ h11
   try dsimp only at h
   refine Runs.reg (by simp only [go_sem, seval, ge6, at6, w11, hc8, hc9]; rfl) (by simp only [long29, go_sem, seval]; rfl) ?_
   refine Runs.cond (t := 57) rfl (fun hc12 => ?_) (fun hc12 => ?_)
   ·
    try simp only [N3] at hc12
    try simp only [hc12, C5] at h
    refine Runs.reg (by simp only [go_sem, seval, ge6, at6, hc8, hc9, hc12]; rfl) (by simp only [long29, go_sem, seval]; rfl) ?_
    cases h
    refine ⟨m7, Nat.lt_succ_self _, _, _, by simp only [go_sem, seval, ge6, at6]; try rfl, _, g7, rfl, rfl⟩
   try simp only [N3] at hc12
   try simp only [hc12, C5] at h
   refine Runs.seq ?_
   obtain ⟨⟨b13, q13⟩, h13, h⟩ := some_bind h
   have w13 := W12 _ _ _ _ h13
   try dsimp only at h
   refine Runs.reg (by simp only [go_sem, seval, ge6, at6, w13, hc8, hc9, hc12]; rfl) (by simp only [long29, go_sem, seval]; rfl) ?_
   refine Runs.cond (t := 62) rfl (fun hc14 => ?_) (fun hc14 => ?_)
   ·
    try simp only [N3] at hc14
    try simp only [hc14, C5] at h
    refine Runs.seq ?_
    refine Runs.reg (by simp only [go_sem, seval, ge6, at6, hc8, hc9, hc12, hc14]; rfl) (by simp only [long29, go_sem, seval]; rfl) ?_
    refine Runs.seq ?_
    refine Runs.reg (by simp only [go_sem, seval, ge6, at6, hc8, hc9, hc12, hc14]; rfl) (by simp only [long29, go_sem, seval]; rfl) ?_
    refine Runs.cond (t := 68) rfl (fun hc15 => ?_) (fun hc15 => ?_)
    ·
     try simp only [N3] at hc15
     try simp only [hc15, C5] at h
     refine Runs.seq ?_
     obtain ⟨x16, h16, h⟩ := some_bind h
     obtain ⟨ge16, at16⟩ := getP_some h16
     try dsimp only at h
     obtain ⟨y17, h17, h⟩ := some_bind h
     obtain ⟨ga17, gb17, gc17, rfl⟩ := subP_some h17
     try dsimp only at h
     refine Runs.drw rfl (by simp only [go_sem, seval, ge6, at6, ge16, at16, ga17, gb17, gc17, hc8, hc9, hc12, hc14, hc15]; rfl) (by simp only [long29, go_sem, seval]; rfl) ?_
     refine Runs.ret ?_
     cases h
     cases g7
     try cases h
     try dsimp only [outX]
     first
     | rfl
     | (exact fk (res := []) rfl rfl rfl (by simp only [fin1, go_sem, seval, ge6, at6, ge16, at16, ga17, gb17, gc17, hc8, hc9, hc12, hc14, hc15]; try rfl))
    try simp only [N3] at hc15
    try simp only [hc15, C5] at h
    refine Runs.skip ?_
    cases h
    refine ⟨m7, Nat.lt_succ_self _, _, _, by simp only [go_sem, seval, ge6, at6]; try rfl, _, g7, rfl, rfl⟩
   try simp only [N3] at hc14
   try simp only [hc14, C5] at h
   refine Runs.reg (by simp only [go_sem, seval, ge6, at6, hc8, hc9, hc12, hc14]; rfl) (by simp only [long29, go_sem, seval]; rfl) ?_
   cases h
   refine ⟨m7, Nat.lt_succ_self _, _, _, by simp only [go_sem, seval, ge6, at6]; try rfl, _, g7, rfl, rfl⟩
  try simp only [N3] at hc8
  try simp only [hc8, C5] at h
  refine Runs.exit ?_
  cases h
  cases g7
  try cases h
  try dsimp only [outX]
  first
  | rfl
  | (exact fkn (res := []) rfl rfl rfl (by simp only [fin1, go_sem, seval, ge6, at6, hc8]; try rfl))
 try simp only [N3] at hc2
 try simp only [hc2, C5] at h
 refine Runs.skip ?_
 refine Runs.seq ?_
 obtain ⟨q18, h18, h⟩ := some_bind h
 have w18 := W28 _ _ _ h18
 try dsimp only at h
 refine Runs.reg (by simp only [go_sem, seval, w18, hc2]; rfl) (by simp only [long29, go_sem, seval]; rfl) ?_
 refine Runs.seq ?_
 refine Runs.seq ?_
 refine Runs.reg (by simp only [go_sem, seval, W11, hc2]; rfl) (by simp only [long29, go_sem, seval]; rfl) ?_
 refine Runs.cond (t := 21) rfl (fun hc19 => ?_) (fun hc19 => ?_)
 ·
  try simp only [N3] at hc19
  try simp only [hc19, C5] at h
  refine Runs.ret ?_
  try cases h
  try dsimp only [outX]
  first
  | rfl
  | (exact fk (res := []) rfl rfl rfl (by simp only [fin1, go_sem, seval, hc2, hc19]; try rfl))
 try simp only [N3] at hc19
 try simp only [hc19, C5] at h
 refine Runs.skip ?_
 refine Runs.seq ?_
 obtain ⟨x20, h20, h⟩ := some_bind h
 obtain ⟨ge20, at20⟩ := getP_some h20
 try dsimp only at h
 refine Runs.drw rfl (by simp only [go_sem, seval, ge20, at20, hc2, hc19]; rfl) (by simp only [long29, go_sem, seval]; rfl) ?_
 refine Runs.seq ?_
 refine Runs.reg (by simp only [go_sem, seval, ge20, at20, hc2, hc19]; rfl) (by simp only [long29, go_sem, seval]; rfl) ?_
 refine Runs.block ?_
 generalize hfr_ : IntKind.i64.wrap _ = fr_ at h ⊢
 refine Runs.loop_rel (fun mz_ en hp => ∃ (x : PS × Int × Uni), loopO (ltlB fr_) mz_ x = some (v, q) ∧ en = [(0, pV), (1, .c (.ptr 1 0)), (4, iI fr_), (5, iI x.2.1)] ∧ hp = [.box [.d (.str x.1.s), .d (.sl (x.1.l.map tokD)), .d (.int .i64 x.1.pos), .d (.int .i64 x.1.code), .d (.int .i64 x.1.mat)], .box [.d (.int .i64 x.2.2.kind), .d (.int .i64 x.2.2.pos), .d (.str x.2.2.name), .d (.str x.2.2.text), .d (.sl (x.2.2.names.map strD)), .d (.bo x.2.2.active), .d (.int .i64 x.2.2.count.kind), .d (.int .i64 x.2.2.count.n), .d (.str x.2.2.count.name), .d (.str x.2.2.count.label), .d (.sl (x.2.2.count.ref.names.map strD)), .d (.sl (x.2.2.count.ref.index.map astD)), .d (.sl (x.2.2.count.ref.has.map boD)), .d (.sl (x.2.2.count.kids.map astD)), .d (.sl (x.2.2.count.args.map argD)), .d (.int .i64 x.2.2.decl.type), .d (.str x.2.2.decl.named), .d (.sl (x.2.2.decl.vars.map dvarD)), .d (.int .i64 x.2.2.decl.pos), .d (.sl (x.2.2.decls.map declD)), .d (.sl (x.2.2.body.map stmtD))]]) ?_ ⟨_, h, (by first | rfl | (simp only [go_sem, seval, ge20, at20]; done) | (simp only [go_sem, seval, ge20, at20]; rfl)), (by first | rfl | (simp only [go_sem, seval, ge20, at20]; done) | (simp only [go_sem, seval, ge20, at20]; rfl))⟩
 clear h
 rintro m21 en hp ⟨⟨p1, o1, u1⟩, h, rfl, rfl⟩
 obtain _ | m21 := m21
 · cases h
 simp only [loopO, ltlB, wadd, wsub, incBy] at h
 obtain ⟨r21, h, g21⟩ := some_bind h
 refine Runs.seq ?_
 refine Runs.seq ?_
 refine Runs.reg (by simp only [go_sem, seval, ge20, at20, W11]; rfl) (by simp only [long29, go_sem, seval]; rfl) ?_
 refine Runs.cond (t := 36) rfl (fun hc22 => ?_) (fun hc22 => ?_)
 ·
  try simp only [N3] at hc22
  try simp only [hc22, C5] at h
  refine Runs.skip ?_
  refine Runs.block ?_
  refine Runs.block ?_
  refine Runs.seq ?_
  refine Runs.drw rfl (by simp only [go_sem, seval, ge20, at20, hc22]; rfl) (by simp only [long29, go_sem, seval]; rfl) ?_
  refine Runs.cond (t := 44) rfl (fun hc23 => ?_) (fun hc23 => ?_)
  ·
   try simp only [N3] at hc23
   try simp only [hc23, C5] at h
   obtain ⟨q24, h24, h⟩ := some_bind h
   have w24 := W56 _ _ h24
   try dsimp only at h
   refine Runs.reg (by simp only [go_sem, seval, ge20, at20, w24, hc22, hc23]; rfl) (by simp only [long29, go_sem, seval]; rfl) ?_
   cases h
   refine ⟨m21, Nat.lt_succ_self _, _, _, by simp only [go_sem, seval, ge20, at20]; try rfl, _, g21, rfl, rfl⟩
  try simp only [N3] at hc23
  try simp only [hc23, C5] at h
  refine Runs.seq ?_
  obtain ⟨⟨b25, q25⟩, h25, h⟩ := some_bind h
  have w25 := W12 _ _ _ _ h25
  try dsimp only at h
  refine Runs.reg (by simp only [go_sem, seval, ge20, at20, w25, hc22, hc23]; rfl) (by simp only [long29, go_sem, seval]; rfl) ?_
  refine Runs.cond (t := 57) rfl (fun hc26 => ?_) (fun hc26 => ?_)
  ·
   try simp only [N3] at hc26
   try simp only [hc26, C5] at h
   refine Runs.reg (by simp only [go_sem, seval, ge20, at20, hc22, hc23, hc26]; rfl) (by simp only [long29, go_sem, seval]; rfl) ?_
   cases h
   refine ⟨m21, Nat.lt_succ_self _, _, _, by simp only [go_sem, seval, ge20, at20]; try rfl, _, g21, rfl, rfl⟩
  try simp only [N3] at hc26
  try simp only [hc26, C5] at h
  refine Runs.seq ?_
  obtain ⟨⟨b27, q27⟩, h27, h⟩ := some_bind h
  have w27 := W12 _ _ _ _ h27
  try dsimp only at h
  refine Runs.reg (by simp only [go_sem, seval, ge20, at20, w27, hc22, hc23, hc26]; rfl) (by simp only [long29, go_sem, seval]; rfl) ?_
  refine Runs.cond (t := 62) rfl (fun hc28 => ?_) (fun hc28 => ?_)
  ·
   try simp only [N3] at hc28
   try simp only [hc28, C5] at h
   refine Runs.seq ?_
   refine Runs.reg (by simp only [go_sem, seval, ge20, at20, hc22, hc23, hc26, hc28]; rfl) (by simp only [long29, go_sem, seval]; rfl) ?_
   refine Runs.seq ?_
   refine Runs.reg (by simp only [go_sem, seval, ge20, at20, hc22, hc23, hc26, hc28]; rfl) (by simp only [long29, go_sem, seval]; rfl) ?_
   refine Runs.cond (t := 68) rfl (fun hc29 => ?_) (fun hc29 => ?_)
   ·
    try simp only [N3] at hc29
    try simp only [hc29, C5] at h
    refine Runs.seq ?_
    obtain ⟨x30, h30, h⟩ := some_bind h
    obtain ⟨ge30, at30⟩ := getP_some h30
    try dsimp only at h
    obtain ⟨y31, h31, h⟩ := some_bind h
    obtain ⟨ga31, gb31, gc31, rfl⟩ := subP_some h31
    try dsimp only at h
    refine Runs.drw rfl (by simp only [go_sem, seval, ge20, at20, ge30, at30, ga31, gb31, gc31, hc22, hc23, hc26, hc28, hc29]; rfl) (by simp only [long29, go_sem, seval]; rfl) ?_
    refine Runs.ret ?_
    cases h
    cases g21
    try cases h
    try dsimp only [outX]
    first
    | rfl
    | (exact fk (res := []) rfl rfl rfl (by simp only [fin1, go_sem, seval, ge20, at20, ge30, at30, ga31, gb31, gc31, hc22, hc23, hc26, hc28, hc29]; try rfl))
   try simp only [N3] at hc29
   try simp only [hc29, C5] at h
   refine Runs.skip ?_
   cases h
   refine ⟨m21, Nat.lt_succ_self _, _, _, by simp only [go_sem, seval, ge20, at20]; try rfl, _, g21, rfl, rfl⟩
  try simp only [N3] at hc28
  try simp only [hc28, C5] at h
  refine Runs.reg (by simp only [go_sem, seval, ge20, at20, hc22, hc23, hc26, hc28]; rfl) (by simp only [long29, go_sem, seval]; rfl) ?_
  cases h
  refine ⟨m21, Nat.lt_succ_self _, _, _, by simp only [go_sem, seval, ge20, at20]; try rfl, _, g21, rfl, rfl⟩
 try simp only [N3] at hc22
 try simp only [hc22, C5] at h
 refine Runs.exit ?_
 cases h
 cases g21
 try cases h
 try dsimp only [outX]
 first
 | rfl
 | (exact fkn (res := []) rfl rfl rfl (by simp only [fin1, go_sem, seval, ge20, at20, hc22]; try rfl))
theorem W13 {n : Nat} (ie : ExprIH n) (is : StmtIH n) {p q : PS} {u : Uni} (h : unitP n p = some (u, q)) : callW ip 12 [pV] [pBox p] = some (.ret [uniV u], [pBox q]) := by
 simp only [unitP, uQ, procQ, bodQ, inlQ, uni0, decl0, ast0, ref0, wadd, wsub, incBy] at h
 refine callW_runs (fn := Tryd.f12) (L := long12) (nt := 102) (n0 := 1) (T := tab) (rw' := []) (kA := keepA) Tryd.func12 rfl rfl rfl rfl rfl rfl rfl rfl rfl ?_
 refine Runs.seq ?_
 refine Runs.reg (by simp only [go_sem, seval]; rfl) (by simp only [long12, go_sem, seval]; rfl) ?_
 refine Runs.seq ?_
 obtain ⟨z1, h1, h⟩ := some_bind h
 have w1 := W26 _ _ h1
 try dsimp only at h
 refine Runs.reg (by simp only [go_sem, seval, w1]; rfl) (by simp only [long12, go_sem, seval]; rfl) ?_
 refine Runs.seq ?_
 refine Runs.reg (by simp only [go_sem, seval]; rfl) (by simp only [long12, go_sem, seval]; rfl) ?_
 refine Runs.seq ?_
 refine Runs.block ?_
 refine Runs.seq ?_
 obtain ⟨b13_, hb13_, h⟩ := some_bind h
 try dsimp only at h
 refine Runs.reg2 (e2 := [(0, pV), (2, .c (.ptr 1 0)), (4, .c (.ptr 2 0)), (13, bI b13_)]) ?_ ?_
 ·
  simp only [mtyQ] at hb13_
  obtain ⟨a_, ha_, hb_⟩ := some_bind hb13_
  have wa_ := W25 _ _ _ ha_
  cases a_ with
  | false => simp only [cond_false] at hb_; cases hb_; exact ⟨_, _, by simp only [go_sem, seval, wa_]; try rfl, by simp only [long12, go_sem, seval]; try rfl⟩
  | true => simp only [cond_true] at hb_; obtain ⟨c_, hc_, hb_⟩ := some_bind hb_; have wc_ := W27 _ _ _ _ hc_; cases c_ with
   | true => simp only [cond_true] at hb_; cases hb_; exact ⟨_, _, by simp only [go_sem, seval, wa_, wc_]; try rfl, by simp only [long12, go_sem, seval]; try rfl⟩
   | false => simp only [cond_false] at hb_; have wd_ := W27 _ _ _ _ hb_; exact ⟨_, _, by simp only [go_sem, seval, wa_, wc_, wd_]; try rfl, by simp only [long12, go_sem, seval]; try rfl⟩
 refine Runs.cond (t := 13) rfl (fun hc2 => ?_) (fun hc2 => ?_)
 ·
  try simp only [N3] at hc2
  try simp only [hc2, C5] at h
  refine Runs.seq ?_
  refine Runs.reg (by simp only [go_sem, seval, hc2]; rfl) (by simp only [long12, go_sem, seval]; rfl) ?_
  refine Runs.seq ?_
  refine Runs.reg (by simp only [go_sem, seval, hc2]; rfl) (by simp only [long12, go_sem, seval]; rfl) ?_
  refine Runs.seq ?_
  obtain ⟨⟨b3, q3⟩, h3, h⟩ := some_bind h
  have w3 := W12 _ _ _ _ h3
  try dsimp only at h
  refine Runs.reg (by simp only [go_sem, seval, w3, hc2]; rfl) (by simp only [long12, go_sem, seval]; rfl) ?_
  refine Runs.seq ?_
  obtain ⟨q4, h4, h⟩ := some_bind h
  have w4 := W28 _ _ _ h4
  try dsimp only at h
  refine Runs.reg (by simp only [go_sem, seval, w4, hc2]; rfl) (by simp only [long12, go_sem, seval]; rfl) ?_
  refine Runs.seq ?_
  obtain ⟨⟨l5, q5⟩, h5, h⟩ := some_bind h
  have w5 := W29 h5
  try dsimp only at h
  refine Runs.reg (by simp only [go_sem, seval, w5, hc2]; rfl) (by simp only [long12, go_sem, seval]; rfl) ?_
  obtain ⟨q6, h6, h⟩ := some_bind h
  have w6 := W28 _ _ _ h6
  try dsimp only at h
  refine Runs.reg (by simp only [go_sem, seval, w6, hc2]; rfl) (by simp only [long12, go_sem, seval]; rfl) ?_
  refine Runs.seq ?_
  refine Runs.reg (by simp only [go_sem, seval, hc2]; rfl) (by simp only [long12, go_sem, seval]; rfl) ?_
  refine Runs.ret ?_
  try cases h
  try dsimp only [outX]
  first
  | rfl
  | (exact fk (res := [.cell 2 46]) rfl rfl rfl (by simp only [fin1, go_sem, seval, hc2]; try rfl))
 try simp only [N3] at hc2
 try simp only [hc2, C5] at h
 refine Runs.seq ?_
 obtain ⟨⟨b7, q7⟩, h7, h⟩ := some_bind h
 have w7 := W12 _ _ _ _ h7
 try dsimp only at h
 refine Runs.reg (by simp only [go_sem, seval, w7, hc2]; rfl) (by simp only [long12, go_sem, seval]; rfl) ?_
 refine Runs.cond (t := 41) rfl (fun hc8 => ?_) (fun hc8 => ?_)
 ·
  try simp only [N3] at hc8
  try simp only [hc8, C5] at h
  refine Runs.seq ?_
  refine Runs.reg (by simp only [go_sem, seval, hc2, hc8]; rfl) (by simp only [long12, go_sem, seval]; rfl) ?_
  refine Runs.seq ?_
  obtain ⟨⟨s9, q9⟩, h9, h⟩ := some_bind h
  have w9 := W30 _ _ _ h9
  try dsimp only at h
  refine Runs.reg (by simp only [go_sem, seval, w9, hc2, hc8]; rfl) (by simp only [long12, go_sem, seval]; rfl) ?_
  refine Runs.seq ?_
  obtain ⟨q10, h10, h⟩ := some_bind h
  have w10 := W28 _ _ _ h10
  try dsimp only at h
  refine Runs.reg (by simp only [go_sem, seval, w10, hc2, hc8]; rfl) (by simp only [long12, go_sem, seval]; rfl) ?_
  refine Runs.seq ?_
  obtain ⟨⟨l11, q11⟩, h11, h⟩ := some_bind h
  have w11 := W31 ie h11
  try dsimp only at h
  refine Runs.reg (by simp only [go_sem, seval, w11, hc2, hc8]; rfl) (by simp only [long12, go_sem, seval]; rfl) ?_
  obtain ⟨q12, h12, h⟩ := some_bind h
  have w12 := W28 _ _ _ h12
  try dsimp only at h
  refine Runs.reg (by simp only [go_sem, seval, w12, hc2, hc8]; rfl) (by simp only [long12, go_sem, seval]; rfl) ?_
  refine Runs.seq ?_
  refine Runs.reg (by simp only [go_sem, seval, hc2, hc8]; rfl) (by simp only [long12, go_sem, seval]; rfl) ?_
  refine Runs.ret ?_
  try cases h
  try dsimp only [outX]
  first
  | rfl
  | (exact fk (res := [.cell 2 46]) rfl rfl rfl (by simp only [fin1, go_sem, seval, hc2, hc8]; try rfl))
 try simp only [N3] at hc8
 try simp only [hc8, C5] at h
 refine Runs.seq ?_
 refine Runs.seq ?_
 obtain ⟨b13, h13, h⟩ := some_bind h
 have w13 := W25 _ _ _ h13
 try dsimp only at h
 refine Runs.reg (by simp only [go_sem, seval, w13, hc2, hc8]; rfl) (by simp only [long12, go_sem, seval]; rfl) ?_
 refine Runs.cond (t := 55) rfl (fun hc14 => ?_) (fun hc14 => ?_)
 ·
  try simp only [N3] at hc14
  try simp only [hc14, C5] at h
  refine Runs.skip ?_
  refine Runs.cond (t := 55) rfl (fun hc15 => ?_) (fun hc15 => ?_)
  rotate_left
  · exact absurd hc15 (by first | decide | (simp only [hc2, hc8, hc14]; decide))
  try simp only [N3] at hc15
  try simp only [hc15, C5] at h
  obtain ⟨⟨u16, q16⟩, h16, h⟩ := some_bind h
  have w16 := W32 ie is h16
  try dsimp only at h
  try simp only [uBox, List.map_nil] at w16
  refine Runs.reg (by simp only [go_sem, seval, w16, hc2, hc8, hc14]; rfl) (by simp only [long12, go_sem, seval]; rfl) ?_
  refine Runs.seq ?_
  refine Runs.reg (by simp only [go_sem, seval, hc2, hc8, hc14]; rfl) (by simp only [long12, go_sem, seval]; rfl) ?_
  refine Runs.ret ?_
  try cases h
  try dsimp only [outX]
  first
  | rfl
  | (exact fk (res := [.cell 2 46]) rfl rfl rfl (by simp only [fin1, go_sem, seval, hc2, hc8, hc14]; try rfl))
 try simp only [N3] at hc14
 try simp only [hc14, C5] at h
 obtain ⟨b17, h17, h⟩ := some_bind h
 have w17 := W25 _ _ _ h17
 try dsimp only at h
 refine Runs.reg (by simp only [go_sem, seval, w17, hc2, hc8, hc14]; rfl) (by simp only [long12, go_sem, seval]; rfl) ?_
 refine Runs.cond (t := 55) rfl (fun hc18 => ?_) (fun hc18 => ?_)
 ·
  try simp only [N3] at hc18
  try simp only [hc18, C5] at h
  obtain ⟨⟨u19, q19⟩, h19, h⟩ := some_bind h
  have w19 := W32 ie is h19
  try dsimp only at h
  try simp only [uBox, List.map_nil] at w19
  refine Runs.reg (by simp only [go_sem, seval, w19, hc2, hc8, hc14, hc18]; rfl) (by simp only [long12, go_sem, seval]; rfl) ?_
  refine Runs.seq ?_
  refine Runs.reg (by simp only [go_sem, seval, hc2, hc8, hc14, hc18]; rfl) (by simp only [long12, go_sem, seval]; rfl) ?_
  refine Runs.ret ?_
  try cases h
  try dsimp only [outX]
  first
  | rfl
  | (exact fk (res := [.cell 2 46]) rfl rfl rfl (by simp only [fin1, go_sem, seval, hc2, hc8, hc14, hc18]; try rfl))
 try simp only [N3] at hc18
 try simp only [hc18, C5] at h
 refine Runs.seq ?_
 obtain ⟨⟨b20, q20⟩, h20, h⟩ := some_bind h
 have w20 := W12 _ _ _ _ h20
 try dsimp only at h
 refine Runs.reg (by simp only [go_sem, seval, w20, hc2, hc8, hc14, hc18]; rfl) (by simp only [long12, go_sem, seval]; rfl) ?_
 refine Runs.cond (t := 62) rfl (fun hc21 => ?_) (fun hc21 => ?_)
 ·
  try simp only [N3] at hc21
  try simp only [hc21, C5] at h
  refine Runs.seq ?_
  refine Runs.reg (by simp only [go_sem, seval, hc2, hc8, hc14, hc18, hc21]; rfl) (by simp only [long12, go_sem, seval]; rfl) ?_
  obtain ⟨⟨l22, q22⟩, h22, h⟩ := some_bind h
  have w22 := is.e33 h22
  try dsimp only at h
  refine Runs.reg (by simp only [go_sem, seval, w22, hc2, hc8, hc14, hc18, hc21]; rfl) (by simp only [long12, go_sem, seval]; rfl) ?_
  refine Runs.seq ?_
  refine Runs.reg (by simp only [go_sem, seval, hc2, hc8, hc14, hc18, hc21]; rfl) (by simp only [long12, go_sem, seval]; rfl) ?_
  refine Runs.ret ?_
  try cases h
  try dsimp only [outX]
  first
  | rfl
  | (exact fk (res := [.cell 2 46]) rfl rfl rfl (by simp only [fin1, go_sem, seval, hc2, hc8, hc14, hc18, hc21]; try rfl))
 try simp only [N3] at hc21
 try simp only [hc21, C5] at h
 refine Runs.seq ?_
 obtain ⟨⟨b23, q23⟩, h23, h⟩ := some_bind h
 have w23 := W12 _ _ _ _ h23
 try dsimp only at h
 refine Runs.reg (by simp only [go_sem, seval, w23, hc2, hc8, hc14, hc18, hc21]; rfl) (by simp only [long12, go_sem, seval]; rfl) ?_
 refine Runs.cond (t := 69) rfl (fun hc24 => ?_) (fun hc24 => ?_)
 ·
  try simp only [N3] at hc24
  try simp only [hc24, C5] at h
  refine Runs.seq ?_
  refine Runs.reg (by simp only [go_sem, seval, hc2, hc8, hc14, hc18, hc21, hc24]; rfl) (by simp only [long12, go_sem, seval]; rfl) ?_
  obtain ⟨⟨l25, q25⟩, h25, h⟩ := some_bind h
  have w25 := is.e33 h25
  try dsimp only at h
  refine Runs.reg (by simp only [go_sem, seval, w25, hc2, hc8, hc14, hc18, hc21, hc24]; rfl) (by simp only [long12, go_sem, seval]; rfl) ?_
  refine Runs.seq ?_
  refine Runs.reg (by simp only [go_sem, seval, hc2, hc8, hc14, hc18, hc21, hc24]; rfl) (by simp only [long12, go_sem, seval]; rfl) ?_
  refine Runs.ret ?_
  try cases h
  try dsimp only [outX]
  first
  | rfl
  | (exact fk (res := [.cell 2 46]) rfl rfl rfl (by simp only [fin1, go_sem, seval, hc2, hc8, hc14, hc18, hc21, hc24]; try rfl))
 try simp only [N3] at hc24
 try simp only [hc24, C5] at h
 refine Runs.seq ?_
 obtain ⟨⟨b26, q26⟩, h26, h⟩ := some_bind h
 have w26 := W12 _ _ _ _ h26
 try dsimp only at h
 refine Runs.reg (by simp only [go_sem, seval, w26, hc2, hc8, hc14, hc18, hc21, hc24]; rfl) (by simp only [long12, go_sem, seval]; rfl) ?_
 refine Runs.cond (t := 76) rfl (fun hc27 => ?_) (fun hc27 => ?_)
 ·
  try simp only [N3] at hc27
  try simp only [hc27, C5] at h
  refine Runs.seq ?_
  refine Runs.reg (by simp only [go_sem, seval, hc2, hc8, hc14, hc18, hc21, hc24, hc27]; rfl) (by simp only [long12, go_sem, seval]; rfl) ?_
  refine Runs.seq ?_
  obtain ⟨⟨s28, q28⟩, h28, h⟩ := some_bind h
  have w28 := W30 _ _ _ h28
  try dsimp only at h
  refine Runs.reg (by simp only [go_sem, seval, w28, hc2, hc8, hc14, hc18, hc21, hc24, hc27]; rfl) (by simp only [long12, go_sem, seval]; rfl) ?_
  refine Runs.seq ?_
  obtain ⟨q29, h29, h⟩ := some_bind h
  have w29 := W28 _ _ _ h29
  try dsimp only at h
  refine Runs.reg (by simp only [go_sem, seval, w29, hc2, hc8, hc14, hc18, hc21, hc24, hc27]; rfl) (by simp only [long12, go_sem, seval]; rfl) ?_
  refine Runs.seq ?_
  refine Runs.seq ?_
  obtain ⟨b30, h30, h⟩ := some_bind h
  have w30 := W25 _ _ _ h30
  try dsimp only at h
  refine Runs.reg (by simp only [go_sem, seval, w30, hc2, hc8, hc14, hc18, hc21, hc24, hc27]; rfl) (by simp only [long12, go_sem, seval]; rfl) ?_
  refine Runs.cond (t := 87) rfl (fun hc31 => ?_) (fun hc31 => ?_)
  ·
   try simp only [N3] at hc31
   try simp only [hc31, C5] at h
   obtain ⟨⟨l32, q32⟩, h32, h⟩ := some_bind h
   have w32 := W29 h32
   try dsimp only at h
   refine Runs.reg (by simp only [go_sem, seval, w32, hc2, hc8, hc14, hc18, hc21, hc24, hc27, hc31]; rfl) (by simp only [long12, go_sem, seval]; rfl) ?_
   refine Runs.seq ?_
   obtain ⟨q33, h33, h⟩ := some_bind h
   have w33 := W28 _ _ _ h33
   try dsimp only at h
   refine Runs.reg (by simp only [go_sem, seval, w33, hc2, hc8, hc14, hc18, hc21, hc24, hc27, hc31]; rfl) (by simp only [long12, go_sem, seval]; rfl) ?_
   obtain ⟨⟨l34, q34⟩, h34, h⟩ := some_bind h
   have w34 := is.e33 h34
   try dsimp only at h
   refine Runs.reg (by simp only [go_sem, seval, w34, hc2, hc8, hc14, hc18, hc21, hc24, hc27, hc31]; rfl) (by simp only [long12, go_sem, seval]; rfl) ?_
   refine Runs.seq ?_
   refine Runs.reg (by simp only [go_sem, seval, hc2, hc8, hc14, hc18, hc21, hc24, hc27, hc31]; rfl) (by simp only [long12, go_sem, seval]; rfl) ?_
   refine Runs.ret ?_
   try cases h
   try dsimp only [outX]
   first
   | rfl
   | (exact fk (res := [.cell 2 46]) rfl rfl rfl (by simp only [fin1, go_sem, seval, hc2, hc8, hc14, hc18, hc21, hc24, hc27, hc31]; try rfl))
  try simp only [N3] at hc31
  try simp only [hc31, C5] at h
  refine Runs.skip ?_
  refine Runs.seq ?_
  obtain ⟨q35, h35, h⟩ := some_bind h
  have w35 := W28 _ _ _ h35
  try dsimp only at h
  refine Runs.reg (by simp only [go_sem, seval, w35, hc2, hc8, hc14, hc18, hc21, hc24, hc27, hc31]; rfl) (by simp only [long12, go_sem, seval]; rfl) ?_
  obtain ⟨⟨l36, q36⟩, h36, h⟩ := some_bind h
  have w36 := is.e33 h36
  try dsimp only at h
  refine Runs.reg (by simp only [go_sem, seval, w36, hc2, hc8, hc14, hc18, hc21, hc24, hc27, hc31]; rfl) (by simp only [long12, go_sem, seval]; rfl) ?_
  refine Runs.seq ?_
  refine Runs.reg (by simp only [go_sem, seval, hc2, hc8, hc14, hc18, hc21, hc24, hc27, hc31]; rfl) (by simp only [long12, go_sem, seval]; rfl) ?_
  refine Runs.ret ?_
  try cases h
  try dsimp only [outX]
  first
  | rfl
  | (exact fk (res := [.cell 2 46]) rfl rfl rfl (by simp only [fin1, go_sem, seval, hc2, hc8, hc14, hc18, hc21, hc24, hc27, hc31]; try rfl))
 try simp only [N3] at hc27
 try simp only [hc27, C5] at h
 refine Runs.seq ?_
 obtain ⟨⟨b37, q37⟩, h37, h⟩ := some_bind h
 have w37 := W12 _ _ _ _ h37
 try dsimp only at h
 refine Runs.reg (by simp only [go_sem, seval, w37, hc2, hc8, hc14, hc18, hc21, hc24, hc27]; rfl) (by simp only [long12, go_sem, seval]; rfl) ?_
 refine Runs.cond (t := 96) rfl (fun hc38 => ?_) (fun hc38 => ?_)
 ·
  try simp only [N3] at hc38
  try simp only [hc38, C5] at h
  obtain ⟨⟨u39, q39⟩, h39, h⟩ := some_bind h
  have w39 := W34 h39
  try dsimp only at h
  try simp only [uBox, List.map_nil] at w39
  refine Runs.reg (by simp only [go_sem, seval, w39, hc2, hc8, hc14, hc18, hc21, hc24, hc27, hc38]; rfl) (by simp only [long12, go_sem, seval]; rfl) ?_
  refine Runs.seq ?_
  refine Runs.reg (by simp only [go_sem, seval, hc2, hc8, hc14, hc18, hc21, hc24, hc27, hc38]; rfl) (by simp only [long12, go_sem, seval]; rfl) ?_
  refine Runs.ret ?_
  try cases h
  try dsimp only [outX]
  first
  | rfl
  | (exact fk (res := [.cell 2 46]) rfl rfl rfl (by simp only [fin1, go_sem, seval, hc2, hc8, hc14, hc18, hc21, hc24, hc27, hc38]; try rfl))
 try simp only [N3] at hc38
 try simp only [hc38, C5] at h
 refine Runs.seq ?_
 refine Runs.reg (by simp only [go_sem, seval, hc2, hc8, hc14, hc18, hc21, hc24, hc27, hc38]; rfl) (by simp only [long12, go_sem, seval]; rfl) ?_
 obtain ⟨⟨d40, q40⟩, h40, h⟩ := some_bind h
 have w40 := W35 ie h40
 try dsimp only at h
 refine Runs.reg (by simp only [go_sem, seval, w40, hc2, hc8, hc14, hc18, hc21, hc24, hc27, hc38]; rfl) (by simp only [long12, go_sem, seval]; rfl) ?_
 refine Runs.seq ?_
 refine Runs.reg (by simp only [go_sem, seval, hc2, hc8, hc14, hc18, hc21, hc24, hc27, hc38]; rfl) (by simp only [long12, go_sem, seval]; rfl) ?_
 refine Runs.ret ?_
 try cases h
 try dsimp only [outX]
 first
 | rfl
 | (exact fk (res := [.cell 2 46]) rfl rfl rfl (by simp only [fin1, go_sem, seval, hc2, hc8, hc14, hc18, hc21, hc24, hc27, hc38]; try rfl))
end Go.Proofs.YtmkacifjegnehaaDoor
