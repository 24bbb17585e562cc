import Derived.Test.YtmkacifjegnehaaDoorM5
namespace Go.Proofs.YtmkacifjegnehaaDoor
open Go Go.Proofs Go.Proofs.YtmkacifjegnehaaDoor.Ab
set_option linter.unusedSimpArgs false
set_option linter.unusedVariables false
set_option maxRecDepth 10000
set_option maxHeartbeats 8000000
abbrev sBox (s : Stmt) : O := .box [.d (.int .i64 s.kind), .d (.int .i64 s.pos), .d (.str s.name), .d (.str s.text), .d (.int .i64 s.n), .d (.bo s.sorted), .d (.bo s.random), .d (.bo s.keep), .d (.sl (s.ref.names.map strD)), .d (.sl (s.ref.index.map astD)), .d (.sl (s.ref.has.map boD)), .d (.int .i64 s.e.kind), .d (.int .i64 s.e.n), .d (.str s.e.name), .d (.str s.e.label), .d (.sl (s.e.ref.names.map strD)), .d (.sl (s.e.ref.index.map astD)), .d (.sl (s.e.ref.has.map boD)), .d (.sl (s.e.kids.map astD)), .d (.sl (s.e.args.map argD)), .d (.sl (s.es.map astD)), .d (.sl (s.args.map argD)), .d (.int .i64 s.decl.type), .d (.str s.decl.named), .d (.sl (s.decl.vars.map dvarD)), .d (.int .i64 s.decl.pos), .d (.sl (s.options.map optD)), .d (.sl (s.body.map stmtD))]
def closedB (k : Int) (t : Bytes) : Bool := cond (k == 4) (cond (t == [125]) true (cond (t == [102, 105]) true (t == [111, 100]))) false
def sepB (x : PS × Bool) : Option ((PS × Bool) ⊕ (Bool × PS)) := (takeP x.1 [59]).bind fun (b, p) => cond b (some (.inl (p, true))) ((takeP p [45, 62]).bind fun (b, p) => cond b (some (.inl (p, true))) (some (.inr (x.2, p))))
def seqB (st : PS → Option (Stmt × PS)) (x : PS × List Stmt) : Option ((PS × List Stmt) ⊕ (List Stmt × PS)) := cond (okP x.1) ((st x.1).bind fun (s, p) => (appP x.2 [s]).bind fun l => cond (okP p) ((getP p.l (wsub p.pos 1)).bind fun t => (getP p.l (wsub p.pos 1)).bind fun u => (loopO sepB (fuelP p) (p, false)).bind fun (sep, p) => (stopsP p).bind fun b => cond b (some (.inr (l, p))) (cond sep (some (.inl (p, l))) (cond (closedB u.kind t.text) (some (.inl (p, l))) ((wrongP p).bind fun p => some (.inl (p, l)))))) (some (.inr (l, p)))) (some (.inr (x.2, x.1)))
def optsB (sq : PS → Option (List Stmt × PS)) (end_ : Bytes) (x : PS × List (List Stmt)) : Option ((PS × List (List Stmt)) ⊕ (List (List Stmt) × PS)) := cond (okP x.1) ((sq x.1).bind fun (s, p) => (appP x.2 [s]).bind fun l => (takeP p end_).bind fun (d, p) => cond d (some (.inr (l, p))) ((needP p [58, 58]).bind fun p => some (.inl (p, l)))) (some (.inr (x.2, x.1)))
def printP (n : Nat) (p : PS) (s : Stmt) : Option (Stmt × PS) := (needP p [40]).bind fun p => (kindP p 0).bind fun k => cond (k == 3) ((getP p.l p.pos).bind fun t => (takeP (incBy p 1) [44]).bind fun (m, p) => cond m ((exprsP n p).bind fun (l, p) => (needP p [41]).bind fun p => some ({ s with kind := 17, text := t.text, es := l }, p)) ((needP p [41]).bind fun p => some ({ s with kind := 17, text := t.text }, p))) ((wrongP p).bind fun p => some ({ s with kind := 17 }, p))
def plainQ (n : Nat) (at_ : Int) (p : PS) (s : Stmt) : Option (Stmt × PS) := (exprP n { p with pos := at_ } 0).bind fun (e, p) => some ({ s with ref := ref0, kind := 2, e := e }, p)
def sendQ (n : Nat) (p : PS) (s : Stmt) : Option (Stmt × PS) := (seesP p 0 [33, 33]).bind fun b => (sentP n (incBy p 1)).bind fun (l, p) => some ({ s with kind := 5, sorted := b, es := l }, p)
def recvQ (n : Nat) (p : PS) (s : Stmt) : Option (Stmt × PS) := (seesP p 0 [63, 63]).bind fun b => (takeP (incBy p 1) [60]).bind fun (k, p) => (gotP n p).bind fun (l, p) => cond k ((needP p [62]).bind fun p => some ({ s with kind := 6, random := b, keep := k, args := l }, p)) (some ({ s with kind := 6, random := b, keep := k, args := l }, p))
def elseQ (n : Nat) (at_ : Int) (p : PS) (s : Stmt) : Option (Stmt × PS) := cond (okP p) (plainQ n at_ p s) (some (s, p))
def recv1 (n : Nat) (at_ : Int) (p : PS) (s : Stmt) : Option (Stmt × PS) := (seesP p 1 [91]).bind fun b => cond b (elseQ n at_ p s) (recvQ n p s)
def refdQ (n : Nat) (at_ : Int) (p : PS) (s : Stmt) : Option (Stmt × PS) := (takeP p [61]).bind fun (b, p) => cond b ((exprP n p 0).bind fun (e, p) => some ({ s with kind := 3, e := e }, p)) ((takeP p [43, 43]).bind fun (b, p) => cond b (some ({ s with kind := 4, n := 1 }, p)) ((takeP p [45, 45]).bind fun (b, p) => cond b (some ({ s with kind := 4, n := -1 }, p)) (
  (seesP p 0 [33]).bind fun b => cond b (sendQ n p s) ((seesP p 0 [33, 33]).bind fun b => cond b (sendQ n p s) ((seesP p 0 [63]).bind fun b => cond b (recv1 n at_ p s) ((seesP p 0 [63, 63]).bind fun b => cond b (recv1 n at_ p s) (elseQ n at_ p s)))))))
def simpleP (n : Nat) (p : PS) (s : Stmt) : Option (Stmt × PS) := (kindP p 0).bind fun k => cond (k == 1) ((seesP p 1 [64]).bind fun b => cond b (plainQ n p.pos p s) ((refP n p).bind fun (r, q) => refdQ n p.pos q { s with ref := r })) (plainQ n p.pos p s)
def labQ (p : PS) (w : Bytes) : Option Bool := (kindP p 0).bind fun k => cond (k == 1) (seesP p 1 w) (some false)
def blkQ (bo : PS → Option (List Stmt × PS)) (k : Int) (p : PS) (s : Stmt) : Option (Stmt × PS) := (bo p).bind fun (l, p) => some ({ s with kind := k, body := l }, p)
def optQ (op : PS → Bytes → Option (List (List Stmt) × PS)) (k : Int) (w : Bytes) (p : PS) (s : Stmt) : Option (Stmt × PS) := (op p w).bind fun (l, p) => some ({ s with kind := k, options := l }, p)
def wQ (w : Bytes) (p : PS) (f g : PS → Option (Stmt × PS)) : Option (Stmt × PS) := (takeP p w).bind fun (b, p) => cond b (f p) (g p)
def callQ (n : Nat) (p : PS) (s : Stmt) : Option (Stmt × PS) := (idP p).bind fun (w, p) => (needP p [40]).bind fun p => (seesP p 0 [41]).bind fun b => cond b ((needP p [41]).bind fun p => some ({ s with kind := 18, name := w }, p)) ((exprsP n p).bind fun (l, p) => (needP p [41]).bind fun p => some ({ s with kind := 18, name := w, es := l }, p))
def assertQ (n : Nat) (p : PS) (s : Stmt) : Option (Stmt × PS) := (needP p [40]).bind fun p => (exprP n p 0).bind fun (e, p) => (needP p [41]).bind fun p => some ({ s with kind := 16, e := e }, p)
def stmtQ (n : Nat) (st : PS → Option (Stmt × PS)) (bo : PS → Option (List Stmt × PS)) (op : PS → Bytes → Option (List (List Stmt) × PS)) (p : PS) : Option (Stmt × PS) := (placeP p).bind fun at_ => (labQ p [58]).bind fun b => cond b ((idP p).bind fun (w, p) => (needP p [58]).bind fun p => (st p).bind fun (t, p) => some ({ stmt0 with pos := at_, kind := 11, name := w, body := [t] }, p)) (
  (seesP p 0 [123]).bind fun b => cond b (blkQ bo 14 p { stmt0 with pos := at_ }) (
  wQ [97, 116, 111, 109, 105, 99] p (fun p => blkQ bo 12 p { stmt0 with pos := at_ }) fun p => wQ [100, 95, 115, 116, 101, 112] p (fun p => blkQ bo 13 p { stmt0 with pos := at_ }) fun p =>
  wQ [105, 102] p (fun p => optQ op 7 [102, 105] p { stmt0 with pos := at_ }) fun p => wQ [100, 111] p (fun p => optQ op 8 [111, 100] p { stmt0 with pos := at_ }) fun p =>
  wQ [98, 114, 101, 97, 107] p (fun p => some ({ stmt0 with pos := at_, kind := 9 }, p)) fun p => wQ [115, 107, 105, 112] p (fun p => some ({ stmt0 with pos := at_, kind := 19 }, p)) fun p => wQ [101, 108, 115, 101] p (fun p => some ({ stmt0 with pos := at_, kind := 20 }, p)) fun p =>
  wQ [103, 111, 116, 111] p (fun p => (idP p).bind fun (w, p) => some ({ stmt0 with pos := at_, kind := 10, name := w }, p)) fun p => wQ [97, 115, 115, 101, 114, 116] p (fun p => assertQ n p { stmt0 with pos := at_ }) fun p =>
  wQ [112, 114, 105, 110, 116, 102] p (fun p => (printP n p { stmt0 with pos := at_ }).bind fun (s, p) => some (s, p)) fun p =>
  (labQ p [40]).bind fun b => cond b (callQ n p { stmt0 with pos := at_ }) ((simpleP n p { stmt0 with pos := at_ }).bind fun (s, p) => some (s, p))))
def stepQ (n : Nat) (st : PS → Option (Stmt × PS)) (p : PS) : Option (Stmt × PS) := (placeP p).bind fun at_ => (declaresP p).bind fun b => cond b ((declP n p).bind fun (d, p) => some ({ stmt0 with kind := 1, pos := at_, decl := d }, p)) ((st p).bind fun (s, p) => (takeP p [117, 110, 108, 101, 115, 115]).bind fun (b, p) => cond b ((st p).bind fun (t, p) => some ({ stmt0 with kind := 15, pos := at_, body := [s, t] }, p)) (some (s, p)))
mutual
def seqP : Nat → PS → Option (List Stmt × PS)
  | 0, _ => none
  | n + 1, p => loopO (seqB (stepP n)) (fuelP p) (p, [])
def stepP : Nat → PS → Option (Stmt × PS)
  | 0, _ => none
  | n + 1, p => stepQ n (stmtP n) p
def stmtP : Nat → PS → Option (Stmt × PS)
  | 0, _ => none
  | n + 1, p => stmtQ n (stmtP n) (bodyP n) (optsP n) p
def bodyP : Nat → PS → Option (List Stmt × PS)
  | 0, _ => none
  | n + 1, p => (needP p [123]).bind fun p => (seqP n p).bind fun (l, p) => (needP p [125]).bind fun p => some (l, p)
def optsP : Nat → PS → Bytes → Option (List (List Stmt) × PS)
  | 0, _, _ => none
  | n + 1, p, w => (needP p [58, 58]).bind fun p => loopO (optsB (seqP n) w) (fuelP p) (p, [])
end
structure StmtIH (n : Nat) : Prop where
  e58 : ∀ {p q : PS} {l : List Stmt}, seqP n p = some (l, q) → callW ip 50 [pV] [pBox p] = some (.ret [slV stmtD l], [pBox q])
  e74 : ∀ {p q : PS} {s : Stmt}, stepP n p = some (s, q) → callW ip 66 [pV] [pBox p] = some (.ret [stmtV s], [pBox q])
  e83 : ∀ {p q : PS} {s : Stmt}, stmtP n p = some (s, q) → callW ip 75 [pV] [pBox p] = some (.ret [stmtV s], [pBox q])
  e33 : ∀ {p q : PS} {l : List Stmt}, bodyP n p = some (l, q) → callW ip 28 [pV] [pBox p] = some (.ret [slV stmtD l], [pBox q])
  e88 : ∀ {p q : PS} {w : Bytes} {l : List (List Stmt)}, optsP n p w = some (l, q) → callW ip 80 [pV, sI w] [pBox p] = some (.ret [slV optD l], [pBox q])

theorem W89 {n : Nat} (ie : ExprIH n) {p q : PS} {s t : Stmt} (h : printP n p s = some (t, q)) : callW ip 81 [pV, .c (.ptr 1 0)] [pBox p, sBox s] = some (.ret [], [pBox q, sBox t]) := by
 simp only [printP, wadd, wsub, incBy] at h
 refine callW_runs (fn := Tryd.f81) (L := long81) (nt := 46) (n0 := 2) (T := tab) (rw' := []) (kA := keepA) Tryd.func81 rfl rfl rfl rfl rfl rfl rfl rfl rfl ?_
 refine Runs.seq ?_
 refine Runs.reg (by simp only [go_sem, seval]; rfl) (by simp only [long81, go_sem, seval]; rfl) ?_
 refine Runs.seq ?_
 obtain ⟨q1, h1, h⟩ := some_bind h
 have w1 := W28 _ _ _ h1
 try dsimp only at h
 refine Runs.reg (by simp only [go_sem, seval, w1]; rfl) (by simp only [long81, go_sem, seval]; rfl) ?_
 refine Runs.seq ?_
 refine Runs.seq ?_
 obtain ⟨k2, h2, h⟩ := some_bind h
 have w2 := W55 _ _ _ h2
 try dsimp only at h
 refine Runs.reg (by simp only [go_sem, seval, w2]; rfl) (by simp only [long81, go_sem, seval]; rfl) ?_
 refine Runs.cond (t := 12) rfl (fun hc3 => ?_) (fun hc3 => ?_)
 ·
  try simp only [N3] at hc3
  try simp only [hc3, C5] at h
  refine Runs.seq ?_
  obtain ⟨q4, h4, h⟩ := some_bind h
  have w4 := W56 _ _ h4
  try dsimp only at h
  refine Runs.reg (by simp only [go_sem, seval, w4, hc3]; rfl) (by simp only [long81, go_sem, seval]; rfl) ?_
  refine Runs.ret ?_
  try cases h
  try dsimp only [outX]
  first
  | rfl
  | (exact fk (res := []) rfl rfl rfl (by simp only [fin1, go_sem, seval, hc3]; try rfl))
 try simp only [N3] at hc3
 try simp only [hc3, C5] at h
 refine Runs.skip ?_
 refine Runs.seq ?_
 obtain ⟨x5, h5, h⟩ := some_bind h
 obtain ⟨ge5, at5⟩ := getP_some h5
 try dsimp only at h
 refine Runs.drw rfl (by simp only [go_sem, seval, ge5, at5, hc3]; rfl) (by simp only [long81, go_sem, seval]; rfl) ?_
 refine Runs.seq ?_
 refine Runs.reg (by simp only [go_sem, seval, ge5, at5, hc3]; rfl) (by simp only [long81, go_sem, seval]; rfl) ?_
 refine Runs.seq ?_
 obtain ⟨⟨b6, q6⟩, h6, h⟩ := some_bind h
 have w6 := W12 _ _ _ _ h6
 try dsimp only at h
 refine Runs.reg (by simp only [go_sem, seval, ge5, at5, w6, hc3]; rfl) (by simp only [long81, go_sem, seval]; rfl) ?_
 refine Runs.seq ?_
 refine Runs.seq ?_
 refine Runs.reg (by simp only [go_sem, seval, ge5, at5, hc3]; rfl) (by simp only [long81, go_sem, seval]; rfl) ?_
 refine Runs.cond (t := 38) rfl (fun hc7 => ?_) (fun hc7 => ?_)
 ·
  try simp only [N3] at hc7
  try simp only [hc7, C5] at h
  obtain ⟨⟨l8, q8⟩, h8, h⟩ := some_bind h
  have w8 := ie.e86 h8
  try dsimp only at h
  refine Runs.reg (by simp only [go_sem, seval, ge5, at5, w8, hc3, hc7]; rfl) (by simp only [long81, go_sem, seval]; rfl) ?_
  obtain ⟨q9, h9, h⟩ := some_bind h
  have w9 := W28 _ _ _ h9
  try dsimp only at h
  refine Runs.reg (by simp only [go_sem, seval, ge5, at5, w9, hc3, hc7]; rfl) (by simp only [long81, go_sem, seval]; rfl) ?_
  try cases h
  try dsimp only [outX]
  first
  | rfl
  | (exact fkn (res := []) rfl rfl rfl (by simp only [fin1, go_sem, seval, ge5, at5, hc3, hc7]; try rfl))
 try simp only [N3] at hc7
 try simp only [hc7, C5] at h
 refine Runs.skip ?_
 obtain ⟨q10, h10, h⟩ := some_bind h
 have w10 := W28 _ _ _ h10
 try dsimp only at h
 refine Runs.reg (by simp only [go_sem, seval, ge5, at5, w10, hc3, hc7]; rfl) (by simp only [long81, go_sem, seval]; rfl) ?_
 try cases h
 try dsimp only [outX]
 first
 | rfl
 | (exact fkn (res := []) rfl rfl rfl (by simp only [fin1, go_sem, seval, ge5, at5, hc3, hc7]; try rfl))
theorem W90 {n : Nat} (ie : ExprIH n) {p q : PS} {s t : Stmt} (h : simpleP n p s = some (t, q)) : callW ip 82 [pV, .c (.ptr 1 0)] [pBox p, sBox s] = some (.ret [], [pBox q, sBox t]) := by
 simp only [simpleP, plainQ, refdQ, sendQ, recvQ, elseQ, recv1, ref0, wadd, wsub, incBy] at h
 refine callW_runs (fn := Tryd.f82) (L := long82) (nt := 140) (n0 := 2) (T := tab) (rw' := []) (kA := keepA) Tryd.func82 rfl rfl rfl rfl rfl rfl rfl rfl rfl ?_
 refine Runs.seq ?_
 refine Runs.reg (by simp only [go_sem, seval]; rfl) (by simp only [long82, go_sem, seval]; rfl) ?_
 refine Runs.seq ?_
 refine Runs.seq ?_
 refine Runs.row ?_
 obtain ⟨k1, h1, h⟩ := some_bind h
 have w1 := W55 _ _ _ h1
 try dsimp only at h
 refine Row.run 4 (by simp only [go_sem, seval, w1]; rfl) ?_
 refine Row.guard (t := 13) (by simp only [go_sem, seval]; rfl) (fun hg2 => ?_) (fun hg2 => ?_)
 ·
  try simp only [N3] at hg2
  try simp only [hg2, C5] at h
  obtain ⟨b3, h3, h⟩ := some_bind h
  have w3 := W27 _ _ _ _ h3
  try dsimp only at h
  refine Row.run 4 (by simp only [go_sem, seval, w1, w3, hg2]; rfl) ?_
  refine Row.end_ (by simp only [long82, go_sem, seval]; rfl) ?_
  refine Runs.cond (t := 17) rfl (fun hc4 => ?_) (fun hc4 => ?_)
  ·
   try simp only [N3] at hc4
   try simp only [hc4, C5] at h
   refine Runs.seq ?_
   obtain ⟨⟨r5, q5⟩, h5, h⟩ := some_bind h
   have w5 := ie.e87 h5
   try dsimp only at h
   refine Runs.reg (by simp only [go_sem, seval, w5, hg2, hc4]; rfl) (by simp only [long82, go_sem, seval]; rfl) ?_
   refine Runs.seq ?_
   refine Runs.reg (by simp only [go_sem, seval, hg2, hc4]; rfl) (by simp only [long82, go_sem, seval]; rfl) ?_
   refine Runs.seq ?_
   refine Runs.block ?_
   refine Runs.seq ?_
   obtain ⟨⟨b6, q6⟩, h6, h⟩ := some_bind h
   have w6 := W12 _ _ _ _ h6
   try dsimp only at h
   refine Runs.reg (by simp only [go_sem, seval, w6, hg2, hc4]; rfl) (by simp only [long82, go_sem, seval]; rfl) ?_
   refine Runs.cond (t := 24) rfl (fun hc7 => ?_) (fun hc7 => ?_)
   ·
    try simp only [N3] at hc7
    try simp only [hc7, C5] at h
    refine Runs.seq ?_
    refine Runs.reg (by simp only [go_sem, seval, hg2, hc4, hc7]; rfl) (by simp only [long82, go_sem, seval]; rfl) ?_
    refine Runs.seq ?_
    obtain ⟨⟨e8, q8⟩, h8, h⟩ := some_bind h
    have w8 := ie.e57 h8
    try dsimp only at h
    refine Runs.reg (by simp only [go_sem, seval, w8, hg2, hc4, hc7]; rfl) (by simp only [long82, go_sem, seval]; rfl) ?_
    refine Runs.ret ?_
    try cases h
    try dsimp only [outX]
    first
    | rfl
    | (exact fk (res := []) rfl rfl rfl (by simp only [fin1, go_sem, seval, hg2, hc4, hc7]; try rfl))
   try simp only [N3] at hc7
   try simp only [hc7, C5] at h
   refine Runs.seq ?_
   obtain ⟨⟨b9, q9⟩, h9, h⟩ := some_bind h
   have w9 := W12 _ _ _ _ h9
   try dsimp only at h
   refine Runs.reg (by simp only [go_sem, seval, w9, hg2, hc4, hc7]; rfl) (by simp only [long82, go_sem, seval]; rfl) ?_
   refine Runs.cond (t := 35) rfl (fun hc10 => ?_) (fun hc10 => ?_)
   ·
    try simp only [N3] at hc10
    try simp only [hc10, C5] at h
    refine Runs.seq ?_
    refine Runs.reg (by simp only [go_sem, seval, hg2, hc4, hc7, hc10]; rfl) (by simp only [long82, go_sem, seval]; rfl) ?_
    refine Runs.seq ?_
    refine Runs.reg (by simp only [go_sem, seval, hg2, hc4, hc7, hc10]; rfl) (by simp only [long82, go_sem, seval]; rfl) ?_
    refine Runs.ret ?_
    try cases h
    try dsimp only [outX]
    first
    | rfl
    | (exact fk (res := []) rfl rfl rfl (by simp only [fin1, go_sem, seval, hg2, hc4, hc7, hc10]; try rfl))
   try simp only [N3] at hc10
   try simp only [hc10, C5] at h
   refine Runs.seq ?_
   obtain ⟨⟨b11, q11⟩, h11, h⟩ := some_bind h
   have w11 := W12 _ _ _ _ h11
   try dsimp only at h
   refine Runs.reg (by simp only [go_sem, seval, w11, hg2, hc4, hc7, hc10]; rfl) (by simp only [long82, go_sem, seval]; rfl) ?_
   refine Runs.cond (t := 44) rfl (fun hc12 => ?_) (fun hc12 => ?_)
   ·
    try simp only [N3] at hc12
    try simp only [hc12, C5] at h
    refine Runs.seq ?_
    refine Runs.reg (by simp only [go_sem, seval, hg2, hc4, hc7, hc10, hc12]; rfl) (by simp only [long82, go_sem, seval]; rfl) ?_
    refine Runs.seq ?_
    refine Runs.reg (by simp only [go_sem, seval, hg2, hc4, hc7, hc10, hc12]; rfl) (by simp only [long82, go_sem, seval]; rfl) ?_
    refine Runs.ret ?_
    try cases h
    try dsimp only [outX]
    first
    | rfl
    | (exact fk (res := []) rfl rfl rfl (by simp only [fin1, go_sem, seval, hg2, hc4, hc7, hc10, hc12]; try rfl))
   try simp only [N3] at hc12
   try simp only [hc12, C5] at h
   refine Runs.seq ?_
   refine Runs.seq ?_
   obtain ⟨b13, h13, h⟩ := some_bind h
   have w13 := W25 _ _ _ h13
   try dsimp only at h
   refine Runs.reg (by simp only [go_sem, seval, w13, hg2, hc4, hc7, hc10, hc12]; rfl) (by simp only [long82, go_sem, seval]; rfl) ?_
   refine Runs.cond (t := 53) rfl (fun hc14 => ?_) (fun hc14 => ?_)
   ·
    try simp only [N3] at hc14
    try simp only [hc14, C5] at h
    refine Runs.skip ?_
    refine Runs.cond (t := 53) rfl (fun hc15 => ?_) (fun hc15 => ?_)
    rotate_left
    · exact absurd hc15 (by first | decide | (simp only [hg2, hc4, hc7, hc10, hc12, hc14]; decide))
    try simp only [N3] at hc15
    try simp only [hc15, C5] at h
    refine Runs.seq ?_
    refine Runs.reg (by simp only [go_sem, seval, hg2, hc4, hc7, hc10, hc12, hc14]; rfl) (by simp only [long82, go_sem, seval]; rfl) ?_
    refine Runs.seq ?_
    obtain ⟨b16, h16, h⟩ := some_bind h
    have w16 := W25 _ _ _ h16
    try dsimp only at h
    refine Runs.reg (by simp only [go_sem, seval, w16, hg2, hc4, hc7, hc10, hc12, hc14]; rfl) (by simp only [long82, go_sem, seval]; rfl) ?_
    refine Runs.seq ?_
    refine Runs.reg (by simp only [go_sem, seval, hg2, hc4, hc7, hc10, hc12, hc14]; rfl) (by simp only [long82, go_sem, seval]; rfl) ?_
    refine Runs.seq ?_
    obtain ⟨⟨l17, q17⟩, h17, h⟩ := some_bind h
    have w17 := W93 ie h17
    try dsimp only at h
    refine Runs.reg (by simp only [go_sem, seval, w17, hg2, hc4, hc7, hc10, hc12, hc14]; rfl) (by simp only [long82, go_sem, seval]; rfl) ?_
    refine Runs.ret ?_
    try cases h
    try dsimp only [outX]
    first
    | rfl
    | (exact fk (res := []) rfl rfl rfl (by simp only [fin1, go_sem, seval, hg2, hc4, hc7, hc10, hc12, hc14]; try rfl))
   try simp only [N3] at hc14
   try simp only [hc14, C5] at h
   obtain ⟨b18, h18, h⟩ := some_bind h
   have w18 := W25 _ _ _ h18
   try dsimp only at h
   refine Runs.reg (by simp only [go_sem, seval, w18, hg2, hc4, hc7, hc10, hc12, hc14]; rfl) (by simp only [long82, go_sem, seval]; rfl) ?_
   refine Runs.cond (t := 53) rfl (fun hc19 => ?_) (fun hc19 => ?_)
   ·
    try simp only [N3] at hc19
    try simp only [hc19, C5] at h
    refine Runs.seq ?_
    refine Runs.reg (by simp only [go_sem, seval, hg2, hc4, hc7, hc10, hc12, hc14, hc19]; rfl) (by simp only [long82, go_sem, seval]; rfl) ?_
    refine Runs.seq ?_
    obtain ⟨b20, h20, h⟩ := some_bind h
    have w20 := W25 _ _ _ h20
    try dsimp only at h
    refine Runs.reg (by simp only [go_sem, seval, w20, hg2, hc4, hc7, hc10, hc12, hc14, hc19]; rfl) (by simp only [long82, go_sem, seval]; rfl) ?_
    refine Runs.seq ?_
    refine Runs.reg (by simp only [go_sem, seval, hg2, hc4, hc7, hc10, hc12, hc14, hc19]; rfl) (by simp only [long82, go_sem, seval]; rfl) ?_
    refine Runs.seq ?_
    obtain ⟨⟨l21, q21⟩, h21, h⟩ := some_bind h
    have w21 := W93 ie h21
    try dsimp only at h
    refine Runs.reg (by simp only [go_sem, seval, w21, hg2, hc4, hc7, hc10, hc12, hc14, hc19]; rfl) (by simp only [long82, go_sem, seval]; rfl) ?_
    refine Runs.ret ?_
    try cases h
    try dsimp only [outX]
    first
    | rfl
    | (exact fk (res := []) rfl rfl rfl (by simp only [fin1, go_sem, seval, hg2, hc4, hc7, hc10, hc12, hc14, hc19]; try rfl))
   try simp only [N3] at hc19
   try simp only [hc19, C5] at h
   refine Runs.seq ?_
   refine Runs.row ?_
   obtain ⟨b22, h22, h⟩ := some_bind h
   have w22 := W25 _ _ _ h22
   try dsimp only at h
   refine Row.run 3 (by simp only [go_sem, seval, w22, hg2, hc4, hc7, hc10, hc12, hc14, hc19]; rfl) ?_
   refine Row.guard (t := 81) (by simp only [go_sem, seval]; rfl) (fun hg23 => ?_) (fun hg23 => ?_)
   ·
    try simp only [N3] at hg23
    try simp only [hg23, C5] at h
    obtain ⟨b24, h24, h⟩ := some_bind h
    have w24 := W27 _ _ _ _ h24
    try dsimp only at h
    refine Row.run 9 (by simp only [go_sem, seval, w22, w24, hg2, hc4, hc7, hc10, hc12, hc14, hc19, hg23]; rfl) ?_
    refine Row.end_ (by simp only [long82, go_sem, seval]; rfl) ?_
    refine Runs.cond (t := 78) rfl (fun hc25 => ?_) (fun hc25 => ?_)
    ·
     try simp only [N3] at hc25
     try simp only [hc25, C5] at h
     refine Runs.seq ?_
     refine Runs.reg (by simp only [go_sem, seval, hc4, hc7, hc10, hc12, hc14, hc19, hg23, hc25]; rfl) (by simp only [long82, go_sem, seval]; rfl) ?_
     refine Runs.seq ?_
     obtain ⟨b26, h26, h⟩ := some_bind h
     have w26 := W25 _ _ _ h26
     try dsimp only at h
     refine Runs.reg (by simp only [go_sem, seval, w26, hc4, hc7, hc10, hc12, hc14, hc19, hg23, hc25]; rfl) (by simp only [long82, go_sem, seval]; rfl) ?_
     refine Runs.seq ?_
     refine Runs.reg (by simp only [go_sem, seval, hc4, hc7, hc10, hc12, hc14, hc19, hg23, hc25]; rfl) (by simp only [long82, go_sem, seval]; rfl) ?_
     refine Runs.seq ?_
     obtain ⟨⟨b27, q27⟩, h27, h⟩ := some_bind h
     have w27 := W12 _ _ _ _ h27
     try dsimp only at h
     refine Runs.reg (by simp only [go_sem, seval, w27, hc4, hc7, hc10, hc12, hc14, hc19, hg23, hc25]; rfl) (by simp only [long82, go_sem, seval]; rfl) ?_
     refine Runs.seq ?_
     obtain ⟨⟨l28, q28⟩, h28, h⟩ := some_bind h
     have w28 := ie.e92 h28
     try dsimp only at h
     refine Runs.reg (by simp only [go_sem, seval, w28, hc4, hc7, hc10, hc12, hc14, hc19, hg23, hc25]; rfl) (by simp only [long82, go_sem, seval]; rfl) ?_
     refine Runs.seq ?_
     refine Runs.seq ?_
     refine Runs.reg (by simp only [go_sem, seval, hc4, hc7, hc10, hc12, hc14, hc19, hg23, hc25]; rfl) (by simp only [long82, go_sem, seval]; rfl) ?_
     refine Runs.cond (t := 118) rfl (fun hc29 => ?_) (fun hc29 => ?_)
     ·
      try simp only [N3] at hc29
      try simp only [hc29, C5] at h
      obtain ⟨q30, h30, h⟩ := some_bind h
      have w30 := W28 _ _ _ h30
      try dsimp only at h
      refine Runs.reg (by simp only [go_sem, seval, w30, hc7, hc10, hc12, hc14, hc19, hg23, hc25, hc29]; rfl) (by simp only [long82, go_sem, seval]; rfl) ?_
      refine Runs.ret ?_
      try cases h
      try dsimp only [outX]
      first
      | rfl
      | (exact fk (res := []) rfl rfl rfl (by simp only [fin1, go_sem, seval, hc7, hc10, hc12, hc14, hc19, hg23, hc25, hc29]; try rfl))
     try simp only [N3] at hc29
     try simp only [hc29, C5] at h
     refine Runs.skip ?_
     refine Runs.ret ?_
     try cases h
     try dsimp only [outX]
     first
     | rfl
     | (exact fk (res := []) rfl rfl rfl (by simp only [fin1, go_sem, seval, hc7, hc10, hc12, hc14, hc19, hg23, hc25, hc29]; try rfl))
    try simp only [N3] at hc25
    try simp only [hc25, C5] at h
    refine Runs.skip ?_
    refine Runs.seq ?_
    refine Runs.reg (by simp only [go_sem, seval, W11, hc4, hc7, hc10, hc12, hc14, hc19, hg23, hc25]; rfl) (by simp only [long82, go_sem, seval]; rfl) ?_
    refine Runs.cond (t := 123) rfl (fun hc31 => ?_) (fun hc31 => ?_)
    ·
     try simp only [N3] at hc31
     try simp only [hc31, C5] at h
     refine Runs.ret ?_
     try cases h
     try dsimp only [outX]
     first
     | rfl
     | (exact fk (res := []) rfl rfl rfl (by simp only [fin1, go_sem, seval, hc7, hc10, hc12, hc14, hc19, hg23, hc25, hc31]; try rfl))
    try simp only [N3] at hc31
    try simp only [hc31, C5] at h
    refine Runs.skip ?_
    refine Runs.seq ?_
    refine Runs.reg (by simp only [go_sem, seval, hc7, hc10, hc12, hc14, hc19, hg23, hc25, hc31]; rfl) (by simp only [long82, go_sem, seval]; rfl) ?_
    refine Runs.seq ?_
    refine Runs.reg (by simp only [go_sem, seval, hc7, hc10, hc12, hc14, hc19, hg23, hc25, hc31]; rfl) (by simp only [long82, go_sem, seval]; rfl) ?_
    refine Runs.seq ?_
    refine Runs.reg (by simp only [go_sem, seval, hc7, hc10, hc12, hc14, hc19, hg23, hc25, hc31]; rfl) (by simp only [long82, go_sem, seval]; rfl) ?_
    obtain ⟨⟨e32, q32⟩, h32, h⟩ := some_bind h
    have w32 := ie.e57 h32
    try dsimp only at h
    refine Runs.reg (by simp only [go_sem, seval, w32, hc7, hc10, hc12, hc14, hc19, hg23, hc25, hc31]; rfl) (by simp only [long82, go_sem, seval]; rfl) ?_
    try cases h
    try dsimp only [outX]
    first
    | rfl
    | (exact fkn (res := []) rfl rfl rfl (by simp only [fin1, go_sem, seval, hc7, hc10, hc12, hc14, hc19, hg23, hc25, hc31]; try rfl))
   ·
    try simp only [N3] at hg23
    try simp only [hg23, C5] at h
    obtain ⟨b33, h33, h⟩ := some_bind h
    have w33 := W25 _ _ _ h33
    try dsimp only at h
    refine Row.run 4 (by simp only [go_sem, seval, w22, w33, hg2, hc4, hc7, hc10, hc12, hc14, hc19, hg23]; rfl) ?_
    refine Row.guard (t := 85) (by simp only [go_sem, seval]; rfl) (fun hg34 => ?_) (fun hg34 => ?_)
    ·
     try simp only [N3] at hg34
     try simp only [hg34, C5] at h
     obtain ⟨b35, h35, h⟩ := some_bind h
     have w35 := W27 _ _ _ _ h35
     try dsimp only at h
     refine Row.run 5 (by simp only [go_sem, seval, w22, w33, w35, hc4, hc7, hc10, hc12, hc14, hc19, hg23, hg34]; rfl) ?_
     refine Row.end_ (by simp only [long82, go_sem, seval]; rfl) ?_
     refine Runs.cond (t := 78) rfl (fun hc36 => ?_) (fun hc36 => ?_)
     ·
      try simp only [N3] at hc36
      try simp only [hc36, C5] at h
      refine Runs.seq ?_
      refine Runs.reg (by simp only [go_sem, seval, hc7, hc10, hc12, hc14, hc19, hg23, hg34, hc36]; rfl) (by simp only [long82, go_sem, seval]; rfl) ?_
      refine Runs.seq ?_
      obtain ⟨b37, h37, h⟩ := some_bind h
      have w37 := W25 _ _ _ h37
      try dsimp only at h
      refine Runs.reg (by simp only [go_sem, seval, w37, hc7, hc10, hc12, hc14, hc19, hg23, hg34, hc36]; rfl) (by simp only [long82, go_sem, seval]; rfl) ?_
      refine Runs.seq ?_
      refine Runs.reg (by simp only [go_sem, seval, hc7, hc10, hc12, hc14, hc19, hg23, hg34, hc36]; rfl) (by simp only [long82, go_sem, seval]; rfl) ?_
      refine Runs.seq ?_
      obtain ⟨⟨b38, q38⟩, h38, h⟩ := some_bind h
      have w38 := W12 _ _ _ _ h38
      try dsimp only at h
      refine Runs.reg (by simp only [go_sem, seval, w38, hc7, hc10, hc12, hc14, hc19, hg23, hg34, hc36]; rfl) (by simp only [long82, go_sem, seval]; rfl) ?_
      refine Runs.seq ?_
      obtain ⟨⟨l39, q39⟩, h39, h⟩ := some_bind h
      have w39 := ie.e92 h39
      try dsimp only at h
      refine Runs.reg (by simp only [go_sem, seval, w39, hc7, hc10, hc12, hc14, hc19, hg23, hg34, hc36]; rfl) (by simp only [long82, go_sem, seval]; rfl) ?_
      refine Runs.seq ?_
      refine Runs.seq ?_
      refine Runs.reg (by simp only [go_sem, seval, hc7, hc10, hc12, hc14, hc19, hg23, hg34, hc36]; rfl) (by simp only [long82, go_sem, seval]; rfl) ?_
      refine Runs.cond (t := 118) rfl (fun hc40 => ?_) (fun hc40 => ?_)
      ·
       try simp only [N3] at hc40
       try simp only [hc40, C5] at h
       obtain ⟨q41, h41, h⟩ := some_bind h
       have w41 := W28 _ _ _ h41
       try dsimp only at h
       refine Runs.reg (by simp only [go_sem, seval, w41, hc10, hc12, hc14, hc19, hg23, hg34, hc36, hc40]; rfl) (by simp only [long82, go_sem, seval]; rfl) ?_
       refine Runs.ret ?_
       try cases h
       try dsimp only [outX]
       first
       | rfl
       | (exact fk (res := []) rfl rfl rfl (by simp only [fin1, go_sem, seval, hc10, hc12, hc14, hc19, hg23, hg34, hc36, hc40]; try rfl))
      try simp only [N3] at hc40
      try simp only [hc40, C5] at h
      refine Runs.skip ?_
      refine Runs.ret ?_
      try cases h
      try dsimp only [outX]
      first
      | rfl
      | (exact fk (res := []) rfl rfl rfl (by simp only [fin1, go_sem, seval, hc10, hc12, hc14, hc19, hg23, hg34, hc36, hc40]; try rfl))
     try simp only [N3] at hc36
     try simp only [hc36, C5] at h
     refine Runs.skip ?_
     refine Runs.seq ?_
     refine Runs.reg (by simp only [go_sem, seval, W11, hc7, hc10, hc12, hc14, hc19, hg23, hg34, hc36]; rfl) (by simp only [long82, go_sem, seval]; rfl) ?_
     refine Runs.cond (t := 123) rfl (fun hc42 => ?_) (fun hc42 => ?_)
     ·
      try simp only [N3] at hc42
      try simp only [hc42, C5] at h
      refine Runs.ret ?_
      try cases h
      try dsimp only [outX]
      first
      | rfl
      | (exact fk (res := []) rfl rfl rfl (by simp only [fin1, go_sem, seval, hc10, hc12, hc14, hc19, hg23, hg34, hc36, hc42]; try rfl))
     try simp only [N3] at hc42
     try simp only [hc42, C5] at h
     refine Runs.skip ?_
     refine Runs.seq ?_
     refine Runs.reg (by simp only [go_sem, seval, hc10, hc12, hc14, hc19, hg23, hg34, hc36, hc42]; rfl) (by simp only [long82, go_sem, seval]; rfl) ?_
     refine Runs.seq ?_
     refine Runs.reg (by simp only [go_sem, seval, hc10, hc12, hc14, hc19, hg23, hg34, hc36, hc42]; rfl) (by simp only [long82, go_sem, seval]; rfl) ?_
     refine Runs.seq ?_
     refine Runs.reg (by simp only [go_sem, seval, hc10, hc12, hc14, hc19, hg23, hg34, hc36, hc42]; rfl) (by simp only [long82, go_sem, seval]; rfl) ?_
     obtain ⟨⟨e43, q43⟩, h43, h⟩ := some_bind h
     have w43 := ie.e57 h43
     try dsimp only at h
     refine Runs.reg (by simp only [go_sem, seval, w43, hc10, hc12, hc14, hc19, hg23, hg34, hc36, hc42]; rfl) (by simp only [long82, go_sem, seval]; rfl) ?_
     try cases h
     try dsimp only [outX]
     first
     | rfl
     | (exact fkn (res := []) rfl rfl rfl (by simp only [fin1, go_sem, seval, hc10, hc12, hc14, hc19, hg23, hg34, hc36, hc42]; try rfl))
    ·
     try simp only [N3] at hg34
     try simp only [hg34, C5] at h
     refine Row.run 5 (by simp only [go_sem, seval, w22, w33, hc4, hc7, hc10, hc12, hc14, hc19, hg23, hg34]; rfl) ?_
     refine Row.end_ (by simp only [long82, go_sem, seval]; rfl) ?_
     refine Runs.cond (t := 78) rfl (fun hc44 => ?_) (fun hc44 => ?_)
     · exact absurd hc44 (by first | decide | (simp only [hg2, hc4, hc7, hc10, hc12, hc14, hc19, hg23, hg34]; decide))
     try simp only [N3] at hc44
     try simp only [hc44, C5] at h
     refine Runs.skip ?_
     refine Runs.seq ?_
     refine Runs.reg (by simp only [go_sem, seval, W11, hc4, hc7, hc10, hc12, hc14, hc19, hg23, hg34]; rfl) (by simp only [long82, go_sem, seval]; rfl) ?_
     refine Runs.cond (t := 123) rfl (fun hc45 => ?_) (fun hc45 => ?_)
     ·
      try simp only [N3] at hc45
      try simp only [hc45, C5] at h
      refine Runs.ret ?_
      try cases h
      try dsimp only [outX]
      first
      | rfl
      | (exact fk (res := []) rfl rfl rfl (by simp only [fin1, go_sem, seval, hc7, hc10, hc12, hc14, hc19, hg23, hg34, hc45]; try rfl))
     try simp only [N3] at hc45
     try simp only [hc45, C5] at h
     refine Runs.skip ?_
     refine Runs.seq ?_
     refine Runs.reg (by simp only [go_sem, seval, hc7, hc10, hc12, hc14, hc19, hg23, hg34, hc45]; rfl) (by simp only [long82, go_sem, seval]; rfl) ?_
     refine Runs.seq ?_
     refine Runs.reg (by simp only [go_sem, seval, hc7, hc10, hc12, hc14, hc19, hg23, hg34, hc45]; rfl) (by simp only [long82, go_sem, seval]; rfl) ?_
     refine Runs.seq ?_
     refine Runs.reg (by simp only [go_sem, seval, hc7, hc10, hc12, hc14, hc19, hg23, hg34, hc45]; rfl) (by simp only [long82, go_sem, seval]; rfl) ?_
     obtain ⟨⟨e46, q46⟩, h46, h⟩ := some_bind h
     have w46 := ie.e57 h46
     try dsimp only at h
     refine Runs.reg (by simp only [go_sem, seval, w46, hc7, hc10, hc12, hc14, hc19, hg23, hg34, hc45]; rfl) (by simp only [long82, go_sem, seval]; rfl) ?_
     try cases h
     try dsimp only [outX]
     first
     | rfl
     | (exact fkn (res := []) rfl rfl rfl (by simp only [fin1, go_sem, seval, hc7, hc10, hc12, hc14, hc19, hg23, hg34, hc45]; try rfl))
  try simp only [N3] at hc4
  try simp only [hc4, C5] at h
  refine Runs.skip ?_
  refine Runs.seq ?_
  refine Runs.reg (by simp only [go_sem, seval, hg2, hc4]; rfl) (by simp only [long82, go_sem, seval]; rfl) ?_
  refine Runs.seq ?_
  refine Runs.reg (by simp only [go_sem, seval, hg2, hc4]; rfl) (by simp only [long82, go_sem, seval]; rfl) ?_
  refine Runs.seq ?_
  refine Runs.reg (by simp only [go_sem, seval, hg2, hc4]; rfl) (by simp only [long82, go_sem, seval]; rfl) ?_
  obtain ⟨⟨e47, q47⟩, h47, h⟩ := some_bind h
  have w47 := ie.e57 h47
  try dsimp only at h
  refine Runs.reg (by simp only [go_sem, seval, w47, hg2, hc4]; rfl) (by simp only [long82, go_sem, seval]; rfl) ?_
  try cases h
  try dsimp only [outX]
  first
  | rfl
  | (exact fkn (res := []) rfl rfl rfl (by simp only [fin1, go_sem, seval, hg2, hc4]; try rfl))
 ·
  try simp only [N3] at hg2
  try simp only [hg2, C5] at h
  refine Row.run 4 (by simp only [go_sem, seval, w1, hg2]; rfl) ?_
  refine Row.end_ (by simp only [long82, go_sem, seval]; rfl) ?_
  refine Runs.cond (t := 17) rfl (fun hc48 => ?_) (fun hc48 => ?_)
  · exact absurd hc48 (by first | decide | (simp only [hg2]; decide))
  try simp only [N3] at hc48
  try simp only [hc48, C5] at h
  refine Runs.skip ?_
  refine Runs.seq ?_
  refine Runs.reg (by simp only [go_sem, seval, hg2]; rfl) (by simp only [long82, go_sem, seval]; rfl) ?_
  refine Runs.seq ?_
  refine Runs.reg (by simp only [go_sem, seval, hg2]; rfl) (by simp only [long82, go_sem, seval]; rfl) ?_
  refine Runs.seq ?_
  refine Runs.reg (by simp only [go_sem, seval, hg2]; rfl) (by simp only [long82, go_sem, seval]; rfl) ?_
  obtain ⟨⟨e49, q49⟩, h49, h⟩ := some_bind h
  have w49 := ie.e57 h49
  try dsimp only at h
  refine Runs.reg (by simp only [go_sem, seval, w49, hg2]; rfl) (by simp only [long82, go_sem, seval]; rfl) ?_
  try cases h
  try dsimp only [outX]
  first
  | rfl
  | (exact fkn (res := []) rfl rfl rfl (by simp only [fin1, go_sem, seval, hg2]; try rfl))
theorem W83 {n : Nat} (ie : ExprIH n) (is : StmtIH n) {p q : PS} {s : Stmt} (h : stmtP (n + 1) p = some (s, q)) : callW ip 75 [pV] [pBox p] = some (.ret [stmtV s], [pBox q]) := by
 simp only [stmtP, stmtQ, wQ, blkQ, optQ, callQ, assertQ, stmt0, decl0, ast0, ref0, wadd, wsub, incBy] at h
 refine callW_runs (fn := Tryd.f75) (L := long75) (nt := 120) (n0 := 1) (T := tab) (rw' := []) (kA := keepA) Tryd.func75 rfl rfl rfl rfl rfl rfl rfl rfl rfl ?_
 refine Runs.seq ?_
 refine Runs.reg (by simp only [go_sem, seval]; rfl) (by simp only [long75, go_sem, seval]; rfl) ?_
 refine Runs.seq ?_
 obtain ⟨z1, h1, h⟩ := some_bind h
 have w1 := W26 _ _ h1
 try dsimp only at h
 refine Runs.reg (by simp only [go_sem, seval, w1]; rfl) (by simp only [long75, go_sem, seval]; rfl) ?_
 refine Runs.seq ?_
 refine Runs.block ?_
 refine Runs.seq ?_
 obtain ⟨b9_, hb9_, h⟩ := some_bind h
 try dsimp only at h
 refine Runs.reg2 (e2 := [(0, pV), (2, .c (.ptr 1 0)), (3, .c (.ptr 2 0)), (9, bI b9_)]) ?_ ?_
 ·
  simp only [labQ] at hb9_
  obtain ⟨k_, hk_, hb_⟩ := some_bind hb9_
  have wk_ := W55 _ _ _ hk_
  cases hd_ : (k_ == 1) with
  | true => simp only [hd_, cond_true] at hb_; have ws_ := W27 _ _ _ _ hb_; exact ⟨_, _, by simp only [go_sem, seval, wk_, ws_, hd_]; try rfl, by simp only [long75, go_sem, seval]; try rfl⟩
  | false => simp only [hd_, cond_false] at hb_; cases hb_; exact ⟨_, _, by simp only [go_sem, seval, wk_, hd_]; try rfl, by simp only [long75, go_sem, seval]; try rfl⟩
 refine Runs.cond (t := 9) rfl (fun hc2 => ?_) (fun hc2 => ?_)
 ·
  try simp only [N3] at hc2
  try simp only [hc2, C5] at h
  refine Runs.seq ?_
  refine Runs.reg (by simp only [go_sem, seval, hc2]; rfl) (by simp only [long75, go_sem, seval]; rfl) ?_
  refine Runs.seq ?_
  obtain ⟨⟨s3, q3⟩, h3, h⟩ := some_bind h
  have w3 := W30 _ _ _ h3
  try dsimp only at h
  refine Runs.reg (by simp only [go_sem, seval, w3, hc2]; rfl) (by simp only [long75, go_sem, seval]; rfl) ?_
  refine Runs.seq ?_
  obtain ⟨q4, h4, h⟩ := some_bind h
  have w4 := W28 _ _ _ h4
  try dsimp only at h
  refine Runs.reg (by simp only [go_sem, seval, w4, hc2]; rfl) (by simp only [long75, go_sem, seval]; rfl) ?_
  obtain ⟨⟨s5, q5⟩, h5, h⟩ := some_bind h
  have w5 := is.e83 h5
  try dsimp only at h
  refine Runs.reg (by simp only [go_sem, seval, w5, hc2]; rfl) (by simp only [long75, go_sem, seval]; rfl) ?_
  refine Runs.seq ?_
  refine Runs.reg (by simp only [go_sem, seval, hc2]; rfl) (by simp only [long75, go_sem, seval]; rfl) ?_
  refine Runs.ret ?_
  try cases h
  try dsimp only [outX]
  first
  | rfl
  | (exact fk (res := [.cell 2 50]) rfl rfl rfl (by simp only [fin1, go_sem, seval, hc2]; try rfl))
 try simp only [N3] at hc2
 try simp only [hc2, C5] at h
 refine Runs.seq ?_
 obtain ⟨b6, h6, h⟩ := some_bind h
 have w6 := W25 _ _ _ h6
 try dsimp only at h
 refine Runs.reg (by simp only [go_sem, seval, w6, hc2]; rfl) (by simp only [long75, go_sem, seval]; rfl) ?_
 refine Runs.cond (t := 27) rfl (fun hc7 => ?_) (fun hc7 => ?_)
 ·
  try simp only [N3] at hc7
  try simp only [hc7, C5] at h
  refine Runs.seq ?_
  refine Runs.reg (by simp only [go_sem, seval, hc2, hc7]; rfl) (by simp only [long75, go_sem, seval]; rfl) ?_
  obtain ⟨⟨l8, q8⟩, h8, h⟩ := some_bind h
  have w8 := is.e33 h8
  try dsimp only at h
  refine Runs.reg (by simp only [go_sem, seval, w8, hc2, hc7]; rfl) (by simp only [long75, go_sem, seval]; rfl) ?_
  refine Runs.seq ?_
  refine Runs.reg (by simp only [go_sem, seval, hc2, hc7]; rfl) (by simp only [long75, go_sem, seval]; rfl) ?_
  refine Runs.ret ?_
  try cases h
  try dsimp only [outX]
  first
  | rfl
  | (exact fk (res := [.cell 2 50]) rfl rfl rfl (by simp only [fin1, go_sem, seval, hc2, hc7]; try rfl))
 try simp only [N3] at hc7
 try simp only [hc7, C5] at h
 refine Runs.seq ?_
 obtain ⟨⟨b9, q9⟩, h9, h⟩ := some_bind h
 have w9 := W12 _ _ _ _ h9
 try dsimp only at h
 refine Runs.reg (by simp only [go_sem, seval, w9, hc2, hc7]; rfl) (by simp only [long75, go_sem, seval]; rfl) ?_
 refine Runs.cond (t := 34) rfl (fun hc10 => ?_) (fun hc10 => ?_)
 ·
  try simp only [N3] at hc10
  try simp only [hc10, C5] at h
  refine Runs.seq ?_
  refine Runs.reg (by simp only [go_sem, seval, hc2, hc7, hc10]; rfl) (by simp only [long75, go_sem, seval]; rfl) ?_
  obtain ⟨⟨l11, q11⟩, h11, h⟩ := some_bind h
  have w11 := is.e33 h11
  try dsimp only at h
  refine Runs.reg (by simp only [go_sem, seval, w11, hc2, hc7, hc10]; rfl) (by simp only [long75, go_sem, seval]; rfl) ?_
  refine Runs.seq ?_
  refine Runs.reg (by simp only [go_sem, seval, hc2, hc7, hc10]; rfl) (by simp only [long75, go_sem, seval]; rfl) ?_
  refine Runs.ret ?_
  try cases h
  try dsimp only [outX]
  first
  | rfl
  | (exact fk (res := [.cell 2 50]) rfl rfl rfl (by simp only [fin1, go_sem, seval, hc2, hc7, hc10]; try rfl))
 try simp only [N3] at hc10
 try simp only [hc10, C5] at h
 refine Runs.seq ?_
 obtain ⟨⟨b12, q12⟩, h12, h⟩ := some_bind h
 have w12 := W12 _ _ _ _ h12
 try dsimp only at h
 refine Runs.reg (by simp only [go_sem, seval, w12, hc2, hc7, hc10]; rfl) (by simp only [long75, go_sem, seval]; rfl) ?_
 refine Runs.cond (t := 41) rfl (fun hc13 => ?_) (fun hc13 => ?_)
 ·
  try simp only [N3] at hc13
  try simp only [hc13, C5] at h
  refine Runs.seq ?_
  refine Runs.reg (by simp only [go_sem, seval, hc2, hc7, hc10, hc13]; rfl) (by simp only [long75, go_sem, seval]; rfl) ?_
  obtain ⟨⟨l14, q14⟩, h14, h⟩ := some_bind h
  have w14 := is.e33 h14
  try dsimp only at h
  refine Runs.reg (by simp only [go_sem, seval, w14, hc2, hc7, hc10, hc13]; rfl) (by simp only [long75, go_sem, seval]; rfl) ?_
  refine Runs.seq ?_
  refine Runs.reg (by simp only [go_sem, seval, hc2, hc7, hc10, hc13]; rfl) (by simp only [long75, go_sem, seval]; rfl) ?_
  refine Runs.ret ?_
  try cases h
  try dsimp only [outX]
  first
  | rfl
  | (exact fk (res := [.cell 2 50]) rfl rfl rfl (by simp only [fin1, go_sem, seval, hc2, hc7, hc10, hc13]; try rfl))
 try simp only [N3] at hc13
 try simp only [hc13, C5] at h
 refine Runs.seq ?_
 obtain ⟨⟨b15, q15⟩, h15, h⟩ := some_bind h
 have w15 := W12 _ _ _ _ h15
 try dsimp only at h
 refine Runs.reg (by simp only [go_sem, seval, w15, hc2, hc7, hc10, hc13]; rfl) (by simp only [long75, go_sem, seval]; rfl) ?_
 refine Runs.cond (t := 48) rfl (fun hc16 => ?_) (fun hc16 => ?_)
 ·
  try simp only [N3] at hc16
  try simp only [hc16, C5] at h
  refine Runs.seq ?_
  refine Runs.reg (by simp only [go_sem, seval, hc2, hc7, hc10, hc13, hc16]; rfl) (by simp only [long75, go_sem, seval]; rfl) ?_
  obtain ⟨⟨l17, q17⟩, h17, h⟩ := some_bind h
  have w17 := is.e88 h17
  try dsimp only at h
  refine Runs.reg (by simp only [go_sem, seval, w17, hc2, hc7, hc10, hc13, hc16]; rfl) (by simp only [long75, go_sem, seval]; rfl) ?_
  refine Runs.seq ?_
  refine Runs.reg (by simp only [go_sem, seval, hc2, hc7, hc10, hc13, hc16]; rfl) (by simp only [long75, go_sem, seval]; rfl) ?_
  refine Runs.ret ?_
  try cases h
  try dsimp only [outX]
  first
  | rfl
  | (exact fk (res := [.cell 2 50]) rfl rfl rfl (by simp only [fin1, go_sem, seval, hc2, hc7, hc10, hc13, hc16]; try rfl))
 try simp only [N3] at hc16
 try simp only [hc16, C5] at h
 refine Runs.seq ?_
 obtain ⟨⟨b18, q18⟩, h18, h⟩ := some_bind h
 have w18 := W12 _ _ _ _ h18
 try dsimp only at h
 refine Runs.reg (by simp only [go_sem, seval, w18, hc2, hc7, hc10, hc13, hc16]; rfl) (by simp only [long75, go_sem, seval]; rfl) ?_
 refine Runs.cond (t := 55) rfl (fun hc19 => ?_) (fun hc19 => ?_)
 ·
  try simp only [N3] at hc19
  try simp only [hc19, C5] at h
  refine Runs.seq ?_
  refine Runs.reg (by simp only [go_sem, seval, hc2, hc7, hc10, hc13, hc16, hc19]; rfl) (by simp only [long75, go_sem, seval]; rfl) ?_
  obtain ⟨⟨l20, q20⟩, h20, h⟩ := some_bind h
  have w20 := is.e88 h20
  try dsimp only at h
  refine Runs.reg (by simp only [go_sem, seval, w20, hc2, hc7, hc10, hc13, hc16, hc19]; rfl) (by simp only [long75, go_sem, seval]; rfl) ?_
  refine Runs.seq ?_
  refine Runs.reg (by simp only [go_sem, seval, hc2, hc7, hc10, hc13, hc16, hc19]; rfl) (by simp only [long75, go_sem, seval]; rfl) ?_
  refine Runs.ret ?_
  try cases h
  try dsimp only [outX]
  first
  | rfl
  | (exact fk (res := [.cell 2 50]) rfl rfl rfl (by simp only [fin1, go_sem, seval, hc2, hc7, hc10, hc13, hc16, hc19]; try rfl))
 try simp only [N3] at hc19
 try simp only [hc19, C5] at h
 refine Runs.seq ?_
 obtain ⟨⟨b21, q21⟩, h21, h⟩ := some_bind h
 have w21 := W12 _ _ _ _ h21
 try dsimp only at h
 refine Runs.reg (by simp only [go_sem, seval, w21, hc2, hc7, hc10, hc13, hc16, hc19]; rfl) (by simp only [long75, go_sem, seval]; rfl) ?_
 refine Runs.cond (t := 62) rfl (fun hc22 => ?_) (fun hc22 => ?_)
 ·
  try simp only [N3] at hc22
  try simp only [hc22, C5] at h
  refine Runs.reg (by simp only [go_sem, seval, hc2, hc7, hc10, hc13, hc16, hc19, hc22]; rfl) (by simp only [long75, go_sem, seval]; rfl) ?_
  refine Runs.seq ?_
  refine Runs.reg (by simp only [go_sem, seval, hc2, hc7, hc10, hc13, hc16, hc19, hc22]; rfl) (by simp only [long75, go_sem, seval]; rfl) ?_
  refine Runs.ret ?_
  try cases h
  try dsimp only [outX]
  first
  | rfl
  | (exact fk (res := [.cell 2 50]) rfl rfl rfl (by simp only [fin1, go_sem, seval, hc2, hc7, hc10, hc13, hc16, hc19, hc22]; try rfl))
 try simp only [N3] at hc22
 try simp only [hc22, C5] at h
 refine Runs.seq ?_
 obtain ⟨⟨b23, q23⟩, h23, h⟩ := some_bind h
 have w23 := W12 _ _ _ _ h23
 try dsimp only at h
 refine Runs.reg (by simp only [go_sem, seval, w23, hc2, hc7, hc10, hc13, hc16, hc19, hc22]; rfl) (by simp only [long75, go_sem, seval]; rfl) ?_
 refine Runs.cond (t := 66) rfl (fun hc24 => ?_) (fun hc24 => ?_)
 ·
  try simp only [N3] at hc24
  try simp only [hc24, C5] at h
  refine Runs.reg (by simp only [go_sem, seval, hc2, hc7, hc10, hc13, hc16, hc19, hc22, hc24]; rfl) (by simp only [long75, go_sem, seval]; rfl) ?_
  refine Runs.seq ?_
  refine Runs.reg (by simp only [go_sem, seval, hc2, hc7, hc10, hc13, hc16, hc19, hc22, hc24]; rfl) (by simp only [long75, go_sem, seval]; rfl) ?_
  refine Runs.ret ?_
  try cases h
  try dsimp only [outX]
  first
  | rfl
  | (exact fk (res := [.cell 2 50]) rfl rfl rfl (by simp only [fin1, go_sem, seval, hc2, hc7, hc10, hc13, hc16, hc19, hc22, hc24]; try rfl))
 try simp only [N3] at hc24
 try simp only [hc24, C5] at h
 refine Runs.seq ?_
 obtain ⟨⟨b25, q25⟩, h25, h⟩ := some_bind h
 have w25 := W12 _ _ _ _ h25
 try dsimp only at h
 refine Runs.reg (by simp only [go_sem, seval, w25, hc2, hc7, hc10, hc13, hc16, hc19, hc22, hc24]; rfl) (by simp only [long75, go_sem, seval]; rfl) ?_
 refine Runs.cond (t := 70) rfl (fun hc26 => ?_) (fun hc26 => ?_)
 ·
  try simp only [N3] at hc26
  try simp only [hc26, C5] at h
  refine Runs.reg (by simp only [go_sem, seval, hc7, hc10, hc13, hc16, hc19, hc22, hc24, hc26]; rfl) (by simp only [long75, go_sem, seval]; rfl) ?_
  refine Runs.seq ?_
  refine Runs.reg (by simp only [go_sem, seval, hc7, hc10, hc13, hc16, hc19, hc22, hc24, hc26]; rfl) (by simp only [long75, go_sem, seval]; rfl) ?_
  refine Runs.ret ?_
  try cases h
  try dsimp only [outX]
  first
  | rfl
  | (exact fk (res := [.cell 2 50]) rfl rfl rfl (by simp only [fin1, go_sem, seval, hc7, hc10, hc13, hc16, hc19, hc22, hc24, hc26]; try rfl))
 try simp only [N3] at hc26
 try simp only [hc26, C5] at h
 refine Runs.seq ?_
 obtain ⟨⟨b27, q27⟩, h27, h⟩ := some_bind h
 have w27 := W12 _ _ _ _ h27
 try dsimp only at h
 refine Runs.reg (by simp only [go_sem, seval, w27, hc7, hc10, hc13, hc16, hc19, hc22, hc24, hc26]; rfl) (by simp only [long75, go_sem, seval]; rfl) ?_
 refine Runs.cond (t := 74) rfl (fun hc28 => ?_) (fun hc28 => ?_)
 ·
  try simp only [N3] at hc28
  try simp only [hc28, C5] at h
  refine Runs.seq ?_
  refine Runs.reg (by simp only [go_sem, seval, hc10, hc13, hc16, hc19, hc22, hc24, hc26, hc28]; rfl) (by simp only [long75, go_sem, seval]; rfl) ?_
  obtain ⟨⟨s29, q29⟩, h29, h⟩ := some_bind h
  have w29 := W30 _ _ _ h29
  try dsimp only at h
  refine Runs.reg (by simp only [go_sem, seval, w29, hc10, hc13, hc16, hc19, hc22, hc24, hc26, hc28]; rfl) (by simp only [long75, go_sem, seval]; rfl) ?_
  refine Runs.seq ?_
  refine Runs.reg (by simp only [go_sem, seval, hc10, hc13, hc16, hc19, hc22, hc24, hc26, hc28]; rfl) (by simp only [long75, go_sem, seval]; rfl) ?_
  refine Runs.ret ?_
  try cases h
  try dsimp only [outX]
  first
  | rfl
  | (exact fk (res := [.cell 2 50]) rfl rfl rfl (by simp only [fin1, go_sem, seval, hc10, hc13, hc16, hc19, hc22, hc24, hc26, hc28]; try rfl))
 try simp only [N3] at hc28
 try simp only [hc28, C5] at h
 refine Runs.seq ?_
 obtain ⟨⟨b30, q30⟩, h30, h⟩ := some_bind h
 have w30 := W12 _ _ _ _ h30
 try dsimp only at h
 refine Runs.reg (by simp only [go_sem, seval, w30, hc10, hc13, hc16, hc19, hc22, hc24, hc26, hc28]; rfl) (by simp only [long75, go_sem, seval]; rfl) ?_
 refine Runs.cond (t := 81) rfl (fun hc31 => ?_) (fun hc31 => ?_)
 ·
  try simp only [N3] at hc31
  try simp only [hc31, C5] at h
  refine Runs.seq ?_
  refine Runs.reg (by simp only [go_sem, seval, hc13, hc16, hc19, hc22, hc24, hc26, hc28, hc31]; rfl) (by simp only [long75, go_sem, seval]; rfl) ?_
  refine Runs.seq ?_
  obtain ⟨q32, h32, h⟩ := some_bind h
  have w32 := W28 _ _ _ h32
  try dsimp only at h
  refine Runs.reg (by simp only [go_sem, seval, w32, hc13, hc16, hc19, hc22, hc24, hc26, hc28, hc31]; rfl) (by simp only [long75, go_sem, seval]; rfl) ?_
  refine Runs.seq ?_
  obtain ⟨⟨e33, q33⟩, h33, h⟩ := some_bind h
  have w33 := ie.e57 h33
  try dsimp only at h
  refine Runs.reg (by simp only [go_sem, seval, w33, hc13, hc16, hc19, hc22, hc24, hc26, hc28, hc31]; rfl) (by simp only [long75, go_sem, seval]; rfl) ?_
  obtain ⟨q34, h34, h⟩ := some_bind h
  have w34 := W28 _ _ _ h34
  try dsimp only at h
  refine Runs.reg (by simp only [go_sem, seval, w34, hc13, hc16, hc19, hc22, hc24, hc26, hc28, hc31]; rfl) (by simp only [long75, go_sem, seval]; rfl) ?_
  refine Runs.seq ?_
  refine Runs.reg (by simp only [go_sem, seval, hc13, hc16, hc19, hc22, hc24, hc26, hc28, hc31]; rfl) (by simp only [long75, go_sem, seval]; rfl) ?_
  refine Runs.ret ?_
  try cases h
  try dsimp only [outX]
  first
  | rfl
  | (exact fk (res := [.cell 2 50]) rfl rfl rfl (by simp only [fin1, go_sem, seval, hc13, hc16, hc19, hc22, hc24, hc26, hc28, hc31]; try rfl))
 try simp only [N3] at hc31
 try simp only [hc31, C5] at h
 refine Runs.seq ?_
 obtain ⟨⟨b35, q35⟩, h35, h⟩ := some_bind h
 have w35 := W12 _ _ _ _ h35
 try dsimp only at h
 refine Runs.reg (by simp only [go_sem, seval, w35, hc13, hc16, hc19, hc22, hc24, hc26, hc28, hc31]; rfl) (by simp only [long75, go_sem, seval]; rfl) ?_
 refine Runs.cond (t := 92) rfl (fun hc36 => ?_) (fun hc36 => ?_)
 ·
  try simp only [N3] at hc36
  try simp only [hc36, C5] at h
  obtain ⟨⟨s37, q37⟩, h37, h⟩ := some_bind h
  have w37 := W89 ie h37
  try dsimp only at h
  try simp only [sBox, List.map_nil] at w37
  refine Runs.reg (by simp only [go_sem, seval, w37, hc16, hc19, hc22, hc24, hc26, hc28, hc31, hc36]; rfl) (by simp only [long75, go_sem, seval]; rfl) ?_
  refine Runs.seq ?_
  refine Runs.reg (by simp only [go_sem, seval, hc16, hc19, hc22, hc24, hc26, hc28, hc31, hc36]; rfl) (by simp only [long75, go_sem, seval]; rfl) ?_
  refine Runs.ret ?_
  try cases h
  try dsimp only [outX]
  first
  | rfl
  | (exact fk (res := [.cell 2 50]) rfl rfl rfl (by simp only [fin1, go_sem, seval, hc16, hc19, hc22, hc24, hc26, hc28, hc31, hc36]; try rfl))
 try simp only [N3] at hc36
 try simp only [hc36, C5] at h
 refine Runs.seq ?_
 obtain ⟨b97_, hb97_, h⟩ := some_bind h
 try dsimp only at h
 refine Runs.reg2 (e2 := [(0, pV), (2, .c (.ptr 1 0)), (3, .c (.ptr 2 0)), (97, bI b97_)]) ?_ ?_
 ·
  simp only [labQ] at hb97_
  obtain ⟨k_, hk_, hb_⟩ := some_bind hb97_
  have wk_ := W55 _ _ _ hk_
  cases hd_ : (k_ == 1) with
  | true => simp only [hd_, cond_true] at hb_; have ws_ := W27 _ _ _ _ hb_; exact ⟨_, _, by simp only [go_sem, seval, hc16, hc19, hc22, hc24, hc26, hc28, hc31, hc36, wk_, ws_, hd_]; try rfl, by simp only [long75, go_sem, seval]; try rfl⟩
  | false => simp only [hd_, cond_false] at hb_; cases hb_; exact ⟨_, _, by simp only [go_sem, seval, hc16, hc19, hc22, hc24, hc26, hc28, hc31, hc36, wk_, hd_]; try rfl, by simp only [long75, go_sem, seval]; try rfl⟩
 refine Runs.cond (t := 97) rfl (fun hc38 => ?_) (fun hc38 => ?_)
 ·
  try simp only [N3] at hc38
  try simp only [hc38, C5] at h
  refine Runs.seq ?_
  refine Runs.reg (by simp only [go_sem, seval, hc19, hc22, hc24, hc26, hc28, hc31, hc36, hc38]; rfl) (by simp only [long75, go_sem, seval]; rfl) ?_
  refine Runs.seq ?_
  obtain ⟨⟨s39, q39⟩, h39, h⟩ := some_bind h
  have w39 := W30 _ _ _ h39
  try dsimp only at h
  refine Runs.reg (by simp only [go_sem, seval, w39, hc19, hc22, hc24, hc26, hc28, hc31, hc36, hc38]; rfl) (by simp only [long75, go_sem, seval]; rfl) ?_
  refine Runs.seq ?_
  obtain ⟨q40, h40, h⟩ := some_bind h
  have w40 := W28 _ _ _ h40
  try dsimp only at h
  refine Runs.reg (by simp only [go_sem, seval, w40, hc19, hc22, hc24, hc26, hc28, hc31, hc36, hc38]; rfl) (by simp only [long75, go_sem, seval]; rfl) ?_
  refine Runs.seq ?_
  refine Runs.seq ?_
  obtain ⟨b41, h41, h⟩ := some_bind h
  have w41 := W25 _ _ _ h41
  try dsimp only at h
  refine Runs.reg (by simp only [go_sem, seval, w41, hc19, hc22, hc24, hc26, hc28, hc31, hc36, hc38]; rfl) (by simp only [long75, go_sem, seval]; rfl) ?_
  refine Runs.cond (t := 113) rfl (fun hc42 => ?_) (fun hc42 => ?_)
  ·
   try simp only [N3] at hc42
   try simp only [hc42, C5] at h
   obtain ⟨⟨l43, q43⟩, h43, h⟩ := some_bind h
   have w43 := ie.e86 h43
   try dsimp only at h
   refine Runs.reg (by simp only [go_sem, seval, w43, hc22, hc24, hc26, hc28, hc31, hc36, hc38, hc42]; rfl) (by simp only [long75, go_sem, seval]; rfl) ?_
   obtain ⟨q44, h44, h⟩ := some_bind h
   have w44 := W28 _ _ _ h44
   try dsimp only at h
   refine Runs.reg (by simp only [go_sem, seval, w44, hc22, hc24, hc26, hc28, hc31, hc36, hc38, hc42]; rfl) (by simp only [long75, go_sem, seval]; rfl) ?_
   refine Runs.seq ?_
   refine Runs.reg (by simp only [go_sem, seval, hc22, hc24, hc26, hc28, hc31, hc36, hc38, hc42]; rfl) (by simp only [long75, go_sem, seval]; rfl) ?_
   refine Runs.ret ?_
   try cases h
   try dsimp only [outX]
   first
   | rfl
   | (exact fk (res := [.cell 2 50]) rfl rfl rfl (by simp only [fin1, go_sem, seval, hc22, hc24, hc26, hc28, hc31, hc36, hc38, hc42]; try rfl))
  try simp only [N3] at hc42
  try simp only [hc42, C5] at h
  refine Runs.skip ?_
  obtain ⟨q45, h45, h⟩ := some_bind h
  have w45 := W28 _ _ _ h45
  try dsimp only at h
  refine Runs.reg (by simp only [go_sem, seval, w45, hc22, hc24, hc26, hc28, hc31, hc36, hc38, hc42]; rfl) (by simp only [long75, go_sem, seval]; rfl) ?_
  refine Runs.seq ?_
  refine Runs.reg (by simp only [go_sem, seval, hc22, hc24, hc26, hc28, hc31, hc36, hc38, hc42]; rfl) (by simp only [long75, go_sem, seval]; rfl) ?_
  refine Runs.ret ?_
  try cases h
  try dsimp only [outX]
  first
  | rfl
  | (exact fk (res := [.cell 2 50]) rfl rfl rfl (by simp only [fin1, go_sem, seval, hc22, hc24, hc26, hc28, hc31, hc36, hc38, hc42]; try rfl))
 try simp only [N3] at hc38
 try simp only [hc38, C5] at h
 obtain ⟨⟨s46, q46⟩, h46, h⟩ := some_bind h
 have w46 := W90 ie h46
 try dsimp only at h
 try simp only [sBox, List.map_nil] at w46
 refine Runs.reg (by simp only [go_sem, seval, w46, hc19, hc22, hc24, hc26, hc28, hc31, hc36, hc38]; rfl) (by simp only [long75, go_sem, seval]; rfl) ?_
 refine Runs.seq ?_
 refine Runs.reg (by simp only [go_sem, seval, hc19, hc22, hc24, hc26, hc28, hc31, hc36, hc38]; rfl) (by simp only [long75, go_sem, seval]; rfl) ?_
 refine Runs.ret ?_
 try cases h
 try dsimp only [outX]
 first
 | rfl
 | (exact fk (res := [.cell 2 50]) rfl rfl rfl (by simp only [fin1, go_sem, seval, hc19, hc22, hc24, hc26, hc28, hc31, hc36, hc38]; try rfl))
end Go.Proofs.YtmkacifjegnehaaDoor
