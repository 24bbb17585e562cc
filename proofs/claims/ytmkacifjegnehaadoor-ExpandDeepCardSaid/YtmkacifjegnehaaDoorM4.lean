import Derived.Test.YtmkacifjegnehaaDoorM3
import Derived.Test.YtmkacifjegnehaaDoorDat
namespace Go.Proofs.YtmkacifjegnehaaDoor
open Go Go.Proofs Go.Proofs.YtmkacifjegnehaaDoor.Ab
set_option linter.unusedSimpArgs false
set_option linter.unusedVariables false
set_option maxRecDepth 10000
set_option maxHeartbeats 4000000
abbrev pV : V := .c (.ptr 0 0)
theorem T73 (s : List UInt8) : callW ip 65 [.c (.d (.str s))] [] = some (.ret [.c (.d (.int .i64 (levelP s)))], []) := W73 s _ rfl
theorem T59 (s : List UInt8) : callW ip 51 [.c (.d (.str s))] [] = some (.ret [.c (.d (.int .i64 (kindOfP s)))], []) := W59 s _ rfl
abbrev ExF := PS → Int → Option (Ast × PS)
def incBy (p : PS) (k : Int) : PS := { p with pos := wadd p.pos k }
attribute [go_sem] incBy
def refE (p : PS) (r : Ref) (names : List Bytes) (i : Ast) (b : Bool) : Option ((PS × Ref) ⊕ (Ref × PS)) := (appP r.index [i]).bind fun index => (appP r.has [b]).bind fun has => (takeP p [46]).bind fun (m, p) => cond m (some (.inl (p, ⟨names, index, has⟩))) (some (.inr (⟨names, index, has⟩, p)))
def refB (ex : ExF) (x : PS × Ref) : Option ((PS × Ref) ⊕ (Ref × PS)) := cond (okP x.1) ((idP x.1).bind fun (s, p) => (appP x.2.names [s]).bind fun names => (takeP p [91]).bind fun (b, p) => cond b ((ex p 0).bind fun (i, p) => (needP p [93]).bind fun p => refE p x.2 names i true) (refE p x.2 names ast0 false)) (some (.inr (x.2, x.1)))
def exprB (ex : ExF) (above : Int) (x : PS × Ast) : Option ((PS × Ast) ⊕ (Ast × PS)) := (kindP x.1 0).bind fun k => cond (k == 4) ((getP x.1.l x.1.pos).bind fun t => cond (decide (levelP t.text ≤ above)) (some (.inr (x.2, x.1))) ((ex (incBy x.1 1) (levelP t.text)).bind fun (b, q) => some (.inl (q, { ast0 with kind := 4, name := t.text, kids := [x.2, b] })))) (some (.inr (x.2, x.1)))
def exprsB (ex : ExF) (x : PS × List Ast) : Option ((PS × List Ast) ⊕ (List Ast × PS)) := (takeP x.1 [44]).bind fun (b, p) => cond b ((ex p 0).bind fun (e, p) => (appP x.2 [e]).bind fun l => some (.inl (p, l))) (some (.inr (x.2, p)))
def argsB (ar : PS → Option (Arg × PS)) (x : PS × List Arg) : Option ((PS × List Arg) ⊕ (List Arg × PS)) := (takeP x.1 [44]).bind fun (b, p) => cond b ((ar p).bind fun (e, p) => (appP x.2 [e]).bind fun l => some (.inl (p, l))) (some (.inr (x.2, p)))
def unE (op : Bytes) (e : Ast) : Ast := { ast0 with kind := 3, name := op, kids := [e] }
def lenE (re : PS → Option (Ref × PS)) (p : PS) (w : Bytes) : Option (Ast × PS) := (needP p [40]).bind fun p => (re p).bind fun (r, p) => (needP p [41]).bind fun p => some ({ ast0 with kind := 6, name := w, ref := r }, p)
def unaryQ (un pr : PS → Option (Ast × PS)) (p : PS) : Option (Ast × PS) := (takeP p [33]).bind fun (b, p) => cond b ((un p).bind fun (e, p) => some (unE [33] e, p)) ((takeP p [126]).bind fun (b, p) => cond b ((un p).bind fun (e, p) => some (unE [126] e, p)) ((takeP p [45]).bind fun (b, p) => cond b ((un p).bind fun (e, p) => some (unE [45] e, p)) ((pr p).bind fun (e, p) => some (e, p))))
def wordQ (p : PS) (w : Bytes) (k : PS → Option (Ast × PS)) : Option (Ast × PS) := (takeP p w).bind fun (b, p) => cond b (some ({ ast0 with kind := 10, name := w }, p)) (k p)
def lenQ (re : PS → Option (Ref × PS)) (p : PS) (w : Bytes) (k : PS → Option (Ast × PS)) : Option (Ast × PS) := (takeP p w).bind fun (b, p) => cond b (lenE re p w) (k p)
def primQ (ex : ExF) (na : PS → Option (Ast × PS)) (exs : PS → Option (List Ast × PS)) (re : PS → Option (Ref × PS)) (p : PS) : Option (Ast × PS) := (kindP p 0).bind fun k => cond (k == 2) ((getP p.l (wsub (wadd p.pos 1) 1)).bind fun t => some ({ ast0 with kind := 1, n := t.n }, incBy p 1)) ((kindP p 0).bind fun k => cond (k == 1) ((na p).bind fun (e, p) => some (e, p)) (
  (takeP p [116, 114, 117, 101]).bind fun (b, p) => cond b (some ({ ast0 with kind := 1, n := 1 }, p)) ((takeP p [102, 97, 108, 115, 101]).bind fun (b, p) => cond b (some ({ ast0 with kind := 1 }, p)) (
  (takeP p [40]).bind fun (b, p) => cond b ((ex p 0).bind fun (a, p) => (takeP p [45, 62]).bind fun (b, p) => cond b ((ex p 0).bind fun (b, p) => (needP p [58]).bind fun p => (ex p 0).bind fun (c, p) => (needP p [41]).bind fun p => some ({ ast0 with kind := 5, kids := [a, b, c] }, p)) ((needP p [41]).bind fun p => some (a, p))) (
  (takeP p [114, 117, 110]).bind fun (b, p) => cond b ((idP p).bind fun (s, p) => (needP p [40]).bind fun p => (seesP p 0 [41]).bind fun b => cond b ((needP p [41]).bind fun p => some ({ ast0 with kind := 8, name := s }, p)) ((exs p).bind fun (l, p) => (needP p [41]).bind fun p => some ({ ast0 with kind := 8, name := s, kids := l }, p))) (
  wordQ p [116, 105, 109, 101, 111, 117, 116] fun p => wordQ p [110, 112, 95] fun p => wordQ p [95, 112, 105, 100] fun p => wordQ p [95, 110, 114, 95, 112, 114] fun p =>
  lenQ re p [108, 101, 110] fun p => lenQ re p [102, 117, 108, 108] fun p => lenQ re p [101, 109, 112, 116, 121] fun p => lenQ re p [110, 102, 117, 108, 108] fun p => lenQ re p [110, 101, 109, 112, 116, 121] fun p =>
  (wrongP p).bind fun p => some (ast0, p)))))))
def pollQ (go : PS → Option (List Arg × PS)) (p : PS) (r : Ref) : Option (Ast × PS) := (seesP p 1 [91]).bind fun b => cond b ((getP p.l p.pos).bind fun t => (go (incBy p 2)).bind fun (l, p) => (needP p [93]).bind fun p => some ({ ast0 with kind := 7, name := t.text, ref := r, args := l }, p)) (some ({ ast0 with kind := 2, ref := r }, p))
def namedR (go : PS → Option (List Arg × PS)) (p : PS) (r : Ref) : Option (Ast × PS) := (seesP p 0 [63]).bind fun b => cond b (pollQ go p r) ((seesP p 0 [63, 63]).bind fun b => cond b (pollQ go p r) (some ({ ast0 with kind := 2, ref := r }, p)))
def namedQ (re : PS → Option (Ref × PS)) (go : PS → Option (List Arg × PS)) (p : PS) : Option (Ast × PS) := (re p).bind fun (r, p) => (seesP p 0 [64]).bind fun b => cond b (cond ((r.names.length : Int) == 1) ((getP r.has 0).bind fun h => cond h ((getP r.names 0).bind fun s => (getP r.index 0).bind fun i => (idP (incBy p 1)).bind fun (l, p) => some ({ ast0 with kind := 9, name := s, label := l, kids := [i] }, p)) (namedR go p r)) (namedR go p r)) (namedR go p r)
def gotQ (ar : PS → Option (Arg × PS)) (p : PS) : Option (List Arg × PS) := (ar p).bind fun (a, p) => (takeP p [40]).bind fun (b, p) => cond b ((ar p).bind fun (a2, p) => (appP [a] [a2]).bind fun l => (loopO (argsB ar) (p.l.length + 2) (p, l)).bind fun (l, p) => (needP p [41]).bind fun p => some (l, p)) (loopO (argsB ar) (p.l.length + 2) (p, [a]))
def sentQ (ex : ExF) (exs : PS → Option (List Ast × PS)) (p : PS) : Option (List Ast × PS) := (ex p 0).bind fun (a, p) => (takeP p [40]).bind fun (b, p) => cond b ((exs p).bind fun (l, p) => (appP [a] l).bind fun l => (needP p [41]).bind fun p => some (l, p)) (loopO (exprsB ex) (p.l.length + 2) (p, [a]))
def argUn (un : PS → Option (Ast × PS)) (p : PS) : Option (Arg × PS) := (un p).bind fun (e, p) => some (⟨true, false, e⟩, p)
def argQ (ex : ExF) (re : PS → Option (Ref × PS)) (un : PS → Option (Ast × PS)) (p : PS) : Option (Arg × PS) := (takeP p [95]).bind fun (b, p) => cond b (some (⟨false, true, ast0⟩, p)) ((takeP p [101, 118, 97, 108]).bind fun (b, p) => cond b ((needP p [40]).bind fun p => (ex p 0).bind fun (e, p) => (needP p [41]).bind fun p => some (⟨true, false, e⟩, p)) (
  (kindP p 0).bind fun k => cond (k == 1) ((re p).bind fun (r, p) => some (⟨false, false, { ast0 with kind := 2, ref := r }⟩, p)) (
  (seesP p 0 [45]).bind fun b => cond b (argUn un p) ((kindP p 0).bind fun k => cond (k == 2) (argUn un p) ((seesP p 0 [116, 114, 117, 101]).bind fun b => cond b (argUn un p) ((seesP p 0 [102, 97, 108, 115, 101]).bind fun b => cond b (argUn un p) ((wrongP p).bind fun p => some (arg0, p))))))))
mutual
def exprP : Nat → PS → Int → Option (Ast × PS)
  | 0, _, _ => none
  | n + 1, p, above => (unaryP n p).bind fun (a, p) => loopO (exprB (exprP n) above) (p.l.length + 2) (p, a)
def unaryP : Nat → PS → Option (Ast × PS)
  | 0, _ => none
  | n + 1, p => unaryQ (unaryP n) (primP n) p
def primP : Nat → PS → Option (Ast × PS)
  | 0, _ => none
  | n + 1, p => primQ (exprP n) (namedP n) (exprsP n) (refP n) p
def namedP : Nat → PS → Option (Ast × PS)
  | 0, _ => none
  | n + 1, p => namedQ (refP n) (gotP n) p
def exprsP : Nat → PS → Option (List Ast × PS)
  | 0, _ => none
  | n + 1, p => (exprP n p 0).bind fun (e, p) => loopO (exprsB (exprP n)) (p.l.length + 2) (p, [e])
def refP : Nat → PS → Option (Ref × PS)
  | 0, _ => none
  | n + 1, p => loopO (refB (exprP n)) (p.l.length + 2) (p, ref0)
def gotP : Nat → PS → Option (List Arg × PS)
  | 0, _ => none
  | n + 1, p => gotQ (argP n) p
def argP : Nat → PS → Option (Arg × PS)
  | 0, _ => none
  | n + 1, p => argQ (exprP n) (refP n) (unaryP n) p
end
def sentP (n : Nat) (p : PS) : Option (List Ast × PS) := sentQ (exprP n) (exprsP n) p
structure ExprIH (n : Nat) : Prop where
  e57 : ∀ {p q : PS} {a : Int} {e : Ast}, exprP n p a = some (e, q) → callW ip 49 [pV, iI a] [pBox p] = some (.ret [astV e], [pBox q])
  e72 : ∀ {p q : PS} {e : Ast}, unaryP n p = some (e, q) → callW ip 64 [pV] [pBox p] = some (.ret [astV e], [pBox q])
  e81 : ∀ {p q : PS} {e : Ast}, primP n p = some (e, q) → callW ip 73 [pV] [pBox p] = some (.ret [astV e], [pBox q])
  e85 : ∀ {p q : PS} {e : Ast}, namedP n p = some (e, q) → callW ip 77 [pV] [pBox p] = some (.ret [astV e], [pBox q])
  e86 : ∀ {p q : PS} {l : List Ast}, exprsP n p = some (l, q) → callW ip 78 [pV] [pBox p] = some (.ret [slV astD l], [pBox q])
  e87 : ∀ {p q : PS} {r : Ref}, refP n p = some (r, q) → callW ip 79 [pV] [pBox p] = some (.ret [refV r], [pBox q])
  e92 : ∀ {p q : PS} {l : List Arg}, gotP n p = some (l, q) → callW ip 84 [pV] [pBox p] = some (.ret [slV argD l], [pBox q])
  e98 : ∀ {p q : PS} {a : Arg}, argP n p = some (a, q) → callW ip 90 [pV] [pBox p] = some (.ret [argV a], [pBox q])

theorem W87 {n : Nat} (ih : ExprIH n) {p q : PS} {r : Ref} (h : refP (n + 1) p = some (r, q)) : callW ip 79 [pV] [pBox p] = some (.ret [refV r], [pBox q]) := by
 simp only [refP, wadd, wsub, incBy] at h
 generalize p.l.length + 2 = N at h
 refine callW_runs (fn := Tryd.f79) (L := long79) (nt := 42) (n0 := 1) (T := tab) (rw' := []) (kA := keepA) Tryd.func79 rfl rfl rfl rfl rfl rfl rfl rfl rfl ?_
 refine Runs.seq ?_
 refine Runs.reg (by simp only [go_sem, seval]; rfl) (by simp only [long79, go_sem, seval]; rfl) ?_
 refine Runs.seq ?_
 refine Runs.reg (by simp only [go_sem, seval]; rfl) (by simp only [long79, go_sem, seval]; rfl) ?_
 refine Runs.seq ?_
 refine Runs.block ?_
 refine Runs.loop_rel (fun mz_ en hp => ∃ (x : PS × Ref), loopO (refB (exprP n)) mz_ x = some (r, q) ∧ en = [(0, pV), (2, .c (.ptr 1 0)), (3, .c (.ptr 2 0))] ∧ hp = [.box [.d (.str x.1.s), .d (.sl (x.1.l.map tokD)), .d (.int .i64 x.1.pos), .d (.int .i64 x.1.code), .d (.int .i64 x.1.mat)], .box [.nilS, .nilS, .nilS], .box [.row 3, .row 4, .row 5], .row 9 1 x.2.names.length (rowC strD x.2.names), .row 39 9 x.2.index.length (rowC astD x.2.index), .row 4 1 x.2.has.length (rowC boD x.2.has)]) ?_ ⟨_, h, (by first | rfl | (simp only [go_sem, seval]; done) | (simp only [go_sem, seval]; rfl)), (by first | rfl | (simp only [go_sem, seval]; done) | (simp only [go_sem, seval]; rfl))⟩
 clear h
 rintro m1 en hp ⟨⟨p1, r1⟩, h, rfl, rfl⟩
 obtain _ | m1 := m1
 · cases h
 simp only [loopO, refB, refE, wadd, wsub, incBy] at h
 obtain ⟨r1, h, g1⟩ := some_bind h
 refine Runs.seq ?_
 refine Runs.seq ?_
 refine Runs.reg (by simp only [go_sem, seval, W11]; rfl) (by simp only [long79, go_sem, seval]; rfl) ?_
 refine Runs.cond (t := 8) rfl (fun hc2 => ?_) (fun hc2 => ?_)
 ·
  try simp only [N3] at hc2
  try simp only [hc2, C5] at h
  refine Runs.skip ?_
  refine Runs.block ?_
  refine Runs.seq ?_
  obtain ⟨⟨s3, q3⟩, h3, h⟩ := some_bind h
  have w3 := W30 _ _ _ h3
  try dsimp only at h
  obtain ⟨y4, h4, h⟩ := some_bind h
  obtain ⟨le4, rfl⟩ := appP_some h4
  try simp only [List.length_set, List.length_map, List.length_append, List.length_cons, List.length_nil, seval] at le4
  try dsimp only at h
  refine Runs.drw rfl (by simp only [go_sem, seval, w3, le4, hc2]; rfl) (by simp only [long79, go_sem, seval]; rfl) ?_
  refine Runs.seq ?_
  obtain ⟨⟨b5, q5⟩, h5, h⟩ := some_bind h
  have w5 := W12 _ _ _ _ h5
  try dsimp only at h
  refine Runs.reg (by simp only [go_sem, seval, w3, le4, w5, hc2]; rfl) (by simp only [long79, go_sem, seval]; rfl) ?_
  refine Runs.seq ?_
  refine Runs.reg (by simp only [go_sem, seval, w3, le4, hc2]; rfl) (by simp only [long79, go_sem, seval]; rfl) ?_
  refine Runs.seq ?_
  refine Runs.seq ?_
  refine Runs.reg (by simp only [go_sem, seval, w3, le4, hc2]; rfl) (by simp only [long79, go_sem, seval]; rfl) ?_
  refine Runs.cond (t := 19) rfl (fun hc6 => ?_) (fun hc6 => ?_)
  ·
   try simp only [N3] at hc6
   try simp only [hc6, C5] at h
   refine Runs.seq ?_
   obtain ⟨⟨e7, q7⟩, h7, h⟩ := some_bind h
   have w7 := ih.e57 h7
   try dsimp only at h
   refine Runs.reg (by simp only [go_sem, seval, w3, le4, w7, hc2, hc6]; rfl) (by simp only [long79, go_sem, seval]; rfl) ?_
   obtain ⟨q8, h8, h⟩ := some_bind h
   have w8 := W28 _ _ _ h8
   try dsimp only at h
   refine Runs.reg (by simp only [go_sem, seval, w3, le4, w8, hc2, hc6]; rfl) (by simp only [long79, go_sem, seval]; rfl) ?_
   refine Runs.seq ?_
   obtain ⟨y9, h9, h⟩ := some_bind h
   obtain ⟨le9, rfl⟩ := appP_some h9
   try simp only [List.length_set, List.length_map, List.length_append, List.length_cons, List.length_nil, seval] at le9
   try dsimp only at h
   refine Runs.reg (by simp only [go_sem, seval, w3, le4, le9, hc2, hc6]; rfl) (by simp only [long79, go_sem, seval]; rfl) ?_
   refine Runs.seq ?_
   obtain ⟨y10, h10, h⟩ := some_bind h
   obtain ⟨le10, rfl⟩ := appP_some h10
   try simp only [List.length_set, List.length_map, List.length_append, List.length_cons, List.length_nil, seval] at le10
   try dsimp only at h
   refine Runs.reg (by simp only [go_sem, seval, w3, le4, le10, hc2, hc6]; rfl) (by simp only [long79, go_sem, seval]; rfl) ?_
   refine Runs.seq ?_
   obtain ⟨⟨b11, q11⟩, h11, h⟩ := some_bind h
   have w11 := W12 _ _ _ _ h11
   try dsimp only at h
   refine Runs.reg (by simp only [go_sem, seval, w3, le4, w11, hc2, hc6]; rfl) (by simp only [long79, go_sem, seval]; rfl) ?_
   refine Runs.seq ?_
   refine Runs.reg (by simp only [go_sem, seval, w3, le4, hc2, hc6]; rfl) (by simp only [long79, go_sem, seval]; rfl) ?_
   refine Runs.cond (t := 39) rfl (fun hc12 => ?_) (fun hc12 => ?_)
   ·
    try simp only [N3] at hc12
    try simp only [hc12, C5] at h
    refine Runs.seq ?_
    refine Runs.reg (by simp only [go_sem, seval, w3, le4, hc2, hc6, hc12]; rfl) (by simp only [long79, go_sem, seval]; rfl) ?_
    refine Runs.ret ?_
    cases h
    cases g1
    try cases h
    try dsimp only [outX]
    first
    | rfl
    | (exact fk (res := [.cell 2 36]) rfl rfl rfl (by simp only [fin1, go_sem, seval, w3, le4, hc2, hc6, hc12]; try rfl))
   try simp only [N3] at hc12
   try simp only [hc12, C5] at h
   refine Runs.skip ?_
   cases h
   refine ⟨m1, Nat.lt_succ_self _, _, _, by simp only [go_sem, seval, w3, le4]; try rfl, _, g1, rfl, rfl⟩
  try simp only [N3] at hc6
  try simp only [hc6, C5] at h
  refine Runs.skip ?_
  refine Runs.seq ?_
  obtain ⟨y13, h13, h⟩ := some_bind h
  obtain ⟨le13, rfl⟩ := appP_some h13
  try simp only [List.length_set, List.length_map, List.length_append, List.length_cons, List.length_nil, seval] at le13
  try dsimp only at h
  refine Runs.reg (by simp only [go_sem, seval, w3, le4, le13, hc2, hc6]; rfl) (by simp only [long79, go_sem, seval]; rfl) ?_
  refine Runs.seq ?_
  obtain ⟨y14, h14, h⟩ := some_bind h
  obtain ⟨le14, rfl⟩ := appP_some h14
  try simp only [List.length_set, List.length_map, List.length_append, List.length_cons, List.length_nil, seval] at le14
  try dsimp only at h
  refine Runs.reg (by simp only [go_sem, seval, w3, le4, le14, hc2, hc6]; rfl) (by simp only [long79, go_sem, seval]; rfl) ?_
  refine Runs.seq ?_
  obtain ⟨⟨b15, q15⟩, h15, h⟩ := some_bind h
  have w15 := W12 _ _ _ _ h15
  try dsimp only at h
  refine Runs.reg (by simp only [go_sem, seval, w3, le4, w15, hc2, hc6]; rfl) (by simp only [long79, go_sem, seval]; rfl) ?_
  refine Runs.seq ?_
  refine Runs.reg (by simp only [go_sem, seval, w3, le4, hc2, hc6]; rfl) (by simp only [long79, go_sem, seval]; rfl) ?_
  refine Runs.cond (t := 39) rfl (fun hc16 => ?_) (fun hc16 => ?_)
  ·
   try simp only [N3] at hc16
   try simp only [hc16, C5] at h
   refine Runs.seq ?_
   refine Runs.reg (by simp only [go_sem, seval, w3, le4, hc2, hc6, hc16]; rfl) (by simp only [long79, go_sem, seval]; rfl) ?_
   refine Runs.ret ?_
   cases h
   cases g1
   try cases h
   try dsimp only [outX]
   first
   | rfl
   | (exact fk (res := [.cell 2 36]) rfl rfl rfl (by simp only [fin1, go_sem, seval, w3, le4, hc2, hc6, hc16]; try rfl))
  try simp only [N3] at hc16
  try simp only [hc16, C5] at h
  refine Runs.skip ?_
  cases h
  refine ⟨m1, Nat.lt_succ_self _, _, _, by simp only [go_sem, seval, w3, le4]; try rfl, _, g1, rfl, rfl⟩
 try simp only [N3] at hc2
 try simp only [hc2, C5] at h
 refine Runs.exit ?_
 cases h
 cases g1
 refine Runs.seq ?_
 refine Runs.reg (by simp only [go_sem, seval, hc2]; rfl) (by simp only [long79, go_sem, seval]; rfl) ?_
 refine Runs.ret ?_
 try cases h
 try dsimp only [outX]
 first
 | rfl
 | (exact fk (res := [.cell 2 36]) rfl rfl rfl (by simp only [fin1, go_sem, seval, hc2]; try rfl))
theorem W57 {n : Nat} (ih : ExprIH n) {p q : PS} {a : Int} {e : Ast} (h : exprP (n + 1) p a = some (e, q)) : callW ip 49 [pV, iI a] [pBox p] = some (.ret [astV e], [pBox q]) := by
 simp only [exprP, wadd, wsub, incBy] at h
 refine callW_runs (fn := Tryd.f49) (L := long49) (nt := 47) (n0 := 1) (T := tab) (rw' := []) (kA := keepA) Tryd.func49 rfl rfl rfl rfl rfl rfl rfl rfl rfl ?_
 refine Runs.seq ?_
 refine Runs.reg (by simp only [go_sem, seval]; rfl) (by simp only [long49, go_sem, seval]; rfl) ?_
 refine Runs.seq ?_
 obtain ⟨⟨e1, q1⟩, h1, h⟩ := some_bind h
 have w1 := ih.e72 h1
 try dsimp only at h
 refine Runs.reg (by simp only [go_sem, seval, w1]; rfl) (by simp only [long49, go_sem, seval]; rfl) ?_
 refine Runs.seq ?_
 refine Runs.block ?_
 refine Runs.loop_rel (fun mz_ en hp => ∃ (x : PS × Ast), loopO (exprB (exprP n) a) mz_ x = some (e, q) ∧ en = [(0, pV), (1, iI a), (4, .c (.ptr 1 0)), (5, .c (.ptr 2 0))] ∧ hp = [.box [.d (.str x.1.s), .d (.sl (x.1.l.map tokD)), .d (.int .i64 x.1.pos), .d (.int .i64 x.1.code), .d (.int .i64 x.1.mat)], .box [.d (.int .i64 0), .d (.int .i64 0), .d (.str []), .d (.str []), .nilS, .nilS, .nilS, .nilS, .nilS], .box [.d (.int .i64 x.2.kind), .d (.int .i64 x.2.n), .d (.str x.2.name), .d (.str x.2.label), .d (.sl (x.2.ref.names.map strD)), .d (.sl (x.2.ref.index.map astD)), .d (.sl (x.2.ref.has.map boD)), .d (.sl (x.2.kids.map astD)), .d (.sl (x.2.args.map argD))]]) ?_ ⟨_, h, (by first | rfl | (simp only [go_sem, seval]; done) | (simp only [go_sem, seval]; rfl)), (by first | rfl | (simp only [go_sem, seval]; done) | (simp only [go_sem, seval]; rfl))⟩
 clear h
 rintro m2 en hp ⟨⟨p1, a1⟩, h, rfl, rfl⟩
 obtain _ | m2 := m2
 · cases h
 simp only [loopO, exprB, wadd, wsub, incBy] at h
 obtain ⟨r2, h, g2⟩ := some_bind h
 refine Runs.seq ?_
 refine Runs.seq ?_
 obtain ⟨k3, h3, h⟩ := some_bind h
 have w3 := W55 _ _ _ h3
 try dsimp only at h
 refine Runs.reg (by simp only [go_sem, seval, w3]; rfl) (by simp only [long49, go_sem, seval]; rfl) ?_
 refine Runs.cond (t := 13) rfl (fun hc4 => ?_) (fun hc4 => ?_)
 ·
  try simp only [N3] at hc4
  try simp only [hc4, C5] at h
  refine Runs.skip ?_
  refine Runs.block ?_
  refine Runs.seq ?_
  obtain ⟨x5, h5, h⟩ := some_bind h
  obtain ⟨ge5, at5⟩ := getP_some h5
  try dsimp only at h
  refine Runs.drw rfl (by simp only [go_sem, seval, ge5, at5, hc4]; rfl) (by simp only [long49, go_sem, seval]; rfl) ?_
  refine Runs.seq ?_
  refine Runs.reg (by simp only [go_sem, seval, ge5, at5, T73, hc4]; rfl) (by simp only [long49, go_sem, seval]; rfl) ?_
  refine Runs.seq ?_
  refine Runs.seq ?_
  refine Runs.reg (by simp only [go_sem, seval, ge5, at5, hc4]; rfl) (by simp only [long49, go_sem, seval]; rfl) ?_
  refine Runs.cond (t := 29) rfl (fun hc6 => ?_) (fun hc6 => ?_)
  ·
   try simp only [N3] at hc6
   try simp only [hc6, C5] at h
   refine Runs.seq ?_
   refine Runs.reg (by simp only [go_sem, seval, ge5, at5, hc4, hc6]; rfl) (by simp only [long49, go_sem, seval]; rfl) ?_
   refine Runs.ret ?_
   cases h
   cases g2
   try cases h
   try dsimp only [outX]
   first
   | rfl
   | (exact fk (res := [.cell 4 39]) rfl rfl rfl (by simp only [fin1, go_sem, seval, ge5, at5, hc4, hc6]; try rfl))
  try simp only [N3] at hc6
  try simp only [hc6, C5] at h
  refine Runs.skip ?_
  refine Runs.seq ?_
  refine Runs.reg (by simp only [go_sem, seval, ge5, at5, hc4, hc6]; rfl) (by simp only [long49, go_sem, seval]; rfl) ?_
  refine Runs.seq ?_
  obtain ⟨⟨e7, q7⟩, h7, h⟩ := some_bind h
  have w7 := ih.e57 h7
  try dsimp only at h
  refine Runs.reg (by simp only [go_sem, seval, ge5, at5, w7, hc4, hc6]; rfl) (by simp only [long49, go_sem, seval]; rfl) ?_
  refine Runs.reg (by simp only [go_sem, seval, ge5, at5, hc4, hc6]; rfl) (by simp only [long49, go_sem, seval]; rfl) ?_
  cases h
  refine ⟨m2, Nat.lt_succ_self _, _, _, by simp only [go_sem, seval, ge5, at5]; try rfl, _, g2, rfl, rfl⟩
 try simp only [N3] at hc4
 try simp only [hc4, C5] at h
 refine Runs.exit ?_
 cases h
 cases g2
 refine Runs.seq ?_
 refine Runs.reg (by simp only [go_sem, seval, hc4]; rfl) (by simp only [long49, go_sem, seval]; rfl) ?_
 refine Runs.ret ?_
 try cases h
 try dsimp only [outX]
 first
 | rfl
 | (exact fk (res := [.cell 4 39]) rfl rfl rfl (by simp only [fin1, go_sem, seval, hc4]; try rfl))
theorem W72 {n : Nat} (ih : ExprIH n) {p q : PS} {e : Ast} (h : unaryP (n + 1) p = some (e, q)) : callW ip 64 [pV] [pBox p] = some (.ret [astV e], [pBox q]) := by
 simp only [unaryP, unaryQ, unE, wadd, wsub, incBy] at h
 refine callW_runs (fn := Tryd.f64) (L := long64) (nt := 24) (n0 := 1) (T := tab) (rw' := []) (kA := keepA) Tryd.func64 rfl rfl rfl rfl rfl rfl rfl rfl rfl ?_
 refine Runs.seq ?_
 refine Runs.reg (by simp only [go_sem, seval]; rfl) (by simp only [long64, go_sem, seval]; rfl) ?_
 refine Runs.seq ?_
 refine Runs.seq ?_
 refine Runs.reg (by simp only [go_sem, seval]; rfl) (by simp only [long64, go_sem, seval]; rfl) ?_
 refine Runs.block ?_
 refine Runs.loop ?_
 refine Runs.seq ?_
 refine Runs.reg (by simp only [go_sem, seval]; rfl) (by simp only [long64, go_sem, seval]; rfl) ?_
 refine Runs.seq ?_
 refine Runs.cond (t := 9) rfl (fun hc1 => ?_) (fun hc1 => ?_)
 rotate_left
 · exact absurd hc1 (by first | decide)
 try simp only [N3] at hc1
 try simp only [hc1, C5] at h
 refine Runs.skip ?_
 refine Runs.seq ?_
 refine Runs.block ?_
 refine Runs.seq ?_
 refine Runs.reg (by simp only [go_sem, seval]; rfl) (by simp only [long64, go_sem, seval]; rfl) ?_
 refine Runs.seq ?_
 obtain ⟨⟨b2, q2⟩, h2, h⟩ := some_bind h
 have w2 := W12 _ _ _ _ h2
 try dsimp only at h
 refine Runs.reg (by simp only [go_sem, seval, w2]; rfl) (by simp only [long64, go_sem, seval]; rfl) ?_
 refine Runs.seq ?_
 refine Runs.reg (by simp only [go_sem, seval]; rfl) (by simp only [long64, go_sem, seval]; rfl) ?_
 refine Runs.cond (t := 15) rfl (fun hc3 => ?_) (fun hc3 => ?_)
 ·
  try simp only [N3] at hc3
  try simp only [hc3, C5] at h
  refine Runs.seq ?_
  obtain ⟨⟨e4, q4⟩, h4, h⟩ := some_bind h
  have w4 := ih.e72 h4
  try dsimp only at h
  refine Runs.reg (by simp only [go_sem, seval, w4, hc3]; rfl) (by simp only [long64, go_sem, seval]; rfl) ?_
  refine Runs.ret ?_
  try cases h
  try dsimp only [outX]
  first
  | rfl
  | (exact fk (res := [.cell 2 39]) rfl rfl rfl (by simp only [fin1, go_sem, seval, hc3]; try rfl))
 try simp only [N3] at hc3
 try simp only [hc3, C5] at h
 refine Runs.skip ?_
 refine Runs.reg (by simp only [go_sem, seval, hc3]; rfl) (by simp only [long64, go_sem, seval]; rfl) ?_
 refine Runs.again (by simp only [go_sem, seval, hc3]; rfl) ?_
 refine Runs.loop ?_
 refine Runs.seq ?_
 refine Runs.reg (by simp only [go_sem, seval, hc3]; rfl) (by simp only [long64, go_sem, seval]; rfl) ?_
 refine Runs.seq ?_
 refine Runs.cond (t := 9) rfl (fun hc5 => ?_) (fun hc5 => ?_)
 rotate_left
 · exact absurd hc5 (by first | decide | (simp only [hc3]; decide))
 try simp only [N3] at hc5
 try simp only [hc5, C5] at h
 refine Runs.skip ?_
 refine Runs.seq ?_
 refine Runs.block ?_
 refine Runs.seq ?_
 refine Runs.reg (by simp only [go_sem, seval, hc3]; rfl) (by simp only [long64, go_sem, seval]; rfl) ?_
 refine Runs.seq ?_
 obtain ⟨⟨b6, q6⟩, h6, h⟩ := some_bind h
 have w6 := W12 _ _ _ _ h6
 try dsimp only at h
 refine Runs.reg (by simp only [go_sem, seval, w6, hc3]; rfl) (by simp only [long64, go_sem, seval]; rfl) ?_
 refine Runs.seq ?_
 refine Runs.reg (by simp only [go_sem, seval, hc3]; rfl) (by simp only [long64, go_sem, seval]; rfl) ?_
 refine Runs.cond (t := 15) rfl (fun hc7 => ?_) (fun hc7 => ?_)
 ·
  try simp only [N3] at hc7
  try simp only [hc7, C5] at h
  refine Runs.seq ?_
  obtain ⟨⟨e8, q8⟩, h8, h⟩ := some_bind h
  have w8 := ih.e72 h8
  try dsimp only at h
  refine Runs.reg (by simp only [go_sem, seval, w8, hc3, hc7]; rfl) (by simp only [long64, go_sem, seval]; rfl) ?_
  refine Runs.ret ?_
  try cases h
  try dsimp only [outX]
  first
  | rfl
  | (exact fk (res := [.cell 2 39]) rfl rfl rfl (by simp only [fin1, go_sem, seval, hc3, hc7]; try rfl))
 try simp only [N3] at hc7
 try simp only [hc7, C5] at h
 refine Runs.skip ?_
 refine Runs.reg (by simp only [go_sem, seval, hc3, hc7]; rfl) (by simp only [long64, go_sem, seval]; rfl) ?_
 refine Runs.again (by simp only [go_sem, seval, hc3, hc7]; rfl) ?_
 refine Runs.loop ?_
 refine Runs.seq ?_
 refine Runs.reg (by simp only [go_sem, seval, hc3, hc7]; rfl) (by simp only [long64, go_sem, seval]; rfl) ?_
 refine Runs.seq ?_
 refine Runs.cond (t := 9) rfl (fun hc9 => ?_) (fun hc9 => ?_)
 rotate_left
 · exact absurd hc9 (by first | decide | (simp only [hc3, hc7]; decide))
 try simp only [N3] at hc9
 try simp only [hc9, C5] at h
 refine Runs.skip ?_
 refine Runs.seq ?_
 refine Runs.block ?_
 refine Runs.seq ?_
 refine Runs.reg (by simp only [go_sem, seval, hc3, hc7]; rfl) (by simp only [long64, go_sem, seval]; rfl) ?_
 refine Runs.seq ?_
 obtain ⟨⟨b10, q10⟩, h10, h⟩ := some_bind h
 have w10 := W12 _ _ _ _ h10
 try dsimp only at h
 refine Runs.reg (by simp only [go_sem, seval, w10, hc3, hc7]; rfl) (by simp only [long64, go_sem, seval]; rfl) ?_
 refine Runs.seq ?_
 refine Runs.reg (by simp only [go_sem, seval, hc3, hc7]; rfl) (by simp only [long64, go_sem, seval]; rfl) ?_
 refine Runs.cond (t := 15) rfl (fun hc11 => ?_) (fun hc11 => ?_)
 ·
  try simp only [N3] at hc11
  try simp only [hc11, C5] at h
  refine Runs.seq ?_
  obtain ⟨⟨e12, q12⟩, h12, h⟩ := some_bind h
  have w12 := ih.e72 h12
  try dsimp only at h
  refine Runs.reg (by simp only [go_sem, seval, w12, hc3, hc7, hc11]; rfl) (by simp only [long64, go_sem, seval]; rfl) ?_
  refine Runs.ret ?_
  try cases h
  try dsimp only [outX]
  first
  | rfl
  | (exact fk (res := [.cell 2 39]) rfl rfl rfl (by simp only [fin1, go_sem, seval, hc3, hc7, hc11]; try rfl))
 try simp only [N3] at hc11
 try simp only [hc11, C5] at h
 refine Runs.skip ?_
 refine Runs.reg (by simp only [go_sem, seval, hc3, hc7, hc11]; rfl) (by simp only [long64, go_sem, seval]; rfl) ?_
 refine Runs.again (by simp only [go_sem, seval, hc3, hc7, hc11]; rfl) ?_
 refine Runs.loop ?_
 refine Runs.seq ?_
 refine Runs.reg (by simp only [go_sem, seval, hc3, hc7, hc11]; rfl) (by simp only [long64, go_sem, seval]; rfl) ?_
 refine Runs.seq ?_
 refine Runs.cond (t := 9) rfl (fun hc13 => ?_) (fun hc13 => ?_)
 · exact absurd hc13 (by first | decide | (simp only [hc3, hc7, hc11]; decide))
 try simp only [N3] at hc13
 try simp only [hc13, C5] at h
 refine Runs.exit ?_
 refine Runs.seq ?_
 obtain ⟨⟨e14, q14⟩, h14, h⟩ := some_bind h
 have w14 := ih.e81 h14
 try dsimp only at h
 refine Runs.reg (by simp only [go_sem, seval, w14, hc3, hc7, hc11]; rfl) (by simp only [long64, go_sem, seval]; rfl) ?_
 refine Runs.ret ?_
 try cases h
 try dsimp only [outX]
 first
 | rfl
 | (exact fk (res := [.cell 2 39]) rfl rfl rfl (by simp only [fin1, go_sem, seval, hc3, hc7, hc11]; try rfl))
theorem W86 {n : Nat} (ih : ExprIH n) {p q : PS} {l : List Ast} (h : exprsP (n + 1) p = some (l, q)) : callW ip 78 [pV] [pBox p] = some (.ret [slV astD l], [pBox q]) := by
 simp only [exprsP, wadd, wsub, incBy] at h
 refine callW_runs (fn := Tryd.f78) (L := long78) (nt := 15) (n0 := 1) (T := tab) (rw' := [6]) (kA := keepA) Tryd.func78 rfl rfl rfl rfl rfl rfl rfl rfl rfl ?_
 refine Runs.seq ?_
 refine Runs.reg (by simp only [go_sem, seval]; rfl) (by simp only [long78, go_sem, seval]; rfl) ?_
 refine Runs.seq ?_
 obtain ⟨⟨e1, q1⟩, h1, h⟩ := some_bind h
 have w1 := ih.e57 h1
 try dsimp only at h
 refine Runs.reg (by simp only [go_sem, seval, w1]; rfl) (by simp only [long78, go_sem, seval]; rfl) ?_
 refine Runs.seq ?_
 refine Runs.block ?_
 refine Runs.loop_rel (fun mz_ en hp => ∃ (x : PS × List Ast), loopO (exprsB (exprP n)) mz_ x = some (l, q) ∧ en = [(0, pV), (3, .c (.row 1))] ∧ hp = [.box [.d (.str x.1.s), .d (.sl (x.1.l.map tokD)), .d (.int .i64 x.1.pos), .d (.int .i64 x.1.code), .d (.int .i64 x.1.mat)], .row 39 9 x.2.length (rowC astD x.2)]) ?_ ⟨_, h, (by first | rfl | (simp only [go_sem, seval]; done) | (simp only [go_sem, seval]; rfl)), (by first | rfl | (simp only [go_sem, seval]; done) | (simp only [go_sem, seval]; rfl))⟩
 clear h
 rintro m2 en hp ⟨⟨p1, l1⟩, h, rfl, rfl⟩
 obtain _ | m2 := m2
 · cases h
 simp only [loopO, exprsB] at h
 obtain ⟨r2, h, g2⟩ := some_bind h
 refine Runs.seq ?_
 refine Runs.seq ?_
 obtain ⟨⟨b3, q3⟩, h3, h⟩ := some_bind h
 have w3 := W12 _ _ _ _ h3
 try dsimp only at h
 refine Runs.reg (by simp only [go_sem, seval, w3]; rfl) (by simp only [long78, go_sem, seval]; rfl) ?_
 refine Runs.cond (t := 8) rfl (fun hc4 => ?_) (fun hc4 => ?_)
 ·
  try simp only [N3] at hc4
  try simp only [hc4, C5] at h
  refine Runs.skip ?_
  refine Runs.block ?_
  obtain ⟨⟨e5, q5⟩, h5, h⟩ := some_bind h
  have w5 := ih.e57 h5
  try dsimp only at h
  obtain ⟨y6, h6, h⟩ := some_bind h
  obtain ⟨le6, rfl⟩ := appP_some h6
  try simp only [List.length_set, List.length_map, List.length_append, List.length_cons, List.length_nil, seval] at le6
  try dsimp only at h
  refine Runs.reg (by simp only [go_sem, seval, w5, le6, hc4]; rfl) (by simp only [long78, go_sem, seval]; rfl) ?_
  cases h
  refine ⟨m2, Nat.lt_succ_self _, _, _, by simp only [go_sem, seval]; try rfl, _, g2, rfl, rfl⟩
 try simp only [N3] at hc4
 try simp only [hc4, C5] at h
 refine Runs.exit ?_
 cases h
 cases g2
 refine Runs.seq ?_
 refine Runs.reg (by simp only [go_sem, seval, hc4]; rfl) (by simp only [long78, go_sem, seval]; rfl) ?_
 refine Runs.ret ?_
 try cases h
 try dsimp only [outX]
 first
 | rfl
 | (exact fk (res := [.tmp 2]) rfl rfl rfl (by simp only [fin1, go_sem, seval, hc4]; try rfl))
theorem W81 {n : Nat} (ih : ExprIH n) {p q : PS} {e : Ast} (h : primP (n + 1) p = some (e, q)) : callW ip 73 [pV] [pBox p] = some (.ret [astV e], [pBox q]) := by
 simp only [primP, primQ, wordQ, lenQ, lenE, wadd, wsub, incBy] at h
 refine callW_runs (fn := Tryd.f73) (L := long73) (nt := 124) (n0 := 1) (T := tab) (rw' := []) (kA := keepA) Tryd.func73 rfl rfl rfl rfl rfl rfl rfl rfl rfl ?_
 refine Runs.seq ?_
 refine Runs.reg (by simp only [go_sem, seval]; rfl) (by simp only [long73, go_sem, seval]; rfl) ?_
 refine Runs.seq ?_
 refine Runs.seq ?_
 obtain ⟨k1, h1, h⟩ := some_bind h
 have w1 := W55 _ _ _ h1
 try dsimp only at h
 refine Runs.reg (by simp only [go_sem, seval, w1]; rfl) (by simp only [long73, go_sem, seval]; rfl) ?_
 refine Runs.cond (t := 16) rfl (fun hc2 => ?_) (fun hc2 => ?_)
 ·
  try simp only [N3] at hc2
  try simp only [hc2, C5] at h
  refine Runs.seq ?_
  refine Runs.reg (by simp only [go_sem, seval, hc2]; rfl) (by simp only [long73, go_sem, seval]; rfl) ?_
  refine Runs.seq ?_
  obtain ⟨x3, h3, h⟩ := some_bind h
  obtain ⟨ge3, at3⟩ := getP_some h3
  try dsimp only at h
  refine Runs.drw rfl (by simp only [go_sem, seval, ge3, at3, hc2]; rfl) (by simp only [long73, go_sem, seval]; rfl) ?_
  refine Runs.ret ?_
  try cases h
  try dsimp only [outX]
  first
  | rfl
  | (exact fk (res := [.cell 2 39]) rfl rfl rfl (by simp only [fin1, go_sem, seval, ge3, at3, hc2]; try rfl))
 try simp only [N3] at hc2
 try simp only [hc2, C5] at h
 refine Runs.skip ?_
 refine Runs.seq ?_
 refine Runs.seq ?_
 obtain ⟨k4, h4, h⟩ := some_bind h
 have w4 := W55 _ _ _ h4
 try dsimp only at h
 refine Runs.reg (by simp only [go_sem, seval, w4, hc2]; rfl) (by simp only [long73, go_sem, seval]; rfl) ?_
 refine Runs.cond (t := 39) rfl (fun hc5 => ?_) (fun hc5 => ?_)
 ·
  try simp only [N3] at hc5
  try simp only [hc5, C5] at h
  refine Runs.seq ?_
  obtain ⟨⟨e6, q6⟩, h6, h⟩ := some_bind h
  have w6 := ih.e85 h6
  try dsimp only at h
  refine Runs.reg (by simp only [go_sem, seval, w6, hc2, hc5]; rfl) (by simp only [long73, go_sem, seval]; rfl) ?_
  refine Runs.ret ?_
  try cases h
  try dsimp only [outX]
  first
  | rfl
  | (exact fk (res := [.cell 2 39]) rfl rfl rfl (by simp only [fin1, go_sem, seval, hc2, hc5]; try rfl))
 try simp only [N3] at hc5
 try simp only [hc5, C5] at h
 refine Runs.skip ?_
 refine Runs.seq ?_
 refine Runs.block ?_
 refine Runs.seq ?_
 obtain ⟨⟨b7, q7⟩, h7, h⟩ := some_bind h
 have w7 := W12 _ _ _ _ h7
 try dsimp only at h
 refine Runs.reg (by simp only [go_sem, seval, w7, hc2, hc5]; rfl) (by simp only [long73, go_sem, seval]; rfl) ?_
 refine Runs.cond (t := 42) rfl (fun hc8 => ?_) (fun hc8 => ?_)
 ·
  try simp only [N3] at hc8
  try simp only [hc8, C5] at h
  refine Runs.seq ?_
  refine Runs.reg (by simp only [go_sem, seval, hc2, hc5, hc8]; rfl) (by simp only [long73, go_sem, seval]; rfl) ?_
  refine Runs.ret ?_
  try cases h
  try dsimp only [outX]
  first
  | rfl
  | (exact fk (res := [.cell 2 39]) rfl rfl rfl (by simp only [fin1, go_sem, seval, hc2, hc5, hc8]; try rfl))
 try simp only [N3] at hc8
 try simp only [hc8, C5] at h
 refine Runs.seq ?_
 obtain ⟨⟨b9, q9⟩, h9, h⟩ := some_bind h
 have w9 := W12 _ _ _ _ h9
 try dsimp only at h
 refine Runs.reg (by simp only [go_sem, seval, w9, hc2, hc5, hc8]; rfl) (by simp only [long73, go_sem, seval]; rfl) ?_
 refine Runs.cond (t := 46) rfl (fun hc10 => ?_) (fun hc10 => ?_)
 ·
  try simp only [N3] at hc10
  try simp only [hc10, C5] at h
  refine Runs.seq ?_
  refine Runs.reg (by simp only [go_sem, seval, hc2, hc5, hc8, hc10]; rfl) (by simp only [long73, go_sem, seval]; rfl) ?_
  refine Runs.ret ?_
  try cases h
  try dsimp only [outX]
  first
  | rfl
  | (exact fk (res := [.cell 2 39]) rfl rfl rfl (by simp only [fin1, go_sem, seval, hc2, hc5, hc8, hc10]; try rfl))
 try simp only [N3] at hc10
 try simp only [hc10, C5] at h
 refine Runs.seq ?_
 obtain ⟨⟨b11, q11⟩, h11, h⟩ := some_bind h
 have w11 := W12 _ _ _ _ h11
 try dsimp only at h
 refine Runs.reg (by simp only [go_sem, seval, w11, hc2, hc5, hc8, hc10]; rfl) (by simp only [long73, go_sem, seval]; rfl) ?_
 refine Runs.cond (t := 50) rfl (fun hc12 => ?_) (fun hc12 => ?_)
 ·
  try simp only [N3] at hc12
  try simp only [hc12, C5] at h
  refine Runs.seq ?_
  obtain ⟨⟨e13, q13⟩, h13, h⟩ := some_bind h
  have w13 := ih.e57 h13
  try dsimp only at h
  refine Runs.reg (by simp only [go_sem, seval, w13, hc2, hc5, hc8, hc10, hc12]; rfl) (by simp only [long73, go_sem, seval]; rfl) ?_
  refine Runs.seq ?_
  obtain ⟨⟨b14, q14⟩, h14, h⟩ := some_bind h
  have w14 := W12 _ _ _ _ h14
  try dsimp only at h
  refine Runs.reg (by simp only [go_sem, seval, w14, hc2, hc5, hc8, hc10, hc12]; rfl) (by simp only [long73, go_sem, seval]; rfl) ?_
  refine Runs.seq ?_
  refine Runs.seq ?_
  refine Runs.reg (by simp only [go_sem, seval, hc2, hc5, hc8, hc10, hc12]; rfl) (by simp only [long73, go_sem, seval]; rfl) ?_
  refine Runs.cond (t := 57) rfl (fun hc15 => ?_) (fun hc15 => ?_)
  ·
   try simp only [N3] at hc15
   try simp only [hc15, C5] at h
   refine Runs.seq ?_
   obtain ⟨⟨e16, q16⟩, h16, h⟩ := some_bind h
   have w16 := ih.e57 h16
   try dsimp only at h
   refine Runs.reg (by simp only [go_sem, seval, w16, hc2, hc5, hc8, hc10, hc12, hc15]; rfl) (by simp only [long73, go_sem, seval]; rfl) ?_
   refine Runs.seq ?_
   obtain ⟨q17, h17, h⟩ := some_bind h
   have w17 := W28 _ _ _ h17
   try dsimp only at h
   refine Runs.reg (by simp only [go_sem, seval, w17, hc2, hc5, hc8, hc10, hc12, hc15]; rfl) (by simp only [long73, go_sem, seval]; rfl) ?_
   obtain ⟨⟨e18, q18⟩, h18, h⟩ := some_bind h
   have w18 := ih.e57 h18
   try dsimp only at h
   refine Runs.drw rfl (by simp only [go_sem, seval, w18, hc2, hc5, hc8, hc10, hc12, hc15]; rfl) (by simp only [long73, go_sem, seval]; rfl) ?_
   refine Runs.seq ?_
   obtain ⟨q19, h19, h⟩ := some_bind h
   have w19 := W28 _ _ _ h19
   try dsimp only at h
   refine Runs.reg (by simp only [go_sem, seval, w18, w19, hc2, hc5, hc8, hc10, hc12, hc15]; rfl) (by simp only [long73, go_sem, seval]; rfl) ?_
   refine Runs.seq ?_
   refine Runs.reg (by simp only [go_sem, seval, w18, hc2, hc5, hc8, hc10, hc12, hc15]; rfl) (by simp only [long73, go_sem, seval]; rfl) ?_
   refine Runs.ret ?_
   try cases h
   try dsimp only [outX]
   first
   | rfl
   | (exact fk (res := [.cell 2 39]) rfl rfl rfl (by simp only [fin1, go_sem, seval, w18, hc2, hc5, hc8, hc10, hc12, hc15]; try rfl))
  try simp only [N3] at hc15
  try simp only [hc15, C5] at h
  refine Runs.skip ?_
  refine Runs.seq ?_
  obtain ⟨q20, h20, h⟩ := some_bind h
  have w20 := W28 _ _ _ h20
  try dsimp only at h
  refine Runs.reg (by simp only [go_sem, seval, w20, hc2, hc5, hc8, hc10, hc12, hc15]; rfl) (by simp only [long73, go_sem, seval]; rfl) ?_
  refine Runs.seq ?_
  refine Runs.reg (by simp only [go_sem, seval, hc2, hc5, hc8, hc10, hc12, hc15]; rfl) (by simp only [long73, go_sem, seval]; rfl) ?_
  refine Runs.ret ?_
  try cases h
  try dsimp only [outX]
  first
  | rfl
  | (exact fk (res := [.cell 2 39]) rfl rfl rfl (by simp only [fin1, go_sem, seval, hc2, hc5, hc8, hc10, hc12, hc15]; try rfl))
 try simp only [N3] at hc12
 try simp only [hc12, C5] at h
 refine Runs.seq ?_
 obtain ⟨⟨b21, q21⟩, h21, h⟩ := some_bind h
 have w21 := W12 _ _ _ _ h21
 try dsimp only at h
 refine Runs.reg (by simp only [go_sem, seval, w21, hc2, hc5, hc8, hc10, hc12]; rfl) (by simp only [long73, go_sem, seval]; rfl) ?_
 refine Runs.cond (t := 71) rfl (fun hc22 => ?_) (fun hc22 => ?_)
 ·
  try simp only [N3] at hc22
  try simp only [hc22, C5] at h
  refine Runs.seq ?_
  obtain ⟨⟨s23, q23⟩, h23, h⟩ := some_bind h
  have w23 := W30 _ _ _ h23
  try dsimp only at h
  refine Runs.reg (by simp only [go_sem, seval, w23, hc2, hc5, hc8, hc10, hc12, hc22]; rfl) (by simp only [long73, go_sem, seval]; rfl) ?_
  refine Runs.seq ?_
  obtain ⟨q24, h24, h⟩ := some_bind h
  have w24 := W28 _ _ _ h24
  try dsimp only at h
  refine Runs.reg (by simp only [go_sem, seval, w24, hc2, hc5, hc8, hc10, hc12, hc22]; rfl) (by simp only [long73, go_sem, seval]; rfl) ?_
  refine Runs.seq ?_
  refine Runs.seq ?_
  obtain ⟨b25, h25, h⟩ := some_bind h
  have w25 := W25 _ _ _ h25
  try dsimp only at h
  refine Runs.reg (by simp only [go_sem, seval, w25, hc2, hc5, hc8, hc10, hc12, hc22]; rfl) (by simp only [long73, go_sem, seval]; rfl) ?_
  refine Runs.cond (t := 81) rfl (fun hc26 => ?_) (fun hc26 => ?_)
  ·
   try simp only [N3] at hc26
   try simp only [hc26, C5] at h
   obtain ⟨⟨l27, q27⟩, h27, h⟩ := some_bind h
   have w27 := ih.e86 h27
   try dsimp only at h
   refine Runs.reg (by simp only [go_sem, seval, w27, hc2, hc5, hc8, hc10, hc12, hc22, hc26]; rfl) (by simp only [long73, go_sem, seval]; rfl) ?_
   refine Runs.seq ?_
   obtain ⟨q28, h28, h⟩ := some_bind h
   have w28 := W28 _ _ _ h28
   try dsimp only at h
   refine Runs.reg (by simp only [go_sem, seval, w28, hc2, hc5, hc8, hc10, hc12, hc22, hc26]; rfl) (by simp only [long73, go_sem, seval]; rfl) ?_
   refine Runs.seq ?_
   refine Runs.reg (by simp only [go_sem, seval, hc2, hc5, hc8, hc10, hc12, hc22, hc26]; rfl) (by simp only [long73, go_sem, seval]; rfl) ?_
   refine Runs.ret ?_
   try cases h
   try dsimp only [outX]
   first
   | rfl
   | (exact fk (res := [.cell 2 39]) rfl rfl rfl (by simp only [fin1, go_sem, seval, hc2, hc5, hc8, hc10, hc12, hc22, hc26]; try rfl))
  try simp only [N3] at hc26
  try simp only [hc26, C5] at h
  refine Runs.skip ?_
  refine Runs.seq ?_
  obtain ⟨q29, h29, h⟩ := some_bind h
  have w29 := W28 _ _ _ h29
  try dsimp only at h
  refine Runs.reg (by simp only [go_sem, seval, w29, hc2, hc5, hc8, hc10, hc12, hc22, hc26]; rfl) (by simp only [long73, go_sem, seval]; rfl) ?_
  refine Runs.seq ?_
  refine Runs.reg (by simp only [go_sem, seval, hc2, hc5, hc8, hc10, hc12, hc22, hc26]; rfl) (by simp only [long73, go_sem, seval]; rfl) ?_
  refine Runs.ret ?_
  try cases h
  try dsimp only [outX]
  first
  | rfl
  | (exact fk (res := [.cell 2 39]) rfl rfl rfl (by simp only [fin1, go_sem, seval, hc2, hc5, hc8, hc10, hc12, hc22, hc26]; try rfl))
 try simp only [N3] at hc22
 try simp only [hc22, C5] at h
 refine Runs.skip ?_
 refine Runs.seq ?_
 refine Runs.seq ?_
 refine Runs.reg (by simp only [go_sem, seval, hc2, hc5, hc8, hc10, hc12, hc22]; rfl) (by simp only [long73, go_sem, seval]; rfl) ?_
 refine Runs.block ?_
 refine Runs.loop ?_
 refine Runs.seq ?_
 refine Runs.reg (by simp only [go_sem, seval, hc2, hc5, hc8, hc10, hc12, hc22]; rfl) (by simp only [long73, go_sem, seval]; rfl) ?_
 refine Runs.seq ?_
 refine Runs.cond (t := 91) rfl (fun hc30 => ?_) (fun hc30 => ?_)
 rotate_left
 · exact absurd hc30 (by first | decide | (simp only [hc2, hc5, hc8, hc10, hc12, hc22]; decide))
 try simp only [N3] at hc30
 try simp only [hc30, C5] at h
 refine Runs.skip ?_
 refine Runs.seq ?_
 refine Runs.block ?_
 refine Runs.seq ?_
 refine Runs.reg (by simp only [go_sem, seval, hc2, hc5, hc8, hc10, hc12, hc22]; rfl) (by simp only [long73, go_sem, seval]; rfl) ?_
 refine Runs.seq ?_
 obtain ⟨⟨b31, q31⟩, h31, h⟩ := some_bind h
 have w31 := W12 _ _ _ _ h31
 try dsimp only at h
 refine Runs.reg (by simp only [go_sem, seval, w31, hc2, hc5, hc8, hc10, hc12, hc22]; rfl) (by simp only [long73, go_sem, seval]; rfl) ?_
 refine Runs.seq ?_
 refine Runs.reg (by simp only [go_sem, seval, hc2, hc5, hc8, hc10, hc12, hc22]; rfl) (by simp only [long73, go_sem, seval]; rfl) ?_
 refine Runs.cond (t := 97) rfl (fun hc32 => ?_) (fun hc32 => ?_)
 ·
  try simp only [N3] at hc32
  try simp only [hc32, C5] at h
  refine Runs.seq ?_
  refine Runs.reg (by simp only [go_sem, seval, hc2, hc5, hc8, hc10, hc12, hc22, hc32]; rfl) (by simp only [long73, go_sem, seval]; rfl) ?_
  refine Runs.ret ?_
  try cases h
  try dsimp only [outX]
  first
  | rfl
  | (exact fk (res := [.cell 2 39]) rfl rfl rfl (by simp only [fin1, go_sem, seval, hc2, hc5, hc8, hc10, hc12, hc22, hc32]; try rfl))
 try simp only [N3] at hc32
 try simp only [hc32, C5] at h
 refine Runs.skip ?_
 refine Runs.reg (by simp only [go_sem, seval, hc2, hc5, hc8, hc10, hc12, hc22, hc32]; rfl) (by simp only [long73, go_sem, seval]; rfl) ?_
 refine Runs.again (by simp only [go_sem, seval, hc2, hc5, hc8, hc10, hc12, hc22, hc32]; rfl) ?_
 refine Runs.loop ?_
 refine Runs.seq ?_
 refine Runs.reg (by simp only [go_sem, seval, hc2, hc5, hc8, hc10, hc12, hc22, hc32]; rfl) (by simp only [long73, go_sem, seval]; rfl) ?_
 refine Runs.seq ?_
 refine Runs.cond (t := 91) rfl (fun hc33 => ?_) (fun hc33 => ?_)
 rotate_left
 · exact absurd hc33 (by first | decide | (simp only [hc2, hc5, hc8, hc10, hc12, hc22, hc32]; decide))
 try simp only [N3] at hc33
 try simp only [hc33, C5] at h
 refine Runs.skip ?_
 refine Runs.seq ?_
 refine Runs.block ?_
 refine Runs.seq ?_
 refine Runs.reg (by simp only [go_sem, seval, hc2, hc5, hc8, hc10, hc12, hc22, hc32]; rfl) (by simp only [long73, go_sem, seval]; rfl) ?_
 refine Runs.seq ?_
 obtain ⟨⟨b34, q34⟩, h34, h⟩ := some_bind h
 have w34 := W12 _ _ _ _ h34
 try dsimp only at h
 refine Runs.reg (by simp only [go_sem, seval, w34, hc2, hc5, hc8, hc10, hc12, hc22, hc32]; rfl) (by simp only [long73, go_sem, seval]; rfl) ?_
 refine Runs.seq ?_
 refine Runs.reg (by simp only [go_sem, seval, hc2, hc5, hc8, hc10, hc12, hc22, hc32]; rfl) (by simp only [long73, go_sem, seval]; rfl) ?_
 refine Runs.cond (t := 97) rfl (fun hc35 => ?_) (fun hc35 => ?_)
 ·
  try simp only [N3] at hc35
  try simp only [hc35, C5] at h
  refine Runs.seq ?_
  refine Runs.reg (by simp only [go_sem, seval, hc2, hc5, hc8, hc10, hc12, hc22, hc32, hc35]; rfl) (by simp only [long73, go_sem, seval]; rfl) ?_
  refine Runs.ret ?_
  try cases h
  try dsimp only [outX]
  first
  | rfl
  | (exact fk (res := [.cell 2 39]) rfl rfl rfl (by simp only [fin1, go_sem, seval, hc2, hc5, hc8, hc10, hc12, hc22, hc32, hc35]; try rfl))
 try simp only [N3] at hc35
 try simp only [hc35, C5] at h
 refine Runs.skip ?_
 refine Runs.reg (by simp only [go_sem, seval, hc2, hc5, hc8, hc10, hc12, hc22, hc32, hc35]; rfl) (by simp only [long73, go_sem, seval]; rfl) ?_
 refine Runs.again (by simp only [go_sem, seval, hc2, hc5, hc8, hc10, hc12, hc22, hc32, hc35]; rfl) ?_
 refine Runs.loop ?_
 refine Runs.seq ?_
 refine Runs.reg (by simp only [go_sem, seval, hc2, hc5, hc8, hc10, hc12, hc22, hc32, hc35]; rfl) (by simp only [long73, go_sem, seval]; rfl) ?_
 refine Runs.seq ?_
 refine Runs.cond (t := 91) rfl (fun hc36 => ?_) (fun hc36 => ?_)
 rotate_left
 · exact absurd hc36 (by first | decide | (simp only [hc2, hc5, hc8, hc10, hc12, hc22, hc32, hc35]; decide))
 try simp only [N3] at hc36
 try simp only [hc36, C5] at h
 refine Runs.skip ?_
 refine Runs.seq ?_
 refine Runs.block ?_
 refine Runs.seq ?_
 refine Runs.reg (by simp only [go_sem, seval, hc2, hc5, hc8, hc10, hc12, hc22, hc32, hc35]; rfl) (by simp only [long73, go_sem, seval]; rfl) ?_
 refine Runs.seq ?_
 obtain ⟨⟨b37, q37⟩, h37, h⟩ := some_bind h
 have w37 := W12 _ _ _ _ h37
 try dsimp only at h
 refine Runs.reg (by simp only [go_sem, seval, w37, hc2, hc5, hc8, hc10, hc12, hc22, hc32, hc35]; rfl) (by simp only [long73, go_sem, seval]; rfl) ?_
 refine Runs.seq ?_
 refine Runs.reg (by simp only [go_sem, seval, hc2, hc5, hc8, hc10, hc12, hc22, hc32, hc35]; rfl) (by simp only [long73, go_sem, seval]; rfl) ?_
 refine Runs.cond (t := 97) rfl (fun hc38 => ?_) (fun hc38 => ?_)
 ·
  try simp only [N3] at hc38
  try simp only [hc38, C5] at h
  refine Runs.seq ?_
  refine Runs.reg (by simp only [go_sem, seval, hc5, hc8, hc10, hc12, hc22, hc32, hc35, hc38]; rfl) (by simp only [long73, go_sem, seval]; rfl) ?_
  refine Runs.ret ?_
  try cases h
  try dsimp only [outX]
  first
  | rfl
  | (exact fk (res := [.cell 2 39]) rfl rfl rfl (by simp only [fin1, go_sem, seval, hc5, hc8, hc10, hc12, hc22, hc32, hc35, hc38]; try rfl))
 try simp only [N3] at hc38
 try simp only [hc38, C5] at h
 refine Runs.skip ?_
 refine Runs.reg (by simp only [go_sem, seval, hc5, hc8, hc10, hc12, hc22, hc32, hc35, hc38]; rfl) (by simp only [long73, go_sem, seval]; rfl) ?_
 refine Runs.again (by simp only [go_sem, seval, hc5, hc8, hc10, hc12, hc22, hc32, hc35, hc38]; rfl) ?_
 refine Runs.loop ?_
 refine Runs.seq ?_
 refine Runs.reg (by simp only [go_sem, seval, hc5, hc8, hc10, hc12, hc22, hc32, hc35, hc38]; rfl) (by simp only [long73, go_sem, seval]; rfl) ?_
 refine Runs.seq ?_
 refine Runs.cond (t := 91) rfl (fun hc39 => ?_) (fun hc39 => ?_)
 rotate_left
 · exact absurd hc39 (by first | decide | (simp only [hc2, hc5, hc8, hc10, hc12, hc22, hc32, hc35, hc38]; decide))
 try simp only [N3] at hc39
 try simp only [hc39, C5] at h
 refine Runs.skip ?_
 refine Runs.seq ?_
 refine Runs.block ?_
 refine Runs.seq ?_
 refine Runs.reg (by simp only [go_sem, seval, hc5, hc8, hc10, hc12, hc22, hc32, hc35, hc38]; rfl) (by simp only [long73, go_sem, seval]; rfl) ?_
 refine Runs.seq ?_
 obtain ⟨⟨b40, q40⟩, h40, h⟩ := some_bind h
 have w40 := W12 _ _ _ _ h40
 try dsimp only at h
 refine Runs.reg (by simp only [go_sem, seval, w40, hc5, hc8, hc10, hc12, hc22, hc32, hc35, hc38]; rfl) (by simp only [long73, go_sem, seval]; rfl) ?_
 refine Runs.seq ?_
 refine Runs.reg (by simp only [go_sem, seval, hc5, hc8, hc10, hc12, hc22, hc32, hc35, hc38]; rfl) (by simp only [long73, go_sem, seval]; rfl) ?_
 refine Runs.cond (t := 97) rfl (fun hc41 => ?_) (fun hc41 => ?_)
 ·
  try simp only [N3] at hc41
  try simp only [hc41, C5] at h
  refine Runs.seq ?_
  refine Runs.reg (by simp only [go_sem, seval, hc8, hc10, hc12, hc22, hc32, hc35, hc38, hc41]; rfl) (by simp only [long73, go_sem, seval]; rfl) ?_
  refine Runs.ret ?_
  try cases h
  try dsimp only [outX]
  first
  | rfl
  | (exact fk (res := [.cell 2 39]) rfl rfl rfl (by simp only [fin1, go_sem, seval, hc8, hc10, hc12, hc22, hc32, hc35, hc38, hc41]; try rfl))
 try simp only [N3] at hc41
 try simp only [hc41, C5] at h
 refine Runs.skip ?_
 refine Runs.reg (by simp only [go_sem, seval, hc8, hc10, hc12, hc22, hc32, hc35, hc38, hc41]; rfl) (by simp only [long73, go_sem, seval]; rfl) ?_
 refine Runs.again (by simp only [go_sem, seval, hc8, hc10, hc12, hc22, hc32, hc35, hc38, hc41]; rfl) ?_
 refine Runs.loop ?_
 refine Runs.seq ?_
 refine Runs.reg (by simp only [go_sem, seval, hc8, hc10, hc12, hc22, hc32, hc35, hc38, hc41]; rfl) (by simp only [long73, go_sem, seval]; rfl) ?_
 refine Runs.seq ?_
 refine Runs.cond (t := 91) rfl (fun hc42 => ?_) (fun hc42 => ?_)
 · exact absurd hc42 (by first | decide | (simp only [hc2, hc5, hc8, hc10, hc12, hc22, hc32, hc35, hc38, hc41]; decide))
 try simp only [N3] at hc42
 try simp only [hc42, C5] at h
 refine Runs.exit ?_
 refine Runs.seq ?_
 refine Runs.seq ?_
 refine Runs.reg (by simp only [go_sem, seval, hc8, hc10, hc12, hc22, hc32, hc35, hc38, hc41]; rfl) (by simp only [long73, go_sem, seval]; rfl) ?_
 refine Runs.block ?_
 refine Runs.loop ?_
 refine Runs.seq ?_
 refine Runs.reg (by simp only [go_sem, seval, hc8, hc10, hc12, hc22, hc32, hc35, hc38, hc41]; rfl) (by simp only [long73, go_sem, seval]; rfl) ?_
 refine Runs.seq ?_
 refine Runs.cond (t := 104) rfl (fun hc43 => ?_) (fun hc43 => ?_)
 rotate_left
 · exact absurd hc43 (by first | decide | (simp only [hc2, hc5, hc8, hc10, hc12, hc22, hc32, hc35, hc38, hc41]; decide))
 try simp only [N3] at hc43
 try simp only [hc43, C5] at h
 refine Runs.skip ?_
 refine Runs.seq ?_
 refine Runs.block ?_
 refine Runs.seq ?_
 refine Runs.reg (by simp only [go_sem, seval, hc8, hc10, hc12, hc22, hc32, hc35, hc38, hc41]; rfl) (by simp only [long73, go_sem, seval]; rfl) ?_
 refine Runs.seq ?_
 obtain ⟨⟨b44, q44⟩, h44, h⟩ := some_bind h
 have w44 := W12 _ _ _ _ h44
 try dsimp only at h
 refine Runs.reg (by simp only [go_sem, seval, w44, hc8, hc10, hc12, hc22, hc32, hc35, hc38, hc41]; rfl) (by simp only [long73, go_sem, seval]; rfl) ?_
 refine Runs.seq ?_
 refine Runs.reg (by simp only [go_sem, seval, hc8, hc10, hc12, hc22, hc32, hc35, hc38, hc41]; rfl) (by simp only [long73, go_sem, seval]; rfl) ?_
 refine Runs.cond (t := 110) rfl (fun hc45 => ?_) (fun hc45 => ?_)
 ·
  try simp only [N3] at hc45
  try simp only [hc45, C5] at h
  refine Runs.seq ?_
  obtain ⟨q46, h46, h⟩ := some_bind h
  have w46 := W28 _ _ _ h46
  try dsimp only at h
  refine Runs.reg (by simp only [go_sem, seval, w46, hc10, hc12, hc22, hc32, hc35, hc38, hc41, hc45]; rfl) (by simp only [long73, go_sem, seval]; rfl) ?_
  refine Runs.seq ?_
  obtain ⟨⟨r47, q47⟩, h47, h⟩ := some_bind h
  have w47 := ih.e87 h47
  try dsimp only at h
  refine Runs.reg (by simp only [go_sem, seval, w47, hc10, hc12, hc22, hc32, hc35, hc38, hc41, hc45]; rfl) (by simp only [long73, go_sem, seval]; rfl) ?_
  refine Runs.seq ?_
  obtain ⟨q48, h48, h⟩ := some_bind h
  have w48 := W28 _ _ _ h48
  try dsimp only at h
  refine Runs.reg (by simp only [go_sem, seval, w48, hc10, hc12, hc22, hc32, hc35, hc38, hc41, hc45]; rfl) (by simp only [long73, go_sem, seval]; rfl) ?_
  refine Runs.seq ?_
  refine Runs.reg (by simp only [go_sem, seval, hc10, hc12, hc22, hc32, hc35, hc38, hc41, hc45]; rfl) (by simp only [long73, go_sem, seval]; rfl) ?_
  refine Runs.ret ?_
  try cases h
  try dsimp only [outX]
  first
  | rfl
  | (exact fk (res := [.cell 2 39]) rfl rfl rfl (by simp only [fin1, go_sem, seval, hc10, hc12, hc22, hc32, hc35, hc38, hc41, hc45]; try rfl))
 try simp only [N3] at hc45
 try simp only [hc45, C5] at h
 refine Runs.skip ?_
 refine Runs.reg (by simp only [go_sem, seval, hc10, hc12, hc22, hc32, hc35, hc38, hc41, hc45]; rfl) (by simp only [long73, go_sem, seval]; rfl) ?_
 refine Runs.again (by simp only [go_sem, seval, hc10, hc12, hc22, hc32, hc35, hc38, hc41, hc45]; rfl) ?_
 refine Runs.loop ?_
 refine Runs.seq ?_
 refine Runs.reg (by simp only [go_sem, seval, hc10, hc12, hc22, hc32, hc35, hc38, hc41, hc45]; rfl) (by simp only [long73, go_sem, seval]; rfl) ?_
 refine Runs.seq ?_
 refine Runs.cond (t := 104) rfl (fun hc49 => ?_) (fun hc49 => ?_)
 rotate_left
 · exact absurd hc49 (by first | decide | (simp only [hc2, hc5, hc8, hc10, hc12, hc22, hc32, hc35, hc38, hc41, hc45]; decide))
 try simp only [N3] at hc49
 try simp only [hc49, C5] at h
 refine Runs.skip ?_
 refine Runs.seq ?_
 refine Runs.block ?_
 refine Runs.seq ?_
 refine Runs.reg (by simp only [go_sem, seval, hc10, hc12, hc22, hc32, hc35, hc38, hc41, hc45]; rfl) (by simp only [long73, go_sem, seval]; rfl) ?_
 refine Runs.seq ?_
 obtain ⟨⟨b50, q50⟩, h50, h⟩ := some_bind h
 have w50 := W12 _ _ _ _ h50
 try dsimp only at h
 refine Runs.reg (by simp only [go_sem, seval, w50, hc10, hc12, hc22, hc32, hc35, hc38, hc41, hc45]; rfl) (by simp only [long73, go_sem, seval]; rfl) ?_
 refine Runs.seq ?_
 refine Runs.reg (by simp only [go_sem, seval, hc10, hc12, hc22, hc32, hc35, hc38, hc41, hc45]; rfl) (by simp only [long73, go_sem, seval]; rfl) ?_
 refine Runs.cond (t := 110) rfl (fun hc51 => ?_) (fun hc51 => ?_)
 ·
  try simp only [N3] at hc51
  try simp only [hc51, C5] at h
  refine Runs.seq ?_
  obtain ⟨q52, h52, h⟩ := some_bind h
  have w52 := W28 _ _ _ h52
  try dsimp only at h
  refine Runs.reg (by simp only [go_sem, seval, w52, hc12, hc22, hc32, hc35, hc38, hc41, hc45, hc51]; rfl) (by simp only [long73, go_sem, seval]; rfl) ?_
  refine Runs.seq ?_
  obtain ⟨⟨r53, q53⟩, h53, h⟩ := some_bind h
  have w53 := ih.e87 h53
  try dsimp only at h
  refine Runs.reg (by simp only [go_sem, seval, w53, hc12, hc22, hc32, hc35, hc38, hc41, hc45, hc51]; rfl) (by simp only [long73, go_sem, seval]; rfl) ?_
  refine Runs.seq ?_
  obtain ⟨q54, h54, h⟩ := some_bind h
  have w54 := W28 _ _ _ h54
  try dsimp only at h
  refine Runs.reg (by simp only [go_sem, seval, w54, hc12, hc22, hc32, hc35, hc38, hc41, hc45, hc51]; rfl) (by simp only [long73, go_sem, seval]; rfl) ?_
  refine Runs.seq ?_
  refine Runs.reg (by simp only [go_sem, seval, hc12, hc22, hc32, hc35, hc38, hc41, hc45, hc51]; rfl) (by simp only [long73, go_sem, seval]; rfl) ?_
  refine Runs.ret ?_
  try cases h
  try dsimp only [outX]
  first
  | rfl
  | (exact fk (res := [.cell 2 39]) rfl rfl rfl (by simp only [fin1, go_sem, seval, hc12, hc22, hc32, hc35, hc38, hc41, hc45, hc51]; try rfl))
 try simp only [N3] at hc51
 try simp only [hc51, C5] at h
 refine Runs.skip ?_
 refine Runs.reg (by simp only [go_sem, seval, hc12, hc22, hc32, hc35, hc38, hc41, hc45, hc51]; rfl) (by simp only [long73, go_sem, seval]; rfl) ?_
 refine Runs.again (by simp only [go_sem, seval, hc12, hc22, hc32, hc35, hc38, hc41, hc45, hc51]; rfl) ?_
 refine Runs.loop ?_
 refine Runs.seq ?_
 refine Runs.reg (by simp only [go_sem, seval, hc12, hc22, hc32, hc35, hc38, hc41, hc45, hc51]; rfl) (by simp only [long73, go_sem, seval]; rfl) ?_
 refine Runs.seq ?_
 refine Runs.cond (t := 104) rfl (fun hc55 => ?_) (fun hc55 => ?_)
 rotate_left
 · exact absurd hc55 (by first | decide | (simp only [hc2, hc5, hc8, hc10, hc12, hc22, hc32, hc35, hc38, hc41, hc45, hc51]; decide))
 try simp only [N3] at hc55
 try simp only [hc55, C5] at h
 refine Runs.skip ?_
 refine Runs.seq ?_
 refine Runs.block ?_
 refine Runs.seq ?_
 refine Runs.reg (by simp only [go_sem, seval, hc12, hc22, hc32, hc35, hc38, hc41, hc45, hc51]; rfl) (by simp only [long73, go_sem, seval]; rfl) ?_
 refine Runs.seq ?_
 obtain ⟨⟨b56, q56⟩, h56, h⟩ := some_bind h
 have w56 := W12 _ _ _ _ h56
 try dsimp only at h
 refine Runs.reg (by simp only [go_sem, seval, w56, hc12, hc22, hc32, hc35, hc38, hc41, hc45, hc51]; rfl) (by simp only [long73, go_sem, seval]; rfl) ?_
 refine Runs.seq ?_
 refine Runs.reg (by simp only [go_sem, seval, hc12, hc22, hc32, hc35, hc38, hc41, hc45, hc51]; rfl) (by simp only [long73, go_sem, seval]; rfl) ?_
 refine Runs.cond (t := 110) rfl (fun hc57 => ?_) (fun hc57 => ?_)
 ·
  try simp only [N3] at hc57
  try simp only [hc57, C5] at h
  refine Runs.seq ?_
  obtain ⟨q58, h58, h⟩ := some_bind h
  have w58 := W28 _ _ _ h58
  try dsimp only at h
  refine Runs.reg (by simp only [go_sem, seval, w58, hc22, hc32, hc35, hc38, hc41, hc45, hc51, hc57]; rfl) (by simp only [long73, go_sem, seval]; rfl) ?_
  refine Runs.seq ?_
  obtain ⟨⟨r59, q59⟩, h59, h⟩ := some_bind h
  have w59 := ih.e87 h59
  try dsimp only at h
  refine Runs.reg (by simp only [go_sem, seval, w59, hc22, hc32, hc35, hc38, hc41, hc45, hc51, hc57]; rfl) (by simp only [long73, go_sem, seval]; rfl) ?_
  refine Runs.seq ?_
  obtain ⟨q60, h60, h⟩ := some_bind h
  have w60 := W28 _ _ _ h60
  try dsimp only at h
  refine Runs.reg (by simp only [go_sem, seval, w60, hc22, hc32, hc35, hc38, hc41, hc45, hc51, hc57]; rfl) (by simp only [long73, go_sem, seval]; rfl) ?_
  refine Runs.seq ?_
  refine Runs.reg (by simp only [go_sem, seval, hc22, hc32, hc35, hc38, hc41, hc45, hc51, hc57]; rfl) (by simp only [long73, go_sem, seval]; rfl) ?_
  refine Runs.ret ?_
  try cases h
  try dsimp only [outX]
  first
  | rfl
  | (exact fk (res := [.cell 2 39]) rfl rfl rfl (by simp only [fin1, go_sem, seval, hc22, hc32, hc35, hc38, hc41, hc45, hc51, hc57]; try rfl))
 try simp only [N3] at hc57
 try simp only [hc57, C5] at h
 refine Runs.skip ?_
 refine Runs.reg (by simp only [go_sem, seval, hc22, hc32, hc35, hc38, hc41, hc45, hc51, hc57]; rfl) (by simp only [long73, go_sem, seval]; rfl) ?_
 refine Runs.again (by simp only [go_sem, seval, hc22, hc32, hc35, hc38, hc41, hc45, hc51, hc57]; rfl) ?_
 refine Runs.loop ?_
 refine Runs.seq ?_
 refine Runs.reg (by simp only [go_sem, seval, hc22, hc32, hc35, hc38, hc41, hc45, hc51, hc57]; rfl) (by simp only [long73, go_sem, seval]; rfl) ?_
 refine Runs.seq ?_
 refine Runs.cond (t := 104) rfl (fun hc61 => ?_) (fun hc61 => ?_)
 rotate_left
 · exact absurd hc61 (by first | decide | (simp only [hc5, hc8, hc10, hc12, hc22, hc32, hc35, hc38, hc41, hc45, hc51, hc57]; decide))
 try simp only [N3] at hc61
 try simp only [hc61, C5] at h
 refine Runs.skip ?_
 refine Runs.seq ?_
 refine Runs.block ?_
 refine Runs.seq ?_
 refine Runs.reg (by simp only [go_sem, seval, hc22, hc32, hc35, hc38, hc41, hc45, hc51, hc57]; rfl) (by simp only [long73, go_sem, seval]; rfl) ?_
 refine Runs.seq ?_
 obtain ⟨⟨b62, q62⟩, h62, h⟩ := some_bind h
 have w62 := W12 _ _ _ _ h62
 try dsimp only at h
 refine Runs.reg (by simp only [go_sem, seval, w62, hc22, hc32, hc35, hc38, hc41, hc45, hc51, hc57]; rfl) (by simp only [long73, go_sem, seval]; rfl) ?_
 refine Runs.seq ?_
 refine Runs.reg (by simp only [go_sem, seval, hc22, hc32, hc35, hc38, hc41, hc45, hc51, hc57]; rfl) (by simp only [long73, go_sem, seval]; rfl) ?_
 refine Runs.cond (t := 110) rfl (fun hc63 => ?_) (fun hc63 => ?_)
 ·
  try simp only [N3] at hc63
  try simp only [hc63, C5] at h
  refine Runs.seq ?_
  obtain ⟨q64, h64, h⟩ := some_bind h
  have w64 := W28 _ _ _ h64
  try dsimp only at h
  refine Runs.reg (by simp only [go_sem, seval, w64, hc32, hc35, hc38, hc41, hc45, hc51, hc57, hc63]; rfl) (by simp only [long73, go_sem, seval]; rfl) ?_
  refine Runs.seq ?_
  obtain ⟨⟨r65, q65⟩, h65, h⟩ := some_bind h
  have w65 := ih.e87 h65
  try dsimp only at h
  refine Runs.reg (by simp only [go_sem, seval, w65, hc32, hc35, hc38, hc41, hc45, hc51, hc57, hc63]; rfl) (by simp only [long73, go_sem, seval]; rfl) ?_
  refine Runs.seq ?_
  obtain ⟨q66, h66, h⟩ := some_bind h
  have w66 := W28 _ _ _ h66
  try dsimp only at h
  refine Runs.reg (by simp only [go_sem, seval, w66, hc32, hc35, hc38, hc41, hc45, hc51, hc57, hc63]; rfl) (by simp only [long73, go_sem, seval]; rfl) ?_
  refine Runs.seq ?_
  refine Runs.reg (by simp only [go_sem, seval, hc32, hc35, hc38, hc41, hc45, hc51, hc57, hc63]; rfl) (by simp only [long73, go_sem, seval]; rfl) ?_
  refine Runs.ret ?_
  try cases h
  try dsimp only [outX]
  first
  | rfl
  | (exact fk (res := [.cell 2 39]) rfl rfl rfl (by simp only [fin1, go_sem, seval, hc32, hc35, hc38, hc41, hc45, hc51, hc57, hc63]; try rfl))
 try simp only [N3] at hc63
 try simp only [hc63, C5] at h
 refine Runs.skip ?_
 refine Runs.reg (by simp only [go_sem, seval, hc32, hc35, hc38, hc41, hc45, hc51, hc57, hc63]; rfl) (by simp only [long73, go_sem, seval]; rfl) ?_
 refine Runs.again (by simp only [go_sem, seval, hc32, hc35, hc38, hc41, hc45, hc51, hc57, hc63]; rfl) ?_
 refine Runs.loop ?_
 refine Runs.seq ?_
 refine Runs.reg (by simp only [go_sem, seval, hc32, hc35, hc38, hc41, hc45, hc51, hc57, hc63]; rfl) (by simp only [long73, go_sem, seval]; rfl) ?_
 refine Runs.seq ?_
 refine Runs.cond (t := 104) rfl (fun hc67 => ?_) (fun hc67 => ?_)
 rotate_left
 · exact absurd hc67 (by first | decide | (simp only [hc8, hc10, hc12, hc22, hc32, hc35, hc38, hc41, hc45, hc51, hc57, hc63]; decide))
 try simp only [N3] at hc67
 try simp only [hc67, C5] at h
 refine Runs.skip ?_
 refine Runs.seq ?_
 refine Runs.block ?_
 refine Runs.seq ?_
 refine Runs.reg (by simp only [go_sem, seval, hc32, hc35, hc38, hc41, hc45, hc51, hc57, hc63]; rfl) (by simp only [long73, go_sem, seval]; rfl) ?_
 refine Runs.seq ?_
 obtain ⟨⟨b68, q68⟩, h68, h⟩ := some_bind h
 have w68 := W12 _ _ _ _ h68
 try dsimp only at h
 refine Runs.reg (by simp only [go_sem, seval, w68, hc32, hc35, hc38, hc41, hc45, hc51, hc57, hc63]; rfl) (by simp only [long73, go_sem, seval]; rfl) ?_
 refine Runs.seq ?_
 refine Runs.reg (by simp only [go_sem, seval, hc32, hc35, hc38, hc41, hc45, hc51, hc57, hc63]; rfl) (by simp only [long73, go_sem, seval]; rfl) ?_
 refine Runs.cond (t := 110) rfl (fun hc69 => ?_) (fun hc69 => ?_)
 ·
  try simp only [N3] at hc69
  try simp only [hc69, C5] at h
  refine Runs.seq ?_
  obtain ⟨q70, h70, h⟩ := some_bind h
  have w70 := W28 _ _ _ h70
  try dsimp only at h
  refine Runs.reg (by simp only [go_sem, seval, w70, hc35, hc38, hc41, hc45, hc51, hc57, hc63, hc69]; rfl) (by simp only [long73, go_sem, seval]; rfl) ?_
  refine Runs.seq ?_
  obtain ⟨⟨r71, q71⟩, h71, h⟩ := some_bind h
  have w71 := ih.e87 h71
  try dsimp only at h
  refine Runs.reg (by simp only [go_sem, seval, w71, hc35, hc38, hc41, hc45, hc51, hc57, hc63, hc69]; rfl) (by simp only [long73, go_sem, seval]; rfl) ?_
  refine Runs.seq ?_
  obtain ⟨q72, h72, h⟩ := some_bind h
  have w72 := W28 _ _ _ h72
  try dsimp only at h
  refine Runs.reg (by simp only [go_sem, seval, w72, hc35, hc38, hc41, hc45, hc51, hc57, hc63, hc69]; rfl) (by simp only [long73, go_sem, seval]; rfl) ?_
  refine Runs.seq ?_
  refine Runs.reg (by simp only [go_sem, seval, hc35, hc38, hc41, hc45, hc51, hc57, hc63, hc69]; rfl) (by simp only [long73, go_sem, seval]; rfl) ?_
  refine Runs.ret ?_
  try cases h
  try dsimp only [outX]
  first
  | rfl
  | (exact fk (res := [.cell 2 39]) rfl rfl rfl (by simp only [fin1, go_sem, seval, hc35, hc38, hc41, hc45, hc51, hc57, hc63, hc69]; try rfl))
 try simp only [N3] at hc69
 try simp only [hc69, C5] at h
 refine Runs.skip ?_
 refine Runs.reg (by simp only [go_sem, seval, hc35, hc38, hc41, hc45, hc51, hc57, hc63, hc69]; rfl) (by simp only [long73, go_sem, seval]; rfl) ?_
 refine Runs.again (by simp only [go_sem, seval, hc35, hc38, hc41, hc45, hc51, hc57, hc63, hc69]; rfl) ?_
 refine Runs.loop ?_
 refine Runs.seq ?_
 refine Runs.reg (by simp only [go_sem, seval, hc35, hc38, hc41, hc45, hc51, hc57, hc63, hc69]; rfl) (by simp only [long73, go_sem, seval]; rfl) ?_
 refine Runs.seq ?_
 refine Runs.cond (t := 104) rfl (fun hc73 => ?_) (fun hc73 => ?_)
 · exact absurd hc73 (by first | decide | (simp only [hc10, hc12, hc22, hc32, hc35, hc38, hc41, hc45, hc51, hc57, hc63, hc69]; decide))
 try simp only [N3] at hc73
 try simp only [hc73, C5] at h
 refine Runs.exit ?_
 refine Runs.seq ?_
 obtain ⟨q74, h74, h⟩ := some_bind h
 have w74 := W56 _ _ h74
 try dsimp only at h
 refine Runs.reg (by simp only [go_sem, seval, w74, hc35, hc38, hc41, hc45, hc51, hc57, hc63, hc69]; rfl) (by simp only [long73, go_sem, seval]; rfl) ?_
 refine Runs.seq ?_
 refine Runs.reg (by simp only [go_sem, seval, hc35, hc38, hc41, hc45, hc51, hc57, hc63, hc69]; rfl) (by simp only [long73, go_sem, seval]; rfl) ?_
 refine Runs.ret ?_
 try cases h
 try dsimp only [outX]
 first
 | rfl
 | (exact fk (res := [.cell 2 39]) rfl rfl rfl (by simp only [fin1, go_sem, seval, hc35, hc38, hc41, hc45, hc51, hc57, hc63, hc69]; try rfl))
theorem W92 {n : Nat} (ih : ExprIH n) {p q : PS} {l : List Arg} (h : gotP (n + 1) p = some (l, q)) : callW ip 84 [pV] [pBox p] = some (.ret [slV argD l], [pBox q]) := by
 simp only [gotP, gotQ, wadd, wsub, incBy] at h
 refine callW_runs (fn := Tryd.f84) (L := long84) (nt := 34) (n0 := 1) (T := tab) (rw' := [7]) (kA := keepA) Tryd.func84 rfl rfl rfl rfl rfl rfl rfl rfl rfl ?_
 refine Runs.seq ?_
 refine Runs.reg (by simp only [go_sem, seval]; rfl) (by simp only [long84, go_sem, seval]; rfl) ?_
 refine Runs.seq ?_
 obtain ⟨⟨a1, q1⟩, h1, h⟩ := some_bind h
 have w1 := ih.e98 h1
 try dsimp only at h
 refine Runs.reg (by simp only [go_sem, seval, w1]; rfl) (by simp only [long84, go_sem, seval]; rfl) ?_
 refine Runs.seq ?_
 obtain ⟨⟨b2, q2⟩, h2, h⟩ := some_bind h
 have w2 := W12 _ _ _ _ h2
 try dsimp only at h
 refine Runs.reg (by simp only [go_sem, seval, w2]; rfl) (by simp only [long84, go_sem, seval]; rfl) ?_
 refine Runs.seq ?_
 refine Runs.seq ?_
 refine Runs.reg (by simp only [go_sem, seval]; rfl) (by simp only [long84, go_sem, seval]; rfl) ?_
 refine Runs.cond (t := 10) rfl (fun hc3 => ?_) (fun hc3 => ?_)
 ·
  try simp only [N3] at hc3
  try simp only [hc3, C5] at h
  refine Runs.seq ?_
  obtain ⟨⟨a4, q4⟩, h4, h⟩ := some_bind h
  have w4 := ih.e98 h4
  try dsimp only at h
  obtain ⟨y5, h5, h⟩ := some_bind h
  obtain ⟨le5, rfl⟩ := appP_some h5
  try simp only [List.length_set, List.length_map, List.length_append, List.length_cons, List.length_nil, seval] at le5
  try dsimp only at h
  refine Runs.reg (by simp only [go_sem, seval, w4, le5, hc3]; rfl) (by simp only [long84, go_sem, seval]; rfl) ?_
  refine Runs.seq ?_
  refine Runs.block ?_
  obtain ⟨j6, h, hk6⟩ := some_bind h
  refine Runs.loop_rel (fun mz_ en hp => ∃ (x : PS × List Arg), loopO (argsB (argP n)) mz_ x = some j6 ∧ en = [(0, pV), (3, .c (.row 1))] ∧ hp = [.box [.d (.str x.1.s), .d (.sl (x.1.l.map tokD)), .d (.int .i64 x.1.pos), .d (.int .i64 x.1.code), .d (.int .i64 x.1.mat)], .row 122 11 x.2.length (rowC argD x.2)]) ?_ ⟨_, h, (by first | rfl | (simp only [go_sem, seval]; done) | (simp only [go_sem, seval]; rfl)), (by first | rfl | (simp only [go_sem, seval]; done) | (simp only [go_sem, seval]; rfl))⟩
  clear h
  rintro m6 en hp ⟨⟨p1, l1⟩, h, rfl, rfl⟩
  obtain _ | m6 := m6
  · cases h
  simp only [loopO, argsB] at h
  obtain ⟨r6, h, g6⟩ := some_bind h
  refine Runs.seq ?_
  refine Runs.seq ?_
  obtain ⟨⟨b7, q7⟩, h7, h⟩ := some_bind h
  have w7 := W12 _ _ _ _ h7
  try dsimp only at h
  refine Runs.reg (by simp only [go_sem, seval, w7]; rfl) (by simp only [long84, go_sem, seval]; rfl) ?_
  refine Runs.cond (t := 17) rfl (fun hc8 => ?_) (fun hc8 => ?_)
  ·
   try simp only [N3] at hc8
   try simp only [hc8, C5] at h
   refine Runs.skip ?_
   refine Runs.block ?_
   obtain ⟨⟨a9, q9⟩, h9, h⟩ := some_bind h
   have w9 := ih.e98 h9
   try dsimp only at h
   obtain ⟨y10, h10, h⟩ := some_bind h
   obtain ⟨le10, rfl⟩ := appP_some h10
   try simp only [List.length_set, List.length_map, List.length_append, List.length_cons, List.length_nil, seval] at le10
   try dsimp only at h
   refine Runs.reg (by simp only [go_sem, seval, w9, le10, hc8]; rfl) (by simp only [long84, go_sem, seval]; rfl) ?_
   cases h
   refine ⟨m6, Nat.lt_succ_self _, _, _, by simp only [go_sem, seval]; try rfl, _, g6, rfl, rfl⟩
  try simp only [N3] at hc8
  try simp only [hc8, C5] at h
  refine Runs.exit ?_
  cases h
  cases g6
  have h := hk6
  try dsimp only at h
  try simp only [hc8, cond_true, cond_false] at h
  refine Runs.seq ?_
  obtain ⟨q11, h11, h⟩ := some_bind h
  have w11 := W28 _ _ _ h11
  try dsimp only at h
  refine Runs.reg (by simp only [go_sem, seval, w11, hc8]; rfl) (by simp only [long84, go_sem, seval]; rfl) ?_
  refine Runs.seq ?_
  refine Runs.reg (by simp only [go_sem, seval, hc8]; rfl) (by simp only [long84, go_sem, seval]; rfl) ?_
  refine Runs.ret ?_
  try cases h
  try dsimp only [outX]
  first
  | rfl
  | (exact fk (res := [.tmp 2]) rfl rfl rfl (by simp only [fin1, go_sem, seval, hc8]; try rfl))
 try simp only [N3] at hc3
 try simp only [hc3, C5] at h
 refine Runs.skip ?_
 refine Runs.seq ?_
 refine Runs.block ?_
 refine Runs.loop_rel (fun mz_ en hp => ∃ (x : PS × List Arg) (j10 : V), loopO (argsB (argP n)) mz_ x = some (l, q) ∧ en = [(0, pV), (3, .c (.row 1)), (10, j10)] ∧ hp = [.box [.d (.str x.1.s), .d (.sl (x.1.l.map tokD)), .d (.int .i64 x.1.pos), .d (.int .i64 x.1.code), .d (.int .i64 x.1.mat)], .row 122 11 x.2.length (rowC argD x.2)]) ?_ ⟨_, _, h, (by first | rfl | (simp only [go_sem, seval]; done) | (simp only [go_sem, seval]; rfl)), (by first | rfl | (simp only [go_sem, seval]; done) | (simp only [go_sem, seval]; rfl))⟩
 clear h
 rintro m12 en hp ⟨⟨p1, l1⟩, j10, h, rfl, rfl⟩
 obtain _ | m12 := m12
 · cases h
 simp only [loopO, argsB] at h
 obtain ⟨r12, h, g12⟩ := some_bind h
 refine Runs.seq ?_
 refine Runs.seq ?_
 obtain ⟨⟨b13, q13⟩, h13, h⟩ := some_bind h
 have w13 := W12 _ _ _ _ h13
 try dsimp only at h
 refine Runs.reg (by simp only [go_sem, seval, w13]; rfl) (by simp only [long84, go_sem, seval]; rfl) ?_
 refine Runs.cond (t := 27) rfl (fun hc14 => ?_) (fun hc14 => ?_)
 ·
  try simp only [N3] at hc14
  try simp only [hc14, C5] at h
  refine Runs.skip ?_
  refine Runs.block ?_
  obtain ⟨⟨a15, q15⟩, h15, h⟩ := some_bind h
  have w15 := ih.e98 h15
  try dsimp only at h
  obtain ⟨y16, h16, h⟩ := some_bind h
  obtain ⟨le16, rfl⟩ := appP_some h16
  try simp only [List.length_set, List.length_map, List.length_append, List.length_cons, List.length_nil, seval] at le16
  try dsimp only at h
  refine Runs.reg (by simp only [go_sem, seval, w15, le16, hc14]; rfl) (by simp only [long84, go_sem, seval]; rfl) ?_
  cases h
  refine ⟨m12, Nat.lt_succ_self _, _, _, by simp only [go_sem, seval]; try rfl, _, _, g12, rfl, rfl⟩
 try simp only [N3] at hc14
 try simp only [hc14, C5] at h
 refine Runs.exit ?_
 cases h
 cases g12
 refine Runs.seq ?_
 refine Runs.reg (by simp only [go_sem, seval, hc14]; rfl) (by simp only [long84, go_sem, seval]; rfl) ?_
 refine Runs.ret ?_
 try cases h
 try dsimp only [outX]
 first
 | rfl
 | (exact fk (res := [.tmp 2]) rfl rfl rfl (by simp only [fin1, go_sem, seval, hc14]; try rfl))
theorem W93 {n : Nat} (ih : ExprIH n) {p q : PS} {l : List Ast} (h : sentP n p = some (l, q)) : callW ip 85 [pV] [pBox p] = some (.ret [slV astD l], [pBox q]) := by
 simp only [sentP, sentQ, wadd, wsub, incBy] at h
 refine callW_runs (fn := Tryd.f85) (L := long85) (nt := 26) (n0 := 1) (T := tab) (rw' := [7]) (kA := keepA) Tryd.func85 rfl rfl rfl rfl rfl rfl rfl rfl rfl ?_
 refine Runs.seq ?_
 refine Runs.reg (by simp only [go_sem, seval]; rfl) (by simp only [long85, go_sem, seval]; rfl) ?_
 refine Runs.seq ?_
 obtain ⟨⟨e1, q1⟩, h1, h⟩ := some_bind h
 have w1 := ih.e57 h1
 try dsimp only at h
 refine Runs.reg (by simp only [go_sem, seval, w1]; rfl) (by simp only [long85, go_sem, seval]; rfl) ?_
 refine Runs.seq ?_
 obtain ⟨⟨b2, q2⟩, h2, h⟩ := some_bind h
 have w2 := W12 _ _ _ _ h2
 try dsimp only at h
 refine Runs.reg (by simp only [go_sem, seval, w2]; rfl) (by simp only [long85, go_sem, seval]; rfl) ?_
 refine Runs.seq ?_
 refine Runs.seq ?_
 refine Runs.reg (by simp only [go_sem, seval]; rfl) (by simp only [long85, go_sem, seval]; rfl) ?_
 refine Runs.cond (t := 10) rfl (fun hc3 => ?_) (fun hc3 => ?_)
 ·
  try simp only [N3] at hc3
  try simp only [hc3, C5] at h
  refine Runs.seq ?_
  obtain ⟨⟨l4, q4⟩, h4, h⟩ := some_bind h
  have w4 := ih.e86 h4
  try dsimp only at h
  obtain ⟨y5, h5, h⟩ := some_bind h
  obtain ⟨le5, rfl⟩ := appP_some h5
  try simp only [List.length_set, List.length_map, List.length_append, List.length_cons, List.length_nil, seval] at le5
  try dsimp only at h
  refine Runs.reg (by simp only [go_sem, seval, w4, le5, hc3]; rfl) (by simp only [long85, go_sem, seval]; rfl) ?_
  refine Runs.seq ?_
  obtain ⟨q6, h6, h⟩ := some_bind h
  have w6 := W28 _ _ _ h6
  try dsimp only at h
  refine Runs.reg (by simp only [go_sem, seval, w6, hc3]; rfl) (by simp only [long85, go_sem, seval]; rfl) ?_
  refine Runs.seq ?_
  refine Runs.reg (by simp only [go_sem, seval, hc3]; rfl) (by simp only [long85, go_sem, seval]; rfl) ?_
  refine Runs.ret ?_
  try cases h
  try dsimp only [outX]
  first
  | rfl
  | (exact fk (res := [.tmp 2]) rfl rfl rfl (by simp only [fin1, go_sem, seval, hc3]; try rfl))
 try simp only [N3] at hc3
 try simp only [hc3, C5] at h
 refine Runs.skip ?_
 refine Runs.seq ?_
 refine Runs.block ?_
 refine Runs.loop_rel (fun mz_ en hp => ∃ (x : PS × List Ast) (j10 : V), loopO (exprsB (exprP n)) mz_ x = some (l, q) ∧ en = [(0, pV), (3, .c (.row 1)), (10, j10)] ∧ hp = [.box [.d (.str x.1.s), .d (.sl (x.1.l.map tokD)), .d (.int .i64 x.1.pos), .d (.int .i64 x.1.code), .d (.int .i64 x.1.mat)], .row 39 9 x.2.length (rowC astD x.2)]) ?_ ⟨_, _, h, (by first | rfl | (simp only [go_sem, seval]; done) | (simp only [go_sem, seval]; rfl)), (by first | rfl | (simp only [go_sem, seval]; done) | (simp only [go_sem, seval]; rfl))⟩
 clear h
 rintro m7 en hp ⟨⟨p1, l1⟩, j10, h, rfl, rfl⟩
 obtain _ | m7 := m7
 · cases h
 simp only [loopO, exprsB] at h
 obtain ⟨r7, h, g7⟩ := some_bind h
 refine Runs.seq ?_
 refine Runs.seq ?_
 obtain ⟨⟨b8, q8⟩, h8, h⟩ := some_bind h
 have w8 := W12 _ _ _ _ h8
 try dsimp only at h
 refine Runs.reg (by simp only [go_sem, seval, w8]; rfl) (by simp only [long85, go_sem, seval]; rfl) ?_
 refine Runs.cond (t := 19) rfl (fun hc9 => ?_) (fun hc9 => ?_)
 ·
  try simp only [N3] at hc9
  try simp only [hc9, C5] at h
  refine Runs.skip ?_
  refine Runs.block ?_
  obtain ⟨⟨e10, q10⟩, h10, h⟩ := some_bind h
  have w10 := ih.e57 h10
  try dsimp only at h
  obtain ⟨y11, h11, h⟩ := some_bind h
  obtain ⟨le11, rfl⟩ := appP_some h11
  try simp only [List.length_set, List.length_map, List.length_append, List.length_cons, List.length_nil, seval] at le11
  try dsimp only at h
  refine Runs.reg (by simp only [go_sem, seval, w10, le11, hc9]; rfl) (by simp only [long85, go_sem, seval]; rfl) ?_
  cases h
  refine ⟨m7, Nat.lt_succ_self _, _, _, by simp only [go_sem, seval]; try rfl, _, _, g7, rfl, rfl⟩
 try simp only [N3] at hc9
 try simp only [hc9, C5] at h
 refine Runs.exit ?_
 cases h
 cases g7
 refine Runs.seq ?_
 refine Runs.reg (by simp only [go_sem, seval, hc9]; rfl) (by simp only [long85, go_sem, seval]; rfl) ?_
 refine Runs.ret ?_
 try cases h
 try dsimp only [outX]
 first
 | rfl
 | (exact fk (res := [.tmp 2]) rfl rfl rfl (by simp only [fin1, go_sem, seval, hc9]; try rfl))
theorem W98 {n : Nat} (ih : ExprIH n) {p q : PS} {a : Arg} (h : argP (n + 1) p = some (a, q)) : callW ip 90 [pV] [pBox p] = some (.ret [argV a], [pBox q]) := by
 simp only [argP, argQ, argUn, wadd, wsub, incBy] at h
 refine callW_runs (fn := Tryd.f90) (L := long90) (nt := 43) (n0 := 1) (T := tab) (rw' := []) (kA := keepA) Tryd.func90 rfl rfl rfl rfl rfl rfl rfl rfl rfl ?_
 refine Runs.seq ?_
 refine Runs.reg (by simp only [go_sem, seval]; rfl) (by simp only [long90, go_sem, seval]; rfl) ?_
 refine Runs.seq ?_
 refine Runs.block ?_
 refine Runs.seq ?_
 obtain ⟨⟨b1, q1⟩, h1, h⟩ := some_bind h
 have w1 := W12 _ _ _ _ h1
 try dsimp only at h
 refine Runs.reg (by simp only [go_sem, seval, w1]; rfl) (by simp only [long90, go_sem, seval]; rfl) ?_
 refine Runs.cond (t := 4) rfl (fun hc2 => ?_) (fun hc2 => ?_)
 ·
  try simp only [N3] at hc2
  try simp only [hc2, C5] at h
  refine Runs.seq ?_
  refine Runs.reg (by simp only [go_sem, seval, hc2]; rfl) (by simp only [long90, go_sem, seval]; rfl) ?_
  refine Runs.ret ?_
  try cases h
  try dsimp only [outX]
  first
  | rfl
  | (exact fk (res := [.cell 2 122]) rfl rfl rfl (by simp only [fin1, go_sem, seval, hc2]; try rfl))
 try simp only [N3] at hc2
 try simp only [hc2, C5] at h
 refine Runs.seq ?_
 obtain ⟨⟨b3, q3⟩, h3, h⟩ := some_bind h
 have w3 := W12 _ _ _ _ h3
 try dsimp only at h
 refine Runs.reg (by simp only [go_sem, seval, w3, hc2]; rfl) (by simp only [long90, go_sem, seval]; rfl) ?_
 refine Runs.cond (t := 8) rfl (fun hc4 => ?_) (fun hc4 => ?_)
 ·
  try simp only [N3] at hc4
  try simp only [hc4, C5] at h
  refine Runs.seq ?_
  obtain ⟨q5, h5, h⟩ := some_bind h
  have w5 := W28 _ _ _ h5
  try dsimp only at h
  refine Runs.reg (by simp only [go_sem, seval, w5, hc2, hc4]; rfl) (by simp only [long90, go_sem, seval]; rfl) ?_
  refine Runs.seq ?_
  obtain ⟨⟨e6, q6⟩, h6, h⟩ := some_bind h
  have w6 := ih.e57 h6
  try dsimp only at h
  refine Runs.reg (by simp only [go_sem, seval, w6, hc2, hc4]; rfl) (by simp only [long90, go_sem, seval]; rfl) ?_
  refine Runs.seq ?_
  obtain ⟨q7, h7, h⟩ := some_bind h
  have w7 := W28 _ _ _ h7
  try dsimp only at h
  refine Runs.reg (by simp only [go_sem, seval, w7, hc2, hc4]; rfl) (by simp only [long90, go_sem, seval]; rfl) ?_
  refine Runs.seq ?_
  refine Runs.reg (by simp only [go_sem, seval, hc2, hc4]; rfl) (by simp only [long90, go_sem, seval]; rfl) ?_
  refine Runs.ret ?_
  try cases h
  try dsimp only [outX]
  first
  | rfl
  | (exact fk (res := [.cell 2 122]) rfl rfl rfl (by simp only [fin1, go_sem, seval, hc2, hc4]; try rfl))
 try simp only [N3] at hc4
 try simp only [hc4, C5] at h
 refine Runs.seq ?_
 obtain ⟨k8, h8, h⟩ := some_bind h
 have w8 := W55 _ _ _ h8
 try dsimp only at h
 refine Runs.reg (by simp only [go_sem, seval, w8, hc2, hc4]; rfl) (by simp only [long90, go_sem, seval]; rfl) ?_
 refine Runs.cond (t := 19) rfl (fun hc9 => ?_) (fun hc9 => ?_)
 ·
  try simp only [N3] at hc9
  try simp only [hc9, C5] at h
  refine Runs.seq ?_
  obtain ⟨⟨r10, q10⟩, h10, h⟩ := some_bind h
  have w10 := ih.e87 h10
  try dsimp only at h
  refine Runs.reg (by simp only [go_sem, seval, w10, hc2, hc4, hc9]; rfl) (by simp only [long90, go_sem, seval]; rfl) ?_
  refine Runs.ret ?_
  try cases h
  try dsimp only [outX]
  first
  | rfl
  | (exact fk (res := [.cell 2 122]) rfl rfl rfl (by simp only [fin1, go_sem, seval, hc2, hc4, hc9]; try rfl))
 try simp only [N3] at hc9
 try simp only [hc9, C5] at h
 refine Runs.seq ?_
 refine Runs.seq ?_
 obtain ⟨b11, h11, h⟩ := some_bind h
 have w11 := W25 _ _ _ h11
 try dsimp only at h
 refine Runs.reg (by simp only [go_sem, seval, w11, hc2, hc4, hc9]; rfl) (by simp only [long90, go_sem, seval]; rfl) ?_
 refine Runs.cond (t := 27) rfl (fun hc12 => ?_) (fun hc12 => ?_)
 ·
  try simp only [N3] at hc12
  try simp only [hc12, C5] at h
  refine Runs.skip ?_
  refine Runs.cond (t := 27) rfl (fun hc13 => ?_) (fun hc13 => ?_)
  rotate_left
  · exact absurd hc13 (by first | decide | (simp only [hc2, hc4, hc9, hc12]; decide))
  try simp only [N3] at hc13
  try simp only [hc13, C5] at h
  refine Runs.seq ?_
  obtain ⟨⟨e14, q14⟩, h14, h⟩ := some_bind h
  have w14 := ih.e72 h14
  try dsimp only at h
  refine Runs.reg (by simp only [go_sem, seval, w14, hc2, hc4, hc9, hc12]; rfl) (by simp only [long90, go_sem, seval]; rfl) ?_
  refine Runs.ret ?_
  try cases h
  try dsimp only [outX]
  first
  | rfl
  | (exact fk (res := [.cell 2 122]) rfl rfl rfl (by simp only [fin1, go_sem, seval, hc2, hc4, hc9, hc12]; try rfl))
 try simp only [N3] at hc12
 try simp only [hc12, C5] at h
 refine Runs.seq ?_
 obtain ⟨k15, h15, h⟩ := some_bind h
 have w15 := W55 _ _ _ h15
 try dsimp only at h
 refine Runs.reg (by simp only [go_sem, seval, w15, hc2, hc4, hc9, hc12]; rfl) (by simp only [long90, go_sem, seval]; rfl) ?_
 refine Runs.cond (t := 27) rfl (fun hc16 => ?_) (fun hc16 => ?_)
 ·
  try simp only [N3] at hc16
  try simp only [hc16, C5] at h
  refine Runs.skip ?_
  refine Runs.cond (t := 27) rfl (fun hc17 => ?_) (fun hc17 => ?_)
  rotate_left
  · exact absurd hc17 (by first | decide | (simp only [hc2, hc4, hc9, hc12, hc16]; decide))
  try simp only [N3] at hc17
  try simp only [hc17, C5] at h
  refine Runs.seq ?_
  obtain ⟨⟨e18, q18⟩, h18, h⟩ := some_bind h
  have w18 := ih.e72 h18
  try dsimp only at h
  refine Runs.reg (by simp only [go_sem, seval, w18, hc2, hc4, hc9, hc12, hc16]; rfl) (by simp only [long90, go_sem, seval]; rfl) ?_
  refine Runs.ret ?_
  try cases h
  try dsimp only [outX]
  first
  | rfl
  | (exact fk (res := [.cell 2 122]) rfl rfl rfl (by simp only [fin1, go_sem, seval, hc2, hc4, hc9, hc12, hc16]; try rfl))
 try simp only [N3] at hc16
 try simp only [hc16, C5] at h
 refine Runs.seq ?_
 obtain ⟨b19, h19, h⟩ := some_bind h
 have w19 := W25 _ _ _ h19
 try dsimp only at h
 refine Runs.reg (by simp only [go_sem, seval, w19, hc2, hc4, hc9, hc12, hc16]; rfl) (by simp only [long90, go_sem, seval]; rfl) ?_
 refine Runs.cond (t := 27) rfl (fun hc20 => ?_) (fun hc20 => ?_)
 ·
  try simp only [N3] at hc20
  try simp only [hc20, C5] at h
  refine Runs.skip ?_
  refine Runs.cond (t := 27) rfl (fun hc21 => ?_) (fun hc21 => ?_)
  rotate_left
  · exact absurd hc21 (by first | decide | (simp only [hc2, hc4, hc9, hc12, hc16, hc20]; decide))
  try simp only [N3] at hc21
  try simp only [hc21, C5] at h
  refine Runs.seq ?_
  obtain ⟨⟨e22, q22⟩, h22, h⟩ := some_bind h
  have w22 := ih.e72 h22
  try dsimp only at h
  refine Runs.reg (by simp only [go_sem, seval, w22, hc2, hc4, hc9, hc12, hc16, hc20]; rfl) (by simp only [long90, go_sem, seval]; rfl) ?_
  refine Runs.ret ?_
  try cases h
  try dsimp only [outX]
  first
  | rfl
  | (exact fk (res := [.cell 2 122]) rfl rfl rfl (by simp only [fin1, go_sem, seval, hc2, hc4, hc9, hc12, hc16, hc20]; try rfl))
 try simp only [N3] at hc20
 try simp only [hc20, C5] at h
 obtain ⟨b23, h23, h⟩ := some_bind h
 have w23 := W25 _ _ _ h23
 try dsimp only at h
 refine Runs.reg (by simp only [go_sem, seval, w23, hc2, hc4, hc9, hc12, hc16, hc20]; rfl) (by simp only [long90, go_sem, seval]; rfl) ?_
 refine Runs.cond (t := 27) rfl (fun hc24 => ?_) (fun hc24 => ?_)
 ·
  try simp only [N3] at hc24
  try simp only [hc24, C5] at h
  refine Runs.seq ?_
  obtain ⟨⟨e25, q25⟩, h25, h⟩ := some_bind h
  have w25 := ih.e72 h25
  try dsimp only at h
  refine Runs.reg (by simp only [go_sem, seval, w25, hc2, hc4, hc9, hc12, hc16, hc20, hc24]; rfl) (by simp only [long90, go_sem, seval]; rfl) ?_
  refine Runs.ret ?_
  try cases h
  try dsimp only [outX]
  first
  | rfl
  | (exact fk (res := [.cell 2 122]) rfl rfl rfl (by simp only [fin1, go_sem, seval, hc2, hc4, hc9, hc12, hc16, hc20, hc24]; try rfl))
 try simp only [N3] at hc24
 try simp only [hc24, C5] at h
 refine Runs.skip ?_
 refine Runs.seq ?_
 obtain ⟨q26, h26, h⟩ := some_bind h
 have w26 := W56 _ _ h26
 try dsimp only at h
 refine Runs.reg (by simp only [go_sem, seval, w26, hc2, hc4, hc9, hc12, hc16, hc20, hc24]; rfl) (by simp only [long90, go_sem, seval]; rfl) ?_
 refine Runs.seq ?_
 refine Runs.reg (by simp only [go_sem, seval, hc2, hc4, hc9, hc12, hc16, hc20, hc24]; rfl) (by simp only [long90, go_sem, seval]; rfl) ?_
 refine Runs.ret ?_
 try cases h
 try dsimp only [outX]
 first
 | rfl
 | (exact fk (res := [.cell 2 122]) rfl rfl rfl (by simp only [fin1, go_sem, seval, hc2, hc4, hc9, hc12, hc16, hc20, hc24]; try rfl))
theorem W85 {n : Nat} (ih : ExprIH n) {p q : PS} {e : Ast} (h : namedP (n + 1) p = some (e, q)) : callW ip 77 [pV] [pBox p] = some (.ret [astV e], [pBox q]) := by
 simp only [namedP, namedQ, namedR, pollQ, wadd, wsub, incBy] at h
 refine callW_runs (fn := Tryd.f77) (L := long77) (nt := 78) (n0 := 1) (T := tab) (rw' := []) (kA := keepA) Tryd.func77 rfl rfl rfl rfl rfl rfl rfl rfl rfl ?_
 refine Runs.seq ?_
 refine Runs.reg (by simp only [go_sem, seval, runFork]; rfl) (by simp only [long77, go_sem, seval]; rfl) ?_
 refine Runs.seq ?_
 obtain ⟨⟨r1, q1⟩, h1, h⟩ := some_bind h
 have w1 := ih.e87 h1
 try dsimp only at h
 refine Runs.reg (by simp only [go_sem, seval, runFork, w1]; rfl) (by simp only [long77, go_sem, seval]; rfl) ?_
 refine Runs.seq ?_
 refine Runs.seq ?_
 refine Runs.row ?_
 obtain ⟨b2, h2, h⟩ := some_bind h
 have w2 := W25 _ _ _ h2
 try dsimp only at h
 refine Row.run 3 (by simp only [go_sem, seval, runFork, w2]; rfl) ?_
 refine Row.guard (t := 9) (by simp only [go_sem, seval]; rfl) (fun hg3 => ?_) (fun hg3 => ?_)
 ·
  try simp only [N3] at hg3
  try simp only [hg3, C5] at h
  refine Row.run 6 (by simp only [go_sem, seval, runFork, w2, hg3]; rfl) ?_
  refine Row.guard (t := 15) (by simp only [go_sem, seval]; rfl) (fun hg4 => ?_) (fun hg4 => ?_)
  ·
   try simp only [N3] at hg4
   try simp only [hg4, C5] at h
   obtain ⟨x5, h5, h⟩ := some_bind h
   obtain ⟨ge5, at5⟩ := getP_some h5
   try simp only [seval] at at5
   try dsimp only at h
   refine Row.run 5 (by simp only [go_sem, seval, runFork, w2, ge5, at5, hg3, hg4]; rfl) ?_
   refine Row.end_ (by simp only [long77, go_sem, seval]; rfl) ?_
   refine Runs.cond (t := 20) rfl (fun hc6 => ?_) (fun hc6 => ?_)
   ·
    try simp only [N3] at hc6
    try simp only [hc6, C5] at h
    refine Runs.seq ?_
    refine Runs.reg (by simp only [go_sem, seval, runFork, hg3, hg4, hc6]; rfl) (by simp only [long77, go_sem, seval]; rfl) ?_
    refine Runs.seq ?_
    obtain ⟨x7, h7, h⟩ := some_bind h
    obtain ⟨ge7, at7⟩ := getP_some h7
    try simp only [seval] at at7
    try dsimp only at h
    obtain ⟨x8, h8, h⟩ := some_bind h
    obtain ⟨ge8, at8⟩ := getP_some h8
    try simp only [seval] at at8
    try dsimp only at h
    obtain ⟨⟨s9, q9⟩, h9, h⟩ := some_bind h
    have w9 := W30 _ _ _ h9
    try dsimp only at h
    refine Runs.drw rfl (by simp only [go_sem, seval, runFork, ge7, at7, ge8, at8, w9, hg3, hg4, hc6]; rfl) (by simp only [long77, go_sem, seval]; rfl) ?_
    refine Runs.ret ?_
    try cases h
    try dsimp only [outX]
    first
    | rfl
    | (exact fk (res := [.cell 2 39]) rfl rfl rfl (by simp only [fin1, go_sem, seval, runFork, ge7, at7, ge8, at8, w9, hg3, hg4, hc6]; try rfl))
   try simp only [N3] at hc6
   try simp only [hc6, C5] at h
   refine Runs.skip ?_
   refine Runs.seq ?_
   refine Runs.seq ?_
   refine Runs.row ?_
   obtain ⟨b10, h10, h⟩ := some_bind h
   have w10 := W25 _ _ _ h10
   try dsimp only at h
   refine Row.run 3 (by simp only [go_sem, seval, runFork, w10, hg3, hg4, hc6]; rfl) ?_
   refine Row.guard (t := 42) (by simp only [go_sem, seval]; rfl) (fun hg11 => ?_) (fun hg11 => ?_)
   ·
    try simp only [N3] at hg11
    try simp only [hg11, C5] at h
    obtain ⟨b12, h12, h⟩ := some_bind h
    have w12 := W27 _ _ _ _ h12
    try dsimp only at h
    refine Row.run 7 (by simp only [go_sem, seval, runFork, w10, w12, hg3, hg4, hc6, hg11]; rfl) ?_
    refine Row.end_ (by simp only [long77, go_sem, seval]; rfl) ?_
    refine Runs.cond (t := 49) rfl (fun hc13 => ?_) (fun hc13 => ?_)
    ·
     try simp only [N3] at hc13
     try simp only [hc13, C5] at h
     refine Runs.seq ?_
     obtain ⟨x14, h14, h⟩ := some_bind h
     obtain ⟨ge14, at14⟩ := getP_some h14
     try dsimp only at h
     refine Runs.drw rfl (by simp only [go_sem, seval, runFork, ge14, at14, hg3, hg4, hc6, hg11, hc13]; rfl) (by simp only [long77, go_sem, seval]; rfl) ?_
     refine Runs.seq ?_
     refine Runs.reg (by simp only [go_sem, seval, runFork, ge14, at14, hg3, hg4, hc6, hg11, hc13]; rfl) (by simp only [long77, go_sem, seval]; rfl) ?_
     refine Runs.seq ?_
     obtain ⟨⟨l15, q15⟩, h15, h⟩ := some_bind h
     have w15 := ih.e92 h15
     try dsimp only at h
     refine Runs.reg (by simp only [go_sem, seval, runFork, ge14, at14, w15, hg3, hg4, hc6, hg11, hc13]; rfl) (by simp only [long77, go_sem, seval]; rfl) ?_
     refine Runs.seq ?_
     obtain ⟨q16, h16, h⟩ := some_bind h
     have w16 := W28 _ _ _ h16
     try dsimp only at h
     refine Runs.reg (by simp only [go_sem, seval, runFork, ge14, at14, w16, hg3, hg4, hc6, hg11, hc13]; rfl) (by simp only [long77, go_sem, seval]; rfl) ?_
     refine Runs.seq ?_
     refine Runs.reg (by simp only [go_sem, seval, runFork, ge14, at14, hg3, hg4, hc6, hg11, hc13]; rfl) (by simp only [long77, go_sem, seval]; rfl) ?_
     refine Runs.ret ?_
     try cases h
     try dsimp only [outX]
     first
     | rfl
     | (exact fk (res := [.cell 2 39]) rfl rfl rfl (by simp only [fin1, go_sem, seval, runFork, ge14, at14, hg3, hg4, hc6, hg11, hc13]; try rfl))
    try simp only [N3] at hc13
    try simp only [hc13, C5] at h
    refine Runs.skip ?_
    refine Runs.seq ?_
    refine Runs.reg (by simp only [go_sem, seval, runFork, hg3, hg4, hc6, hg11, hc13]; rfl) (by simp only [long77, go_sem, seval]; rfl) ?_
    refine Runs.ret ?_
    try cases h
    try dsimp only [outX]
    first
    | rfl
    | (exact fk (res := [.cell 2 39]) rfl rfl rfl (by simp only [fin1, go_sem, seval, runFork, hg3, hg4, hc6, hg11, hc13]; try rfl))
   ·
    try simp only [N3] at hg11
    try simp only [hg11, C5] at h
    obtain ⟨b17, h17, h⟩ := some_bind h
    have w17 := W25 _ _ _ h17
    try dsimp only at h
    refine Row.run 4 (by simp only [go_sem, seval, runFork, w10, w17, hg3, hg4, hc6, hg11]; rfl) ?_
    refine Row.guard (t := 46) (by simp only [go_sem, seval]; rfl) (fun hg18 => ?_) (fun hg18 => ?_)
    ·
     try simp only [N3] at hg18
     try simp only [hg18, C5] at h
     obtain ⟨b19, h19, h⟩ := some_bind h
     have w19 := W27 _ _ _ _ h19
     try dsimp only at h
     refine Row.run 3 (by simp only [go_sem, seval, runFork, w10, w17, w19, hg3, hg4, hc6, hg11, hg18]; rfl) ?_
     refine Row.end_ (by simp only [long77, go_sem, seval]; rfl) ?_
     refine Runs.cond (t := 49) rfl (fun hc20 => ?_) (fun hc20 => ?_)
     ·
      try simp only [N3] at hc20
      try simp only [hc20, C5] at h
      refine Runs.seq ?_
      obtain ⟨x21, h21, h⟩ := some_bind h
      obtain ⟨ge21, at21⟩ := getP_some h21
      try dsimp only at h
      refine Runs.drw rfl (by simp only [go_sem, seval, runFork, ge21, at21, hg3, hg4, hc6, hg11, hg18, hc20]; rfl) (by simp only [long77, go_sem, seval]; rfl) ?_
      refine Runs.seq ?_
      refine Runs.reg (by simp only [go_sem, seval, runFork, ge21, at21, hg3, hg4, hc6, hg11, hg18, hc20]; rfl) (by simp only [long77, go_sem, seval]; rfl) ?_
      refine Runs.seq ?_
      obtain ⟨⟨l22, q22⟩, h22, h⟩ := some_bind h
      have w22 := ih.e92 h22
      try dsimp only at h
      refine Runs.reg (by simp only [go_sem, seval, runFork, ge21, at21, w22, hg3, hg4, hc6, hg11, hg18, hc20]; rfl) (by simp only [long77, go_sem, seval]; rfl) ?_
      refine Runs.seq ?_
      obtain ⟨q23, h23, h⟩ := some_bind h
      have w23 := W28 _ _ _ h23
      try dsimp only at h
      refine Runs.reg (by simp only [go_sem, seval, runFork, ge21, at21, w23, hg3, hg4, hc6, hg11, hg18, hc20]; rfl) (by simp only [long77, go_sem, seval]; rfl) ?_
      refine Runs.seq ?_
      refine Runs.reg (by simp only [go_sem, seval, runFork, ge21, at21, hg3, hg4, hc6, hg11, hg18, hc20]; rfl) (by simp only [long77, go_sem, seval]; rfl) ?_
      refine Runs.ret ?_
      try cases h
      try dsimp only [outX]
      first
      | rfl
      | (exact fk (res := [.cell 2 39]) rfl rfl rfl (by simp only [fin1, go_sem, seval, runFork, ge21, at21, hg3, hg4, hc6, hg11, hg18, hc20]; try rfl))
     try simp only [N3] at hc20
     try simp only [hc20, C5] at h
     refine Runs.skip ?_
     refine Runs.seq ?_
     refine Runs.reg (by simp only [go_sem, seval, runFork, hg3, hg4, hc6, hg11, hg18, hc20]; rfl) (by simp only [long77, go_sem, seval]; rfl) ?_
     refine Runs.ret ?_
     try cases h
     try dsimp only [outX]
     first
     | rfl
     | (exact fk (res := [.cell 2 39]) rfl rfl rfl (by simp only [fin1, go_sem, seval, runFork, hg3, hg4, hc6, hg11, hg18, hc20]; try rfl))
    ·
     try simp only [N3] at hg18
     try simp only [hg18, C5] at h
     refine Row.run 3 (by simp only [go_sem, seval, runFork, w10, w17, hg3, hg4, hc6, hg11, hg18]; rfl) ?_
     refine Row.end_ (by simp only [long77, go_sem, seval]; rfl) ?_
     refine Runs.cond (t := 49) rfl (fun hc24 => ?_) (fun hc24 => ?_)
     · exact absurd hc24 (by first | decide | (simp only [hg3, hg4, hc6, hg11, hg18]; decide))
     try simp only [N3] at hc24
     try simp only [hc24, C5] at h
     refine Runs.skip ?_
     refine Runs.seq ?_
     refine Runs.reg (by simp only [go_sem, seval, runFork, hg3, hg4, hc6, hg11, hg18]; rfl) (by simp only [long77, go_sem, seval]; rfl) ?_
     refine Runs.ret ?_
     try cases h
     try dsimp only [outX]
     first
     | rfl
     | (exact fk (res := [.cell 2 39]) rfl rfl rfl (by simp only [fin1, go_sem, seval, runFork, hg3, hg4, hc6, hg11, hg18]; try rfl))
  ·
   try simp only [N3] at hg4
   try simp only [hg4, C5] at h
   refine Row.run 5 (by simp only [go_sem, seval, runFork, w2, hg3, hg4]; rfl) ?_
   refine Row.end_ (by simp only [long77, go_sem, seval]; rfl) ?_
   refine Runs.cond (t := 20) rfl (fun hc25 => ?_) (fun hc25 => ?_)
   · exact absurd hc25 (by first | decide | (simp only [hg3, hg4]; decide))
   try simp only [N3] at hc25
   try simp only [hc25, C5] at h
   refine Runs.skip ?_
   refine Runs.seq ?_
   refine Runs.seq ?_
   refine Runs.row ?_
   obtain ⟨b26, h26, h⟩ := some_bind h
   have w26 := W25 _ _ _ h26
   try dsimp only at h
   refine Row.run 3 (by simp only [go_sem, seval, runFork, w26, hg3, hg4]; rfl) ?_
   refine Row.guard (t := 42) (by simp only [go_sem, seval]; rfl) (fun hg27 => ?_) (fun hg27 => ?_)
   ·
    try simp only [N3] at hg27
    try simp only [hg27, C5] at h
    obtain ⟨b28, h28, h⟩ := some_bind h
    have w28 := W27 _ _ _ _ h28
    try dsimp only at h
    refine Row.run 7 (by simp only [go_sem, seval, runFork, w26, w28, hg3, hg4, hg27]; rfl) ?_
    refine Row.end_ (by simp only [long77, go_sem, seval]; rfl) ?_
    refine Runs.cond (t := 49) rfl (fun hc29 => ?_) (fun hc29 => ?_)
    ·
     try simp only [N3] at hc29
     try simp only [hc29, C5] at h
     refine Runs.seq ?_
     obtain ⟨x30, h30, h⟩ := some_bind h
     obtain ⟨ge30, at30⟩ := getP_some h30
     try dsimp only at h
     refine Runs.drw rfl (by simp only [go_sem, seval, runFork, ge30, at30, hg3, hg4, hg27, hc29]; rfl) (by simp only [long77, go_sem, seval]; rfl) ?_
     refine Runs.seq ?_
     refine Runs.reg (by simp only [go_sem, seval, runFork, ge30, at30, hg3, hg4, hg27, hc29]; rfl) (by simp only [long77, go_sem, seval]; rfl) ?_
     refine Runs.seq ?_
     obtain ⟨⟨l31, q31⟩, h31, h⟩ := some_bind h
     have w31 := ih.e92 h31
     try dsimp only at h
     refine Runs.reg (by simp only [go_sem, seval, runFork, ge30, at30, w31, hg3, hg4, hg27, hc29]; rfl) (by simp only [long77, go_sem, seval]; rfl) ?_
     refine Runs.seq ?_
     obtain ⟨q32, h32, h⟩ := some_bind h
     have w32 := W28 _ _ _ h32
     try dsimp only at h
     refine Runs.reg (by simp only [go_sem, seval, runFork, ge30, at30, w32, hg3, hg4, hg27, hc29]; rfl) (by simp only [long77, go_sem, seval]; rfl) ?_
     refine Runs.seq ?_
     refine Runs.reg (by simp only [go_sem, seval, runFork, ge30, at30, hg3, hg4, hg27, hc29]; rfl) (by simp only [long77, go_sem, seval]; rfl) ?_
     refine Runs.ret ?_
     try cases h
     try dsimp only [outX]
     first
     | rfl
     | (exact fk (res := [.cell 2 39]) rfl rfl rfl (by simp only [fin1, go_sem, seval, runFork, ge30, at30, hg3, hg4, hg27, hc29]; try rfl))
    try simp only [N3] at hc29
    try simp only [hc29, C5] at h
    refine Runs.skip ?_
    refine Runs.seq ?_
    refine Runs.reg (by simp only [go_sem, seval, runFork, hg3, hg4, hg27, hc29]; rfl) (by simp only [long77, go_sem, seval]; rfl) ?_
    refine Runs.ret ?_
    try cases h
    try dsimp only [outX]
    first
    | rfl
    | (exact fk (res := [.cell 2 39]) rfl rfl rfl (by simp only [fin1, go_sem, seval, runFork, hg3, hg4, hg27, hc29]; try rfl))
   ·
    try simp only [N3] at hg27
    try simp only [hg27, C5] at h
    obtain ⟨b33, h33, h⟩ := some_bind h
    have w33 := W25 _ _ _ h33
    try dsimp only at h
    refine Row.run 4 (by simp only [go_sem, seval, runFork, w26, w33, hg3, hg4, hg27]; rfl) ?_
    refine Row.guard (t := 46) (by simp only [go_sem, seval]; rfl) (fun hg34 => ?_) (fun hg34 => ?_)
    ·
     try simp only [N3] at hg34
     try simp only [hg34, C5] at h
     obtain ⟨b35, h35, h⟩ := some_bind h
     have w35 := W27 _ _ _ _ h35
     try dsimp only at h
     refine Row.run 3 (by simp only [go_sem, seval, runFork, w26, w33, w35, hg3, hg4, hg27, hg34]; rfl) ?_
     refine Row.end_ (by simp only [long77, go_sem, seval]; rfl) ?_
     refine Runs.cond (t := 49) rfl (fun hc36 => ?_) (fun hc36 => ?_)
     ·
      try simp only [N3] at hc36
      try simp only [hc36, C5] at h
      refine Runs.seq ?_
      obtain ⟨x37, h37, h⟩ := some_bind h
      obtain ⟨ge37, at37⟩ := getP_some h37
      try dsimp only at h
      refine Runs.drw rfl (by simp only [go_sem, seval, runFork, ge37, at37, hg3, hg4, hg27, hg34, hc36]; rfl) (by simp only [long77, go_sem, seval]; rfl) ?_
      refine Runs.seq ?_
      refine Runs.reg (by simp only [go_sem, seval, runFork, ge37, at37, hg3, hg4, hg27, hg34, hc36]; rfl) (by simp only [long77, go_sem, seval]; rfl) ?_
      refine Runs.seq ?_
      obtain ⟨⟨l38, q38⟩, h38, h⟩ := some_bind h
      have w38 := ih.e92 h38
      try dsimp only at h
      refine Runs.reg (by simp only [go_sem, seval, runFork, ge37, at37, w38, hg3, hg4, hg27, hg34, hc36]; rfl) (by simp only [long77, go_sem, seval]; rfl) ?_
      refine Runs.seq ?_
      obtain ⟨q39, h39, h⟩ := some_bind h
      have w39 := W28 _ _ _ h39
      try dsimp only at h
      refine Runs.reg (by simp only [go_sem, seval, runFork, ge37, at37, w39, hg3, hg4, hg27, hg34, hc36]; rfl) (by simp only [long77, go_sem, seval]; rfl) ?_
      refine Runs.seq ?_
      refine Runs.reg (by simp only [go_sem, seval, runFork, ge37, at37, hg3, hg4, hg27, hg34, hc36]; rfl) (by simp only [long77, go_sem, seval]; rfl) ?_
      refine Runs.ret ?_
      try cases h
      try dsimp only [outX]
      first
      | rfl
      | (exact fk (res := [.cell 2 39]) rfl rfl rfl (by simp only [fin1, go_sem, seval, runFork, ge37, at37, hg3, hg4, hg27, hg34, hc36]; try rfl))
     try simp only [N3] at hc36
     try simp only [hc36, C5] at h
     refine Runs.skip ?_
     refine Runs.seq ?_
     refine Runs.reg (by simp only [go_sem, seval, runFork, hg3, hg4, hg27, hg34, hc36]; rfl) (by simp only [long77, go_sem, seval]; rfl) ?_
     refine Runs.ret ?_
     try cases h
     try dsimp only [outX]
     first
     | rfl
     | (exact fk (res := [.cell 2 39]) rfl rfl rfl (by simp only [fin1, go_sem, seval, runFork, hg3, hg4, hg27, hg34, hc36]; try rfl))
    ·
     try simp only [N3] at hg34
     try simp only [hg34, C5] at h
     refine Row.run 3 (by simp only [go_sem, seval, runFork, w26, w33, hg3, hg4, hg27, hg34]; rfl) ?_
     refine Row.end_ (by simp only [long77, go_sem, seval]; rfl) ?_
     refine Runs.cond (t := 49) rfl (fun hc40 => ?_) (fun hc40 => ?_)
     · exact absurd hc40 (by first | decide | (simp only [hg3, hg4, hg27, hg34]; decide))
     try simp only [N3] at hc40
     try simp only [hc40, C5] at h
     refine Runs.skip ?_
     refine Runs.seq ?_
     refine Runs.reg (by simp only [go_sem, seval, runFork, hg3, hg4, hg27, hg34]; rfl) (by simp only [long77, go_sem, seval]; rfl) ?_
     refine Runs.ret ?_
     try cases h
     try dsimp only [outX]
     first
     | rfl
     | (exact fk (res := [.cell 2 39]) rfl rfl rfl (by simp only [fin1, go_sem, seval, runFork, hg3, hg4, hg27, hg34]; try rfl))
 ·
  try simp only [N3] at hg3
  try simp only [hg3, C5] at h
  refine Row.run 11 (by simp only [go_sem, seval, runFork, w2, hg3]; rfl) ?_
  refine Row.end_ (by simp only [long77, go_sem, seval]; rfl) ?_
  refine Runs.cond (t := 20) rfl (fun hc41 => ?_) (fun hc41 => ?_)
  · exact absurd hc41 (by first | decide | (simp only [hg3]; decide))
  try simp only [N3] at hc41
  try simp only [hc41, C5] at h
  refine Runs.skip ?_
  refine Runs.seq ?_
  refine Runs.seq ?_
  refine Runs.row ?_
  obtain ⟨b42, h42, h⟩ := some_bind h
  have w42 := W25 _ _ _ h42
  try dsimp only at h
  refine Row.run 3 (by simp only [go_sem, seval, runFork, w42, hg3]; rfl) ?_
  refine Row.guard (t := 42) (by simp only [go_sem, seval]; rfl) (fun hg43 => ?_) (fun hg43 => ?_)
  ·
   try simp only [N3] at hg43
   try simp only [hg43, C5] at h
   obtain ⟨b44, h44, h⟩ := some_bind h
   have w44 := W27 _ _ _ _ h44
   try dsimp only at h
   refine Row.run 7 (by simp only [go_sem, seval, runFork, w42, w44, hg3, hg43]; rfl) ?_
   refine Row.end_ (by simp only [long77, go_sem, seval]; rfl) ?_
   refine Runs.cond (t := 49) rfl (fun hc45 => ?_) (fun hc45 => ?_)
   ·
    try simp only [N3] at hc45
    try simp only [hc45, C5] at h
    refine Runs.seq ?_
    obtain ⟨x46, h46, h⟩ := some_bind h
    obtain ⟨ge46, at46⟩ := getP_some h46
    try dsimp only at h
    refine Runs.drw rfl (by simp only [go_sem, seval, runFork, ge46, at46, hg3, hg43, hc45]; rfl) (by simp only [long77, go_sem, seval]; rfl) ?_
    refine Runs.seq ?_
    refine Runs.reg (by simp only [go_sem, seval, runFork, ge46, at46, hg3, hg43, hc45]; rfl) (by simp only [long77, go_sem, seval]; rfl) ?_
    refine Runs.seq ?_
    obtain ⟨⟨l47, q47⟩, h47, h⟩ := some_bind h
    have w47 := ih.e92 h47
    try dsimp only at h
    refine Runs.reg (by simp only [go_sem, seval, runFork, ge46, at46, w47, hg3, hg43, hc45]; rfl) (by simp only [long77, go_sem, seval]; rfl) ?_
    refine Runs.seq ?_
    obtain ⟨q48, h48, h⟩ := some_bind h
    have w48 := W28 _ _ _ h48
    try dsimp only at h
    refine Runs.reg (by simp only [go_sem, seval, runFork, ge46, at46, w48, hg3, hg43, hc45]; rfl) (by simp only [long77, go_sem, seval]; rfl) ?_
    refine Runs.seq ?_
    refine Runs.reg (by simp only [go_sem, seval, runFork, ge46, at46, hg3, hg43, hc45]; rfl) (by simp only [long77, go_sem, seval]; rfl) ?_
    refine Runs.ret ?_
    try cases h
    try dsimp only [outX]
    first
    | rfl
    | (exact fk (res := [.cell 2 39]) rfl rfl rfl (by simp only [fin1, go_sem, seval, runFork, ge46, at46, hg3, hg43, hc45]; try rfl))
   try simp only [N3] at hc45
   try simp only [hc45, C5] at h
   refine Runs.skip ?_
   refine Runs.seq ?_
   refine Runs.reg (by simp only [go_sem, seval, runFork, hg3, hg43, hc45]; rfl) (by simp only [long77, go_sem, seval]; rfl) ?_
   refine Runs.ret ?_
   try cases h
   try dsimp only [outX]
   first
   | rfl
   | (exact fk (res := [.cell 2 39]) rfl rfl rfl (by simp only [fin1, go_sem, seval, runFork, hg3, hg43, hc45]; try rfl))
  ·
   try simp only [N3] at hg43
   try simp only [hg43, C5] at h
   obtain ⟨b49, h49, h⟩ := some_bind h
   have w49 := W25 _ _ _ h49
   try dsimp only at h
   refine Row.run 4 (by simp only [go_sem, seval, runFork, w42, w49, hg3, hg43]; rfl) ?_
   refine Row.guard (t := 46) (by simp only [go_sem, seval]; rfl) (fun hg50 => ?_) (fun hg50 => ?_)
   ·
    try simp only [N3] at hg50
    try simp only [hg50, C5] at h
    obtain ⟨b51, h51, h⟩ := some_bind h
    have w51 := W27 _ _ _ _ h51
    try dsimp only at h
    refine Row.run 3 (by simp only [go_sem, seval, runFork, w42, w49, w51, hg3, hg43, hg50]; rfl) ?_
    refine Row.end_ (by simp only [long77, go_sem, seval]; rfl) ?_
    refine Runs.cond (t := 49) rfl (fun hc52 => ?_) (fun hc52 => ?_)
    ·
     try simp only [N3] at hc52
     try simp only [hc52, C5] at h
     refine Runs.seq ?_
     obtain ⟨x53, h53, h⟩ := some_bind h
     obtain ⟨ge53, at53⟩ := getP_some h53
     try dsimp only at h
     refine Runs.drw rfl (by simp only [go_sem, seval, runFork, ge53, at53, hg3, hg43, hg50, hc52]; rfl) (by simp only [long77, go_sem, seval]; rfl) ?_
     refine Runs.seq ?_
     refine Runs.reg (by simp only [go_sem, seval, runFork, ge53, at53, hg3, hg43, hg50, hc52]; rfl) (by simp only [long77, go_sem, seval]; rfl) ?_
     refine Runs.seq ?_
     obtain ⟨⟨l54, q54⟩, h54, h⟩ := some_bind h
     have w54 := ih.e92 h54
     try dsimp only at h
     refine Runs.reg (by simp only [go_sem, seval, runFork, ge53, at53, w54, hg3, hg43, hg50, hc52]; rfl) (by simp only [long77, go_sem, seval]; rfl) ?_
     refine Runs.seq ?_
     obtain ⟨q55, h55, h⟩ := some_bind h
     have w55 := W28 _ _ _ h55
     try dsimp only at h
     refine Runs.reg (by simp only [go_sem, seval, runFork, ge53, at53, w55, hg3, hg43, hg50, hc52]; rfl) (by simp only [long77, go_sem, seval]; rfl) ?_
     refine Runs.seq ?_
     refine Runs.reg (by simp only [go_sem, seval, runFork, ge53, at53, hg3, hg43, hg50, hc52]; rfl) (by simp only [long77, go_sem, seval]; rfl) ?_
     refine Runs.ret ?_
     try cases h
     try dsimp only [outX]
     first
     | rfl
     | (exact fk (res := [.cell 2 39]) rfl rfl rfl (by simp only [fin1, go_sem, seval, runFork, ge53, at53, hg3, hg43, hg50, hc52]; try rfl))
    try simp only [N3] at hc52
    try simp only [hc52, C5] at h
    refine Runs.skip ?_
    refine Runs.seq ?_
    refine Runs.reg (by simp only [go_sem, seval, runFork, hg3, hg43, hg50, hc52]; rfl) (by simp only [long77, go_sem, seval]; rfl) ?_
    refine Runs.ret ?_
    try cases h
    try dsimp only [outX]
    first
    | rfl
    | (exact fk (res := [.cell 2 39]) rfl rfl rfl (by simp only [fin1, go_sem, seval, runFork, hg3, hg43, hg50, hc52]; try rfl))
   ·
    try simp only [N3] at hg50
    try simp only [hg50, C5] at h
    refine Row.run 3 (by simp only [go_sem, seval, runFork, w42, w49, hg3, hg43, hg50]; rfl) ?_
    refine Row.end_ (by simp only [long77, go_sem, seval]; rfl) ?_
    refine Runs.cond (t := 49) rfl (fun hc56 => ?_) (fun hc56 => ?_)
    · exact absurd hc56 (by first | decide | (simp only [hg3, hg43, hg50]; decide))
    try simp only [N3] at hc56
    try simp only [hc56, C5] at h
    refine Runs.skip ?_
    refine Runs.seq ?_
    refine Runs.reg (by simp only [go_sem, seval, runFork, hg3, hg43, hg50]; rfl) (by simp only [long77, go_sem, seval]; rfl) ?_
    refine Runs.ret ?_
    try cases h
    try dsimp only [outX]
    first
    | rfl
    | (exact fk (res := [.cell 2 39]) rfl rfl rfl (by simp only [fin1, go_sem, seval, runFork, hg3, hg43, hg50]; try rfl))
end Go.Proofs.YtmkacifjegnehaaDoor
