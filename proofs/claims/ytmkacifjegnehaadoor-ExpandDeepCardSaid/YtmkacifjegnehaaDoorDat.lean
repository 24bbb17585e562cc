/-
  WHAT THE PROGRAM's TREES ARE: expressions, statements, declarations, units; and how they are written in cells.
-/
import Derived.Test.YtmkacifjegnehaaDoorAb24
namespace Go.Proofs.YtmkacifjegnehaaDoor
open Go Go.Proofs Go.Proofs.YtmkacifjegnehaaDoor.Ab
abbrev Bytes := List UInt8
structure ArgT (A : Type) where
  mtch : Bool
  any : Bool
  e : A
structure RefT (A : Type) where
  names : List Bytes
  index : List A
  has : List Bool
structure Ast where
  kind : Int
  n : Int
  name : Bytes
  label : Bytes
  ref : RefT Ast
  kids : List Ast
  args : List (ArgT Ast)
abbrev Ref := RefT Ast
abbrev Arg := ArgT Ast
structure DVar where
  name : Bytes
  array : Bool
  size : Ast
  init : Bool
  e : Ast
  chan : Bool
  fields : List Int
structure Decl where
  type : Int
  named : Bytes
  vars : List DVar
  pos : Int
structure Stmt where
  kind : Int
  pos : Int
  name : Bytes
  text : Bytes
  n : Int
  sorted : Bool
  random : Bool
  keep : Bool
  ref : Ref
  e : Ast
  es : List Ast
  args : List Arg
  decl : Decl
  options : List (List Stmt)
  body : List Stmt
structure Uni where
  kind : Int
  pos : Int
  name : Bytes
  text : Bytes
  names : List Bytes
  active : Bool
  count : Ast
  decl : Decl
  decls : List Decl
  body : List Stmt
def ref0 : Ref := ⟨[], [], []⟩
def ast0 : Ast := ⟨0, 0, [], [], ref0, [], []⟩
def arg0 : Arg := ⟨false, false, ast0⟩
def dvar0 : DVar := ⟨[], false, ast0, false, ast0, false, []⟩
def decl0 : Decl := ⟨0, [], [], 0⟩
def stmt0 : Stmt := ⟨0, 0, [], [], 0, false, false, false, ref0, ast0, [], [], decl0, [], []⟩
def uni0 : Uni := ⟨0, 0, [], [], [], false, ast0, decl0, [], []⟩
def strD (s : Bytes) : List D := [.str s]
def boD (b : Bool) : List D := [.bo b]
def intD (n : Int) : List D := [.int .i64 n]
mutual
def astD : Ast → List D
  | ⟨kind, n, name, label, ref, kids, args⟩ => .int .i64 kind :: .int .i64 n :: .str name :: .str label :: (refD ref ++ [.sl (astsD kids), .sl (argsD args)])
def refD : Ref → List D
  | ⟨names, index, has⟩ => [.sl (names.map strD), .sl (astsD index), .sl (has.map boD)]
def astsD : List Ast → List (List D)
  | [] => []
  | e :: l => astD e :: astsD l
def argD : Arg → List D
  | ⟨m, a, e⟩ => .bo m :: .bo a :: astD e
def argsD : List Arg → List (List D)
  | [] => []
  | e :: l => argD e :: argsD l
end
theorem astsD_map (l : List Ast) : astsD l = l.map astD := by induction l <;> simp_all [astsD]
theorem argsD_map (l : List Arg) : argsD l = l.map argD := by induction l <;> simp_all [argsD]
theorem refD_eta (r : Ref) : refD r = [.sl (r.names.map strD), .sl (r.index.map astD), .sl (r.has.map boD)] := by
  cases r; simp [refD, astsD_map]
theorem astD_eta (e : Ast) : astD e = [.int .i64 e.kind, .int .i64 e.n, .str e.name, .str e.label, .sl (e.ref.names.map strD), .sl (e.ref.index.map astD), .sl (e.ref.has.map boD), .sl (e.kids.map astD), .sl (e.args.map argD)] := by
  cases e; simp [astD, refD_eta, astsD_map, argsD_map]
theorem argD_eta (a : Arg) : argD a = [.bo a.mtch, .bo a.any, .int .i64 a.e.kind, .int .i64 a.e.n, .str a.e.name, .str a.e.label, .sl (a.e.ref.names.map strD), .sl (a.e.ref.index.map astD), .sl (a.e.ref.has.map boD), .sl (a.e.kids.map astD), .sl (a.e.args.map argD)] := by
  cases a; simp [argD, astD_eta]
def dvarD (v : DVar) : List D := [.str v.name, .bo v.array, .int .i64 v.size.kind, .int .i64 v.size.n, .str v.size.name, .str v.size.label, .sl (v.size.ref.names.map strD), .sl (v.size.ref.index.map astD), .sl (v.size.ref.has.map boD), .sl (v.size.kids.map astD), .sl (v.size.args.map argD),
  .bo v.init, .int .i64 v.e.kind, .int .i64 v.e.n, .str v.e.name, .str v.e.label, .sl (v.e.ref.names.map strD), .sl (v.e.ref.index.map astD), .sl (v.e.ref.has.map boD), .sl (v.e.kids.map astD), .sl (v.e.args.map argD), .bo v.chan, .sl (v.fields.map intD)]
def declD (d : Decl) : List D := [.int .i64 d.type, .str d.named, .sl (d.vars.map dvarD), .int .i64 d.pos]
mutual
def stmtD : Stmt → List D
  | ⟨kind, pos, name, text, n, sorted, random, keep, ref, e, es, args, decl, options, body⟩ => [.int .i64 kind, .int .i64 pos, .str name, .str text, .int .i64 n, .bo sorted, .bo random, .bo keep, .sl (ref.names.map strD), .sl (ref.index.map astD), .sl (ref.has.map boD),
    .int .i64 e.kind, .int .i64 e.n, .str e.name, .str e.label, .sl (e.ref.names.map strD), .sl (e.ref.index.map astD), .sl (e.ref.has.map boD), .sl (e.kids.map astD), .sl (e.args.map argD), .sl (es.map astD), .sl (args.map argD),
    .int .i64 decl.type, .str decl.named, .sl (decl.vars.map dvarD), .int .i64 decl.pos, .sl (optsD options), .sl (stmtsD body)]
def stmtsD : List Stmt → List (List D)
  | [] => []
  | s :: l => stmtD s :: stmtsD l
def optsD : List (List Stmt) → List (List D)
  | [] => []
  | o :: l => [.sl (stmtsD o)] :: optsD l
end
def optD (o : List Stmt) : List D := [.sl (o.map stmtD)]
theorem stmtsD_map (l : List Stmt) : stmtsD l = l.map stmtD := by induction l <;> simp_all [stmtsD]
theorem optsD_map (l : List (List Stmt)) : optsD l = l.map optD := by induction l <;> simp_all [optsD, optD, stmtsD_map]
theorem stmtD_eta (s : Stmt) : stmtD s = [.int .i64 s.kind, .int .i64 s.pos, .str s.name, .str s.text, .int .i64 s.n, .bo s.sorted, .bo s.random, .bo s.keep, .sl (s.ref.names.map strD), .sl (s.ref.index.map astD), .sl (s.ref.has.map boD),
    .int .i64 s.e.kind, .int .i64 s.e.n, .str s.e.name, .str s.e.label, .sl (s.e.ref.names.map strD), .sl (s.e.ref.index.map astD), .sl (s.e.ref.has.map boD), .sl (s.e.kids.map astD), .sl (s.e.args.map argD), .sl (s.es.map astD), .sl (s.args.map argD),
    .int .i64 s.decl.type, .str s.decl.named, .sl (s.decl.vars.map dvarD), .int .i64 s.decl.pos, .sl (s.options.map optD), .sl (s.body.map stmtD)] := by
  cases s; simp [stmtD, optsD_map, stmtsD_map]
def uniD (u : Uni) : List D := [.int .i64 u.kind, .int .i64 u.pos, .str u.name, .str u.text, .sl (u.names.map strD), .bo u.active,
  .int .i64 u.count.kind, .int .i64 u.count.n, .str u.count.name, .str u.count.label, .sl (u.count.ref.names.map strD), .sl (u.count.ref.index.map astD), .sl (u.count.ref.has.map boD), .sl (u.count.kids.map astD), .sl (u.count.args.map argD),
  .int .i64 u.decl.type, .str u.decl.named, .sl (u.decl.vars.map dvarD), .int .i64 u.decl.pos, .sl (u.decls.map declD), .sl (u.body.map stmtD)]
abbrev refV (r : Ref) : V := .agg [.d (.sl (r.names.map strD)), .d (.sl (r.index.map astD)), .d (.sl (r.has.map boD))]
abbrev astV (e : Ast) : V := .agg [.d (.int .i64 e.kind), .d (.int .i64 e.n), .d (.str e.name), .d (.str e.label), .d (.sl (e.ref.names.map strD)), .d (.sl (e.ref.index.map astD)), .d (.sl (e.ref.has.map boD)), .d (.sl (e.kids.map astD)), .d (.sl (e.args.map argD))]
abbrev argV (a : Arg) : V := .agg [.d (.bo a.mtch), .d (.bo a.any), .d (.int .i64 a.e.kind), .d (.int .i64 a.e.n), .d (.str a.e.name), .d (.str a.e.label), .d (.sl (a.e.ref.names.map strD)), .d (.sl (a.e.ref.index.map astD)), .d (.sl (a.e.ref.has.map boD)), .d (.sl (a.e.kids.map astD)), .d (.sl (a.e.args.map argD))]
abbrev dvarV (v : DVar) : V := .agg [.d (.str v.name), .d (.bo v.array), .d (.int .i64 v.size.kind), .d (.int .i64 v.size.n), .d (.str v.size.name), .d (.str v.size.label), .d (.sl (v.size.ref.names.map strD)), .d (.sl (v.size.ref.index.map astD)), .d (.sl (v.size.ref.has.map boD)), .d (.sl (v.size.kids.map astD)), .d (.sl (v.size.args.map argD)),
  .d (.bo v.init), .d (.int .i64 v.e.kind), .d (.int .i64 v.e.n), .d (.str v.e.name), .d (.str v.e.label), .d (.sl (v.e.ref.names.map strD)), .d (.sl (v.e.ref.index.map astD)), .d (.sl (v.e.ref.has.map boD)), .d (.sl (v.e.kids.map astD)), .d (.sl (v.e.args.map argD)), .d (.bo v.chan), .d (.sl (v.fields.map intD))]
abbrev declV (d : Decl) : V := .agg [.d (.int .i64 d.type), .d (.str d.named), .d (.sl (d.vars.map dvarD)), .d (.int .i64 d.pos)]
abbrev stmtV (s : Stmt) : V := .agg [.d (.int .i64 s.kind), .d (.int .i64 s.pos), .d (.str s.name), .d (.str s.text), .d (.int .i64 s.n), .d (.bo s.sorted), .d (.bo s.random), .d (.bo s.keep), .d (.sl (s.ref.names.map strD)), .d (.sl (s.ref.index.map astD)), .d (.sl (s.ref.has.map boD)),
    .d (.int .i64 s.e.kind), .d (.int .i64 s.e.n), .d (.str s.e.name), .d (.str s.e.label), .d (.sl (s.e.ref.names.map strD)), .d (.sl (s.e.ref.index.map astD)), .d (.sl (s.e.ref.has.map boD)), .d (.sl (s.e.kids.map astD)), .d (.sl (s.e.args.map argD)), .d (.sl (s.es.map astD)), .d (.sl (s.args.map argD)),
    .d (.int .i64 s.decl.type), .d (.str s.decl.named), .d (.sl (s.decl.vars.map dvarD)), .d (.int .i64 s.decl.pos), .d (.sl (s.options.map optD)), .d (.sl (s.body.map stmtD))]
abbrev uniV (u : Uni) : V := .agg [.d (.int .i64 u.kind), .d (.int .i64 u.pos), .d (.str u.name), .d (.str u.text), .d (.sl (u.names.map strD)), .d (.bo u.active),
  .d (.int .i64 u.count.kind), .d (.int .i64 u.count.n), .d (.str u.count.name), .d (.str u.count.label), .d (.sl (u.count.ref.names.map strD)), .d (.sl (u.count.ref.index.map astD)), .d (.sl (u.count.ref.has.map boD)), .d (.sl (u.count.kids.map astD)), .d (.sl (u.count.args.map argD)),
  .d (.int .i64 u.decl.type), .d (.str u.decl.named), .d (.sl (u.decl.vars.map dvarD)), .d (.int .i64 u.decl.pos), .d (.sl (u.decls.map declD)), .d (.sl (u.body.map stmtD))]
abbrev slV {α : Type} (f : α → List D) (l : List α) : V := .c (.d (.sl (l.map f)))
theorem strD_len (s : Bytes) : (strD s).length = 1 := rfl
theorem boD_len (s : Bool) : (boD s).length = 1 := rfl
theorem intD_len (s : Int) : (intD s).length = 1 := rfl
theorem astD_len (e : Ast) : (astD e).length = 9 := by rw [astD_eta]; rfl
theorem argD_len (e : Arg) : (argD e).length = 11 := by rw [argD_eta]; rfl
theorem dvarD_len (v : DVar) : (dvarD v).length = 23 := rfl
theorem declD_len (v : Decl) : (declD v).length = 4 := rfl
theorem stmtD_len (s : Stmt) : (stmtD s).length = 28 := by rw [stmtD_eta]; rfl
theorem optD_len (s : List Stmt) : (optD s).length = 1 := rfl
theorem uniD_len (s : Uni) : (uniD s).length = 21 := rfl
theorem chunks_str (l : List Bytes) : chunks 1 l.length (l.flatMap strD) = l.map strD := chunks_flat strD_len l
theorem chunks_bo (l : List Bool) : chunks 1 l.length (l.flatMap boD) = l.map boD := chunks_flat boD_len l
theorem chunks_int (l : List Int) : chunks 1 l.length (l.flatMap intD) = l.map intD := chunks_flat intD_len l
theorem chunks_ast (l : List Ast) : chunks 9 l.length (l.flatMap astD) = l.map astD := chunks_flat astD_len l
theorem chunks_arg (l : List Arg) : chunks 11 l.length (l.flatMap argD) = l.map argD := chunks_flat argD_len l
theorem chunks_dvar (l : List DVar) : chunks 23 l.length (l.flatMap dvarD) = l.map dvarD := chunks_flat dvarD_len l
theorem chunks_decl (l : List Decl) : chunks 4 l.length (l.flatMap declD) = l.map declD := chunks_flat declD_len l
theorem chunks_stmt (l : List Stmt) : chunks 28 l.length (l.flatMap stmtD) = l.map stmtD := chunks_flat stmtD_len l
theorem chunks_opt (l : List (List Stmt)) : chunks 1 l.length (l.flatMap optD) = l.map optD := chunks_flat optD_len l
theorem chunks_uni (l : List Uni) : chunks 21 l.length (l.flatMap uniD) = l.map uniD := chunks_flat uniD_len l
theorem more_str (l : List Bytes) {ds : List D} (h : ds.length = 1) : chunks 1 (l.length + 1) (l.flatMap strD ++ ds) = l.map strD ++ [ds] := chunks_more strD_len h l
theorem more_bo (l : List Bool) {ds : List D} (h : ds.length = 1) : chunks 1 (l.length + 1) (l.flatMap boD ++ ds) = l.map boD ++ [ds] := chunks_more boD_len h l
theorem more_int (l : List Int) {ds : List D} (h : ds.length = 1) : chunks 1 (l.length + 1) (l.flatMap intD ++ ds) = l.map intD ++ [ds] := chunks_more intD_len h l
theorem more_ast (l : List Ast) {ds : List D} (h : ds.length = 9) : chunks 9 (l.length + 1) (l.flatMap astD ++ ds) = l.map astD ++ [ds] := chunks_more astD_len h l
theorem more_arg (l : List Arg) {ds : List D} (h : ds.length = 11) : chunks 11 (l.length + 1) (l.flatMap argD ++ ds) = l.map argD ++ [ds] := chunks_more argD_len h l
theorem more_dvar (l : List DVar) {ds : List D} (h : ds.length = 23) : chunks 23 (l.length + 1) (l.flatMap dvarD ++ ds) = l.map dvarD ++ [ds] := chunks_more dvarD_len h l
theorem more_decl (l : List Decl) {ds : List D} (h : ds.length = 4) : chunks 4 (l.length + 1) (l.flatMap declD ++ ds) = l.map declD ++ [ds] := chunks_more declD_len h l
theorem more_stmt (l : List Stmt) {ds : List D} (h : ds.length = 28) : chunks 28 (l.length + 1) (l.flatMap stmtD ++ ds) = l.map stmtD ++ [ds] := chunks_more stmtD_len h l
theorem more_opt (l : List (List Stmt)) {ds : List D} (h : ds.length = 1) : chunks 1 (l.length + 1) (l.flatMap optD ++ ds) = l.map optD ++ [ds] := chunks_more optD_len h l
theorem more_uni (l : List Uni) {ds : List D} (h : ds.length = 21) : chunks 21 (l.length + 1) (l.flatMap uniD ++ ds) = l.map uniD ++ [ds] := chunks_more uniD_len h l
theorem all_str (l : List Bytes) : ((l.map strD).all fun y => y.length == 1) = true := all_len strD_len
theorem all_bo (l : List Bool) : ((l.map boD).all fun y => y.length == 1) = true := all_len boD_len
theorem all_ast (l : List Ast) : ((l.map astD).all fun y => y.length == 9) = true := all_len astD_len
theorem all_arg (l : List Arg) : ((l.map argD).all fun y => y.length == 11) = true := all_len argD_len
theorem all_dvar (l : List DVar) : ((l.map dvarD).all fun y => y.length == 23) = true := all_len dvarD_len
theorem rowC_one {α : Type} {f : α → List D} {x : α} : rowC f [x] = (f x).map .d := by simp [rowC]
theorem map_flat {α : Type} {f : α → List D} {l : List α} : (l.flatMap f).map C.d = rowC f l := rfl
theorem chunks_1 {sz n : Nat} {ds : List D} : chunks sz (1 + n) ds = ds.take sz :: chunks sz n (ds.drop sz) := by rw [Nat.add_comm]; rfl
attribute [go_sem] map_flat chunks_1 rowC_cons rowC_nil refV astV argV dvarV declV stmtV uniV slV more_str more_bo more_int more_ast more_arg more_dvar more_decl more_stmt more_opt more_uni astD_eta argD_eta dvarD declD stmtD_eta uniD strD boD intD optD chunks_str chunks_bo chunks_int chunks_ast chunks_arg chunks_dvar chunks_decl chunks_stmt chunks_opt chunks_uni all_str all_bo all_ast all_arg all_dvar rowC_snoc ref0 ast0 arg0 dvar0 decl0 stmt0 uni0
end Go.Proofs.YtmkacifjegnehaaDoor
