/-
  AN INTERPRETER over the abstract state (its definition; that it tells the truth is shown in the next text). No program is named.
-/
import Derived.Test.YtmkacifjegnehaaDoorAb15
namespace Go.Proofs.YtmkacifjegnehaaDoor.Ab
open Go

/-! ### What an object mentions -/
def C.refs : C → List Nat
  | .row r => [r]
  | .ptr r _ => [r]
  | .mp r => [r]
  | .fn _ caps => caps
  | _ => []
def refsCs : List C → List Nat
  | [] => []
  | c :: l => c.refs ++ refsCs l
def V.refs : V → List Nat
  | .c x => x.refs
  | .agg cs => refsCs cs
  | _ => []
def refsVs : List V → List Nat
  | [] => []
  | v :: l => v.refs ++ refsVs l
def O.refs : O → List Nat
  | .box cs => refsCs cs
  | .row _ _ _ es => refsCs es
  | _ => []
def inL (r : Nat) : List Nat → Bool
  | [] => false
  | x :: l => if x = r then true else inL r l
/-- All that is reached: each once, in the order of its first being met. -/
def reach (H : List O) : Nat → List Nat → List Nat → List Nat
  | 0, _, acc => acc
  | _ + 1, [], acc => acc
  | n + 1, r :: todo, acc => match inL r acc with
    | true => reach H n todo acc
    | false => match H[r]? with
      | none => reach H n todo (acc ++ [r])
      | some o => reach H n (todo ++ o.refs) (acc ++ [r])

/-! ### Rows and maps sealed -/
def C.sealR (r : Nat) (d : D) : C → C
  | .row r' => if r' = r then .d d else .row r'
  | .mp r' => if r' = r then .d d else .mp r'
  | c => c
def V.sealR (r : Nat) (d : D) : V → V
  | .c x => .c (x.sealR r d)
  | .agg cs => .agg (cs.map (C.sealR r d))
  | v => v
def O.sealR (r : Nat) (d : D) : O → O
  | .box cs => .box (cs.map (C.sealR r d))
  | .row t sz n es => .row t sz n (es.map (C.sealR r d))
  | o => o
def sealE (r : Nat) (d : D) : List (Nat × V) → List (Nat × V)
  | [] => []
  | p :: l => (p.1, p.2.sealR r d) :: sealE r d l
def chunks (sz : Nat) : Nat → List D → List (List D)
  | 0, _ => []
  | n + 1, ds => ds.take sz :: chunks sz n (ds.drop sz)
def sealD : O → Option D
  | .row _ sz n es => match toDs es with
    | some ds => some (.sl (chunks sz n ds))
    | none => none
  | .mp es => some (.fm es)
  | _ => none
def sealAll (n0 : Nat) : List Nat → List (Nat × V) → List O → List (Nat × V) × List O
  | [], e, H => (e, H)
  | r :: l, e, H => if r < n0 then sealAll n0 l e H else (match H[r]? with
    | some o => match sealD o with
      | some d => sealAll n0 l (sealE r d e) ((H.set r .dead).map (O.sealR r d))
      | none => sealAll n0 l e H
    | none => sealAll n0 l e H)

/-! ### One operation, calls and all -/
inductive Out where
  | go (rs : List Nat) (e : List (Nat × V)) (H : List O)
  | pan (t : Nat) (cs : List D) (e : List (Nat × V)) (H : List O)
abbrev CallF := Nat → List V → List O → Option (Res × List O)
inductive Seg where
  | take (is : List Nat)
  | pur (is : List Nat)
  | next (i : Nat)
  | inn (i : Nat)
  | fork (keys : List Nat) (n : Nat) (orders : List (List Nat))
abbrev Plans := Nat → Option (List Nat × List Nat × List Seg)
/- What is fixed for the interpreter: the types, the functions, the temporaries that literal rows stand in, the functions whose arguments or results are not sealed, the temporaries that more than one region speaks of. -/
/-- What is spoken of behind a region; which nil slices there are to grow (temporary, cell, element type, its size). -/
abbrev Lv := List Nat × List (Nat × Nat × Nat × Nat)
structure Ip where
  T : Nat → Option TI
  fns : Nat → Option Func
  rw : Nat → List Nat
  keepA : Nat → Bool
  keepR : Nat → Bool
  long : Nat → Nat → Lv
  plan : Nat → Plans
  prim : CallF
def wantedX (ops : List Oper) (e : List (Nat × V)) (o : Oper) : Option Bool :=
  match o.guard with
  | none => some true
  | some g => match ops[g.1]? with
    | none => none
    | some og => match og.dst with
      | none => none
      | some t => match Env.get e t with
        | .c (.d (.bo b)) => some (b == g.2)
        | .tup [] => some false
        | _ => none
def rowRefs (v : V) : List Nat := match v with
  | .c (.row r) => [r]
  | .c (.mp r) => [r]
  | .agg cs => cs.flatMap fun c => match c with
    | .row r => [r]
    | .mp r => [r]
    | _ => []
  | _ => []
def callO (call : CallF) (F : Fp) (keepA : Nat → Bool) (e : List (Nat × V)) (H : List O) (o : Oper) (args : List Operand) (g : Nat) (caps : List Nat) : Option Out :=
  match (match keepA g with
    | true => (e, H)
    | false => sealAll F.n0 (args.flatMap fun x => rowRefs (evO e x)) e H) with
  | (e, H) =>
    let vs := args.map (evO e) ++ ptrs caps
    let sub := reach H 64 (refsVs vs) []
    match subO sub H sub with
    | none => none
    | some Hc => match call g (vs.map (V.into sub)) Hc with
      | none => none
      | some (.ret rs, H') => some (.go sub (Env.put F e o.dst ((retV rs).out (subs' ⟨e, H⟩ sub H'))) (after ⟨e, H⟩ sub H'))
      | some (.panic t cs, H') => some (.pan t cs e (after ⟨e, H⟩ sub H'))
def opX (call : CallF) (F : Fp) (keepA : Nat → Bool) (e : List (Nat × V)) (H : List O) (o : Oper) : Option Out :=
  match o.op with
  | .call c => match c.callee with
    | .value f => match evO e f with
      | .c (.fn g caps) => callO call F keepA e H o c.args.toList g caps
      | _ => none
    | .builtin .append => match evAppend F e H o with
      | some (rs, e', H') => some (.go rs e' H')
      | none => none
    | _ => match evV F e H o with
      | some x => some (.go (touched e o) (Env.put F e o.dst x.1) x.2)
      | none => none
  | .panic x => match evO e x with
    | .c (.ifc t cs) => some (.pan t cs e H)
    | _ => none
  | .slice _ x _ _ _ => match sealAll F.n0 (rowRefs (evO e x)) e H with
    | (e, H) => match evV F e H o with
      | some x => some (.go (touched e o) (Env.put F e o.dst x.1) x.2)
      | none => none
  | _ => match evV F e H o with
    | some x => some (.go (touched e o) (Env.put F e o.dst x.1) x.2)
    | none => none
/-! ### What is worked out before it is handed on (each is the identity: they are for the one who reckons) -/
def fNat {α : Type} (n : Nat) (k : Nat → α) : α := match n with
  | 0 => k 0
  | n + 1 => k (Nat.succ n)
def fInt {α : Type} (n : Int) (k : Int → α) : α := match n with
  | .ofNat n => fNat n fun n => k (.ofNat n)
  | .negSucc n => fNat n fun n => k (.negSucc n)
def fL {α β : Type} : List β → (List β → α) → α
  | [], k => k []
  | x :: l, k => fL l fun l => k (x :: l)
def fD {α : Type} (d : D) (k : D → α) : α := match d with
  | .int i n => fInt n fun n => k (.int i n)
  | .bo true => k (.bo true)
  | .bo false => k (.bo false)
  | .str l => fL l fun l => k (.str l)
  | .sl xs => k (.sl xs)
  | .fm es => k (.fm es)
def fC {α : Type} (c : C) (k : C → α) : α := match c with
  | .d (.int i n) => fInt n fun n => k (.d (.int i n))
  | .d d => k (.d d)
  | .row r => fNat r fun r => k (.row r)
  | .ptr r o => fNat r fun r => fNat o fun o => k (.ptr r o)
  | .mp r => fNat r fun r => k (.mp r)
  | c => k c
def fCs {α : Type} : List C → (List C → α) → α
  | [], k => k []
  | c :: l, k => fC c fun c => fCs l fun l => k (c :: l)
def fV {α : Type} (v : V) (k : V → α) : α := match v with
  | .c (.d d) => fD d fun d => k (.c (.d d))
  | .c c => fC c fun c => k (.c c)
  | .agg cs => fCs cs fun cs => k (.agg cs)
  | v => k v
def fO {α : Type} (o : O) (k : O → α) : α := match o with
  | .box cs => fCs cs fun cs => k (.box cs)
  | .row t sz n es => fNat n fun n => fCs es fun es => k (.row t sz n es)
  | o => k o
def fOs {α : Type} : List O → (List O → α) → α
  | [], k => k []
  | o :: l, k => fO o fun o => fOs l fun l => k (o :: l)
def fE {α : Type} (e : List (Nat × V)) (k : List (Nat × V) → α) : α := match e with
  | [] => k []
  | (d, v) :: l => fV v fun v => k ((d, v) :: l)
def writesH (o : Op) : Bool := match o with
  | .alloc _ => true
  | .box _ _ => true
  | .store _ _ _ => true
  | .buildSlice _ _ _ => true
  | .makeMap _ _ => true
  | .mapUpdate _ _ _ _ => true
  | .call _ => true
  | .slice _ _ _ _ _ => true
  | _ => false
/-- One operation, if it is wanted. -/
def stepX (call : CallF) (F : Fp) (keepA : Nat → Bool) (ops : List Oper) (e : List (Nat × V)) (H : List O) (o : Oper) : Option Out :=
  match wantedX ops e o with
  | none => none
  | some false => some (.go [] (Env.put F e o.dst (.tup [])) H)
  | some true => opX call F keepA e H o
def runX (call : CallF) (F : Fp) (keepA : Nat → Bool) (ops : List Oper) : List Oper → List (Nat × V) → List O → Option Out
  | [], e, H => some (.go [] e H)
  | o :: l, e, H => match stepX call F keepA ops e H o with
    | some (.go _ e' H') => fE e' fun e' => match writesH o.op with
      | true => fOs H' fun H' => runX call F keepA ops l e' H'
      | false => runX call F keepA ops l e' H'
    | r => r

/-! ### A region that draws its order, along a plan -/
def segPlan : List Seg → List (Bool × Nat)
  | [] => []
  | .take is :: l => is.map (true, ·) ++ segPlan l
  | .pur is :: l => is.map (true, ·) ++ segPlan l
  | .next i :: l => (false, i) :: segPlan l
  | .inn i :: l => (false, i) :: segPlan l
  | .fork _ n _ :: l => List.replicate n (false, 1000000) ++ segPlan l
def opsOf (ops : List Oper) : List Nat → Option (List Oper)
  | [] => some []
  | i :: l => match ops[i]? with
    | none => none
    | some o => match opsOf ops l with
      | none => none
      | some os => some (o :: os)
def guardsOf (ops : List Oper) : List Oper → List (Nat × Nat)
  | [] => []
  | o :: l => match o.guard with
    | none => guardsOf ops l
    | some g => match ops[g.1]? with
      | none => guardsOf ops l
      | some og => match og.dst with
        | none => guardsOf ops l
        | some t => (g.1, t) :: guardsOf ops l
/-- The objects that these operations look at. -/
def looksAt (F : Fp) (gs : List (Nat × Nat)) : List Oper → List (Nat × V) → List O → List Nat
  | [], _, _ => []
  | o :: l, e, H => match evStep F gs e H o with
    | none => []
    | some x => (match calm F e o with
      | some rs => rs
      | none => []) ++ looksAt F gs l x.1 x.2
def allLive (H : List O) : List Nat → Bool
  | [] => true
  | r :: l => match H[r]? with
    | some o => o.live && allLive H l
    | none => false
/- One order of those that are ready at once; the state tidied behind it. -/
/-- What outlives a region. -/
def mergeE (e : List (Nat × V)) : List Nat → List (Nat × V)
  | [] => []
  | t :: L => (t, Env.get e t) :: mergeE e L
/-- What is not reached is let go; the others under new numbers. -/
def refsE : List (Nat × V) → List Nat
  | [] => []
  | p :: l => p.2.refs ++ refsE l
def intoE (sub : List Nat) : List (Nat × V) → List (Nat × V)
  | [] => []
  | p :: l => (p.1, p.2.into sub) :: intoE sub l
def gcSub (n0 : Nat) (e : List (Nat × V)) (H : List O) : List Nat := List.range' 0 n0 ++ (reach H 64 (refsE e) []).filter (fun r => Nat.ble n0 r)
def tidy (n0 : Nat) (e : List (Nat × V)) (H : List O) : List (Nat × V) × List O :=
  match subO (gcSub n0 e H) H (gcSub n0 e H) with
  | some Hc => (intoE (gcSub n0 e H) e, Hc)
  | none => (e, H)
def runF (call : CallF) (F : Fp) (keepA : Nat → Bool) (ops : List Oper) (bl : List Nat) (Xs keys : List Nat) : List Nat → List (Nat × V) → List O → Option (List (Nat × V) × List O)
  | [], e, H => some (tidy F.n0 (mergeE e keys) H)
  | i :: l, e, H => match ops[i]? with
    | none => none
    | some o => match bl.contains i with
      | true => none
      | false => match stepX call F keepA ops e H o with
        | some (.go rs e' H') => match allLive H Xs && allLive H rs && Xs.all (fun r => !rs.contains r) with
          | true => runF call F keepA ops bl Xs keys l e' H'
          | false => none
        | _ => none
open Classical in
noncomputable def runFork (call : CallF) (F : Fp) (keepA : Nat → Bool) (ops : List Oper) (bl : List Nat) (Xs keys : List Nat) (e : List (Nat × V)) (H : List O) : List (List Nat) → Option (List (Nat × V) × List O)
  | [] => none
  | [o] => runF call F keepA ops bl Xs keys o e H
  | o :: l => match runF call F keepA ops bl Xs keys o e H with
    | none => none
    | some x => if runFork call F keepA ops bl Xs keys e H l = some x then some x else none
noncomputable def runD (call : CallF) (F : Fp) (keepA : Nat → Bool) (ops : List Oper) (bl : List Nat) : Option (List Nat) → List Seg → List (Nat × V) → List O → Option Out
  | _, [], e, H => some (.go [] e H)
  | m, seg :: l, e, H => match seg with
    | .take is => match m with
      | some _ => none
      | none => match opsOf ops is with
        | none => none
        | some os => match allLive H (looksAt F (guardsOf ops ops) os e H) with
          | false => none
          | true => match evPlan F (guardsOf ops ops) (looksAt F (guardsOf ops ops) os e H) os e H with
            | none => none
            | some (e', H') => runD call F keepA ops bl (some (looksAt F (guardsOf ops ops) os e H)) l e' H'
    | .pur is => match opsOf ops is with
      | none => none
      | some os => match os.all pureOp with
        | false => none
        | true => match evPlan F (guardsOf ops ops) [] os e H with
          | none => none
          | some (e', H') => runD call F keepA ops bl (some (m.getD [])) l e' H'
    | .next i => match ops[i]? with
      | none => none
      | some o => match bl.contains i with
        | false => none
        | true => match stepX call F keepA ops e H o with
          | some (.go _ e' H') => runD call F keepA ops bl none l e' H'
          | r => r
    | .inn i => match ops[i]? with
      | none => none
      | some o => match bl.contains i with
        | true => none
        | false => match stepX call F keepA ops e H o with
          | some (.go rs e' H') => match allLive H (m.getD []) && allLive H rs && (m.getD []).all (fun r => !rs.contains r) with
            | true => runD call F keepA ops bl (some (m.getD [])) l e' H'
            | false => none
          | r => r
    | .fork keys n orders => match runFork call F keepA ops bl (m.getD []) keys e H orders with
      | some (e', H') => some (.go [] e' H')
      | none => none
/-- The orders told cover what may come. -/
def forksOk (ops : Array Oper) : List Nat → List Seg → Bool
  | _, [] => true
  | done, .take is :: l => forksOk ops (is.reverse ++ done) l
  | done, .pur is :: l => forksOk ops (is.reverse ++ done) l
  | done, .next i :: l => forksOk ops (i :: done) l
  | done, .inn i :: l => forksOk ops (i :: done) l
  | done, .fork _ n orders :: l => l.isEmpty && forkOk ops n done orders && Nat.ble ops.size 1000000
def planFits (ops : Array Oper) : List Nat × List Nat × List Seg → Bool
  | (bl, nm, segs) => planOk ops (bl.contains ·) (fun j => !nm.contains j) [] (segPlan segs) && (segPlan segs).length == ops.size && Region.noSelect ops && forksOk ops [] segs
def codeOk (pl : Plans) : Code → Bool
  | .seq c d => codeOk pl c && codeOk pl d
  | .region id ops true => match pl id with
    | none => true
    | some p => planFits ops p
  | .cond _ c d => codeOk pl c && codeOk pl d
  | .block _ c => codeOk pl c
  | .loop c => codeOk pl c
  | _ => true

/-- A nil slice that will grow is an empty row from here on. -/
def setE (t : Nat) (v : V) : List (Nat × V) → List (Nat × V)
  | [] => []
  | p :: l => (if p.1 = t then (p.1, v) else p) :: setE t v l
def C.norm : C → C
  | .nilS => .d (.sl [])
  | c => c
def boxRows (H : List O) (e : List (Nat × V)) (t : Nat) : List Nat := match Env.get e t with
  | .c (.ptr r _) => match H[r]? with
    | some (.box cs) => rowRefs (.agg cs)
    | _ => []
  | _ => []
def rowE (n0 : Nat) (e : List (Nat × V)) (H : List O) : List (Nat × Nat × Nat × Nat) → List (Nat × V) × List O
  | [] => (e, H)
  | (t, off, te, 0) :: l => match te with
    | 1 => rowE n0 (tidy n0 e H).1 (tidy n0 e H).2 l
    | 2 => rowE n0 (sealAll n0 (boxRows H e t) e H).1 (sealAll n0 (boxRows H e t) e H).2 l
    | _ => match Env.get e t with
      | .c (.ptr r _) => match H[r]? with
        | some (.box cs) => rowE n0 e (H.set r (.box (cs.map C.norm))) l
        | _ => rowE n0 e H l
      | _ => rowE n0 e H l
  | (t, off, te, sz + 1) :: l => match Env.get e t with
    | .c .nilS => rowE n0 (setE t (.c (.row H.length)) e) (H ++ [.row te (sz + 1) 0 []]) l
    | .c (.ptr r o) => match H[r]? with
      | some (.box cs) => match cs[o + off]? with
        | some .nilS => rowE n0 e (H.set r (.box (cs.set (o + off) (.row H.length))) ++ [.row te (sz + 1) 0 []]) l
        | _ => rowE n0 e H l
      | _ => rowE n0 e H l
    | _ => rowE n0 e H l
def endE (n0 : Nat) (e : List (Nat × V)) (H : List O) (L : List Nat × List (Nat × Nat × Nat × Nat)) : List (Nat × V) × List O := rowE n0 (mergeE e L.1) H L.2
def endX (n0 : Nat) (L : Lv) : Option Out → Option (Ex × List (Nat × V) × List O)
  | some (.go _ e H) => some (.normal, (endE n0 e H L).1, (endE n0 e H L).2)
  | some (.pan t cs e H) => some (.panic t cs, e, H)
  | none => none
def keysE : List (Nat × V) → List Nat
  | [] => []
  | p :: l => p.1 :: keysE l
noncomputable def execX (call : CallF) (F : Fp) (keepA : Nat → Bool) (L : Nat → Lv) (pl : Plans) : Nat → Code → List (Nat × V) → List O → Option (Ex × List (Nat × V) × List O)
  | 0, _, _, _ => none
  | n + 1, c, e, H => match c with
    | .skip => some (.normal, e, H)
    | .seq c d => match execX call F keepA L pl n c e H with
      | some (.normal, e', H') => execX call F keepA L pl n d e' H'
      | r => r
    | .region id ops false => endX F.n0 (L id) (runX call F keepA ops.toList ops.toList e H)
    | .region id ops true => match pl id with
      | none => none
      | some (bl, _, segs) => endX F.n0 (L id) (runD call F keepA ops.toList bl none segs e H)
    | .cond (.tmp t) x y => match Env.get e t with
      | .c (.d (.bo true)) => execX call F keepA L pl n x e H
      | .c (.d (.bo false)) => execX call F keepA L pl n y e H
      | _ => none
    | .block id c => match execX call F keepA L pl n c e H with
      | some (.exit i, e', H') => if i = id then some (.normal, e', H') else some (.exit i, e', H')
      | r => r
    | .loop c => match execX call F keepA L pl n c e H with
      | some (.normal, e', H') => execX call F keepA L pl n (.loop c) (tidy F.n0 (mergeE e' (keysE e)) H').1 (tidy F.n0 (mergeE e' (keysE e)) H').2
      | r => r
    | .exit id => some (.exit id, e, H)
    | .ret => some (.ret, e, H)
    | _ => none
/-- The results as they stand. -/
def resRaw (T : Nat → Option TI) (e : List (Nat × V)) (H : List O) : List ResultVar → Option (List V)
  | [] => some []
  | .tmp t :: l => match resRaw T e H l with
    | none => none
    | some vs => some (Env.get e t :: vs)
  | .cell p t :: l => match evLoad T H t (Env.get e p) with
    | none => none
    | some v => match resRaw T e H l with
      | none => none
      | some vs => some (v :: vs)
def finX (I : Ip) (g : Nat) (fn : Func) (n0 : Nat) : Option (Ex × List (Nat × V) × List O) → Option (Res × List O)
  | none => none
  | some (.exit _, _, _) => none
  | some (.panic t cs, _, H') => some (.panic t cs, (H'.take n0).map (O.cut n0))
  | some (_, e', H') => match resRaw I.T e' H' fn.results.toList with
    | none => none
    | some vs => match I.keepR g with
      | true =>
        let sub := List.range' 0 n0 ++ (reach H' 64 (refsVs vs) []).filter (fun r => Nat.ble n0 r)
        match subO sub H' sub with
        | none => none
        | some Hc => some (.ret (vs.map (V.into sub)), Hc)
      | false => match sealAll n0 (vs.flatMap rowRefs) e' H' with
        | (e', H') => match resOf I.T ⟨e', H'⟩ fn.results.toList with
          | some vs => some (.ret vs, (H'.take n0).map (O.cut n0))
          | none => none
noncomputable def bodyX (I : Ip) (call : CallF) (n : Nat) : CallF := fun g args H => match I.fns g with
  | none => none
  | some fn => match fn.body with
    | none => none
    | some c => match Nat.ble args.length fn.ntmps with
      | false => none
      | true => finX I g fn H.length (execX call ⟨I.T, I.rw g, fn.ntmps, H.length⟩ I.keepA (I.long g) (I.plan g) n c (args0 0 args) H)
noncomputable def callX (I : Ip) : Nat → CallF
  | 0, _, _, _ => none
  | N + 1, g, args, H => match I.prim g args H with
    | some r => some r
    | none => bodyX I (callX I N) N g args H
end Go.Proofs.YtmkacifjegnehaaDoor.Ab
