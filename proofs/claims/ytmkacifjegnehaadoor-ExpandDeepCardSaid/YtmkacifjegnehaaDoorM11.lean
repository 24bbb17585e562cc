import Derived.Test.YtmkacifjegnehaaDoorM10
namespace Go.Proofs.YtmkacifjegnehaaDoor
open Go Go.Proofs Go.Proofs.YtmkacifjegnehaaDoor.Ab
set_option linter.unusedSimpArgs false
set_option linter.unusedVariables false
set_option maxRecDepth 10000
set_option maxHeartbeats 8000000
def dvX (f : Sc → Ast → MS → Option (Xr Ast)) (s : Sc) (v : DVar) (done : List DVar) (m : MS) : Option (Xr (List DVar)) := bindX (f s v.size m) fun z m => bindX (f s v.e m) fun e m => some (.ok (done ++ [{ v with name := (lookP s.names v.name).getD v.name, size := z, e := e }]) m)
def declX (f : Sc → Ast → MS → Option (Xr Ast)) (s : Sc) (d : Decl) (m : MS) : Option (Xr Decl) := match d.vars with
  | [] => none
  | v :: vs => capO vs (bindX (lenO (v :: vs) (foldX (dvX f s) (v :: vs) [] m)) fun l m => cond (decide (0 < s.deep)) (some (.ok { d with vars := l, pos := m.pos } m)) (some (.ok { d with vars := l } m)))
def stX (f : Sc → Stmt → MS → Option (Xr Stmt)) (s : Sc) (t : Stmt) (out : List Stmt) (m : MS) : Option (Xr (List Stmt)) := bindX (f s t m) fun t m => (appP out [t]).bind fun out => some (.ok out m)
def opX' (g : Sc → List Stmt → MS → Option (Xr (List Stmt))) (s : Sc) (o : List Stmt) (out : List (List Stmt)) (m : MS) : Option (Xr (List (List Stmt))) := bindX (g s o m) fun o m => (appP out [o]).bind fun out => some (.ok out m)
def nameX (n : Nat) (s : Sc) (t : Stmt) (m : MS) : Option (Xr Stmt) :=
  cond (t.kind == 3) (bindX (refX n s t.ref m) fun r m => some (.ok { t with ref := r } m)) (cond (t.kind == 4) (bindX (refX n s t.ref m) fun r m => some (.ok { t with ref := r } m)) (cond (t.kind == 5) (bindX (refX n s t.ref m) fun r m => some (.ok { t with ref := r } m)) (cond (t.kind == 6) (bindX (refX n s t.ref m) fun r m => some (.ok { t with ref := r } m)) (
  cond (t.kind == 11) (some (.ok { t with name := (lookP s.marks t.name).getD t.name } m)) (cond (t.kind == 10) (some (.ok { t with name := (lookP s.marks t.name).getD t.name } m)) (some (.ok t m)))))))
def declW (n : Nat) (s : Sc) (t : Stmt) (m : MS) : Option (Xr Stmt) := cond (t.kind == 1) (bindX (declX (astX n) s t.decl m) fun d m => some (.ok { t with decl := d } m)) (cond (decide (0 < s.deep)) (some (.ok { t with decl := { t.decl with pos := 0 } } m)) (some (.ok t m)))
def bodyX (g : Sc → List Stmt → MS → Option (Xr (List Stmt))) (s : Sc) (t : Stmt) (m : MS) : Option (Xr Stmt) := bindX (g s t.body m) fun b m => bindX (lenO t.options (foldX (opX' g s) t.options [] m)) fun o m => some (.ok { t with body := b, options := o } m)
def stmtR (n : Nat) (g : Sc → List Stmt → MS → Option (Xr (List Stmt))) (s : Sc) (t : Stmt) (m : MS) : Option (Xr Stmt) := bindX (astX n s t.e m) fun e m => bindX (astsX (astX n) s t.es m) fun es m => bindX (argsX (astX n) s t.args m) fun a m => bindX (declW n s { t with e := e, es := es, args := a } m) fun t m => bodyX g s t m
def stmtQ' (n : Nat) (g : Sc → List Stmt → MS → Option (Xr (List Stmt))) (c : Sc → Stmt → MS → Option (Xr Stmt)) (s : Sc) (t : Stmt) (m : MS) : Option (Xr Stmt) := bindX (nameX n s t m) fun t m => stmtR n g s t m
def stmtK (n : Nat) (g : Sc → List Stmt → MS → Option (Xr (List Stmt))) (c : Sc → Stmt → MS → Option (Xr Stmt)) (s : Sc) (t : Stmt) (m : MS) : Option (Xr Stmt) := cond (t.kind == 18) (bindX (c s t m) fun t m => some (.ok t m)) (stmtQ' n g c s t m)
def stmtF (n : Nat) (g : Sc → List Stmt → MS → Option (Xr (List Stmt))) (c : Sc → Stmt → MS → Option (Xr Stmt)) (s : Sc) (t : Stmt) (m : MS) : Option (Xr Stmt) := bindX (countX m) fun _ m => cond (s.deep == 0) (stmtK n g c s t { m with pos := t.pos }) (stmtK n g c s { t with pos := m.pos } m)
/-! what statements declare: names and labels, in order -/
def putM {α : Type} (l : List (Bytes × α)) (k : Bytes) (x : α) : List (Bytes × α) := match l with
  | [] => [(k, x)]
  | e :: l => if e.1 = k then (k, x) :: l else e :: putM l k x
theorem updS (l : List (Bytes × Bytes)) (k v : Bytes) : updE (l.map entS) k (false, [.str v]) = (putM l k v).map entS := by
  induction l with
  | nil => rfl
  | cons x l ih =>
    simp only [List.map_cons, updE, putM, ih, entS]
    split <;> rfl
theorem updA (l : List (Bytes × Ast)) (k : Bytes) (e : Ast) : updE (l.map entA) k (true, [.int .i64 e.kind, .int .i64 e.n, .str e.name, .str e.label, .sl (e.ref.names.map strD), .sl (e.ref.index.map astD), .sl (e.ref.has.map boD), .sl (e.kids.map astD), .sl (e.args.map argD)]) = (putM l k e).map entA := by
  rw [← astD_eta]
  induction l with
  | nil => rfl
  | cons x l ih =>
    simp only [List.map_cons, updE, putM, ih, entA]
    split <;> rfl
def okU {σ : Type} (m : σ) : Option (Xr Unit σ) := some (.ok () m)
def dvB' {σ : Type} (tell : Bytes → Bool → σ → Option (Xr Unit σ)) (v : DVar) (_ : Unit) (m : σ) : Option (Xr Unit σ) := bindX (tell v.name false m) fun _ m => some (.ok () m)
def dOpt {σ : Type} (g : List Stmt → σ → Option (Xr Unit σ)) (o : List Stmt) (_ : Unit) (m : σ) : Option (Xr Unit σ) := bindX (g o m) fun _ m => some (.ok () m)
def dTail {σ : Type} (g : List Stmt → σ → Option (Xr Unit σ)) (t : Stmt) (m : σ) : Option (Xr Unit σ) := bindX (g t.body m) fun _ m => bindX (lenO t.options (foldX (dOpt g) t.options () m)) fun _ m => some (.ok () m)
def dStmt {σ : Type} (tell : Bytes → Bool → σ → Option (Xr Unit σ)) (g : List Stmt → σ → Option (Xr Unit σ)) (t : Stmt) (_ : Unit) (m : σ) : Option (Xr Unit σ) := cond (t.kind == 1) (bindX (lenO t.decl.vars (foldX (dvB' tell) t.decl.vars () m)) fun _ m => dTail g t m) (cond (t.kind == 11) (bindX (tell t.name true m) fun _ m => dTail g t m) (dTail g t m))
def dclX {σ : Type} (tell : Bytes → Bool → σ → Option (Xr Unit σ)) : Nat → List Stmt → σ → Option (Xr Unit σ)
  | 0, _, _ => none
  | n + 1, l, m => lenO l (foldX (dStmt tell (dclX tell n)) l () m)
def tellA (u : Uni) (w : Bytes) (b : Bool) (m : Unit) : Option (Xr Unit Unit) := cond b (some (.ok () m)) ((lenO u.names (some (idxB w u.names 0))).bind fun k => cond (decide (0 ≤ k)) (some (.pan 41 u.pos m)) (some (.ok () m)))
abbrev NM := List (Bytes × Bytes) × List (Bytes × Bytes)
def tellB (x : Bytes) (w : Bytes) (b : Bool) (m : NM) : Option (Xr Unit NM) := cond (decide (w.length + x.length ≤ 4611686018427387904)) (cond b (some (.ok () (m.1, putM m.2 w (w ++ x)))) (some (.ok () (putM m.1 w (w ++ x), m.2)))) none
abbrev xBoxes (x : Bytes) (a : List (Bytes × Ast)) (d : Int) (m : NM) : List O := [.box [.d (.str x)], .box [.mp 2, .mp 3, .mp 4, .d (.int .i64 d)], .mp (a.map entA), .mp (m.1.map entS), .mp (m.2.map entS)]
def outU {σ : Type} (h : σ → List O) (r : Xr Unit σ) : Res × List O := match r with
  | .ok _ m => (.ret [], h m)
  | .pan c z m => (.panic 26 [.int .i64 c, .int .i64 z], h m)

theorem W64 {l : List Bytes} {w : Bytes} {k0 : Int} (h : lenO l (some (idxB w l 0)) = some k0) : callW ip 56 [slV strD l, sI w] [] = some (.ret [iI k0], []) := by
 refine callW_runs (fn := Tryd.f56) (L := long56) (nt := 19) (n0 := 0) (T := tab) (rw' := []) (kA := keepA) Tryd.func56 rfl rfl rfl rfl rfl rfl rfl rfl rfl ?_
 refine Runs.seq ?_
 refine Runs.reg (by simp only [go_sem, seval]; rfl) (by simp only [long56, go_sem, seval]; rfl) ?_
 refine Runs.seq ?_
 refine Runs.seq ?_
 refine Runs.reg (by simp only [go_sem, seval]; rfl) (by simp only [long56, go_sem, seval]; rfl) ?_
 refine Runs.block ?_
 obtain ⟨hL1, h⟩ := lenO_some h
 refine Runs.loop_rel (m := (l).length) (fun mz_ en hp => ∃ (i : Nat), some (idxB w (List.drop i (l)) i) = some k0 ∧ mz_ + i = (l).length ∧ en = [(0, slV strD l), (1, sI w), (7, iI (l.length : Int)), (8, .c (.d (.int .i64 (i : Int))))] ∧ hp = []) ?_ ⟨0, h, rfl, (by first | rfl | (simp only [go_sem, seval]; done) | (simp only [go_sem, seval]; rfl)), (by first | rfl | (simp only [go_sem, seval]; done) | (simp only [go_sem, seval]; rfl))⟩
 clear h
 rintro m1 en hp ⟨i1, h, hm1, rfl, rfl⟩
 refine Runs.seq ?_
 refine Runs.reg (by simp only [go_sem, seval]; rfl) (by simp only [long56, go_sem, seval]; rfl) ?_
 refine Runs.seq ?_
 refine Runs.cond (t := 9) rfl (fun hc2 => ?_) (fun hc2 => ?_)
 ·
  try simp only [N3] at hc2
  try simp only [hc2, C5] at h
  have hi1 := of_decide_eq_true hc2
  obtain ⟨x1, xs1, hx1⟩ := drop_ex (l := l) (i := i1) (by omega)
  obtain ⟨ha1, hb1, hd1⟩ := drop_cons hx1
  rw [hx1] at h
  simp only [idxB] at h
  have g1 := trivial
  have hn1 := cast_nonneg i1
  have hw1 := wrap_succ (n := i1) (by omega)
  refine Runs.skip ?_
  refine Runs.seq ?_
  refine Runs.block ?_
  refine Runs.seq ?_
  refine Runs.reg (by simp only [go_sem, seval, ha1, hn1, hw1, hc2]; rfl) (by simp only [long56, go_sem, seval]; rfl) ?_
  refine Runs.seq ?_
  refine Runs.reg (by simp only [go_sem, seval, ha1, hn1, hw1, hc2]; rfl) (by simp only [long56, go_sem, seval]; rfl) ?_
  refine Runs.cond (t := 16) rfl (fun hc3 => ?_) (fun hc3 => ?_)
  ·
   try simp only [N3] at hc3
   try simp only [hc3, C5] at h
   refine Runs.seq ?_
   refine Runs.reg (by simp only [go_sem, seval, ha1, hn1, hw1, hc2, hc3]; rfl) (by simp only [long56, go_sem, seval]; rfl) ?_
   refine Runs.ret ?_
   cases h
   try cases h
   try dsimp only [outX]
   first
   | rfl
   | (exact fk (res := [.tmp 4]) rfl rfl rfl (by simp only [fin1, go_sem, seval, ha1, hn1, hw1, hc2, hc3]; try rfl))
  try simp only [N3] at hc3
  try simp only [hc3, C5] at h
  refine Runs.skip ?_
  refine Runs.reg (by simp only [go_sem, seval, ha1, hn1, hw1, hc2, hc3]; rfl) (by simp only [long56, go_sem, seval]; rfl) ?_
  clear g1
  have g1 := h
  rw [← hd1] at g1
  refine ⟨m1 - 1, by omega, _, _, by simp only [go_sem, seval, ha1, hn1, hw1]; try rfl, i1 + 1, g1, by omega, rfl, rfl⟩
 try simp only [N3] at hc2
 try simp only [hc2, C5] at h
 have hi1 := of_decide_eq_false hc2
 rw [List.drop_eq_nil_of_le (by omega)] at h
 simp only [idxB] at h
 refine Runs.exit ?_
 cases h
 refine Runs.seq ?_
 refine Runs.reg (by simp only [go_sem, seval, hc2]; rfl) (by simp only [long56, go_sem, seval]; rfl) ?_
 refine Runs.ret ?_
 try cases h
 try dsimp only [outX]
 first
 | rfl
 | (exact fk (res := [.tmp 4]) rfl rfl rfl (by simp only [fin1, go_sem, seval, hc2]; try rfl))
theorem W42 {l : List Bytes} {w : Bytes} {k0 : Int} (h : lenO l (some (idxB w l 0)) = some k0) : callW ip 37 [slV strD l, sI w] [] = some (.ret [bI (decide (0 ≤ k0))], []) := by
 have h : (lenO l (some (idxB w l 0))).bind (fun a => some a) = some k0 := by rw [h]; rfl
 refine callW_runs (fn := Tryd.f37) (L := long37) (nt := 9) (n0 := 0) (T := tab) (rw' := []) (kA := keepA) Tryd.func37 rfl rfl rfl rfl rfl rfl rfl rfl rfl ?_
 refine Runs.seq ?_
 refine Runs.reg (by simp only [go_sem, seval]; rfl) (by simp only [long37, go_sem, seval]; rfl) ?_
 refine Runs.seq ?_
 obtain ⟨k1, h1, h⟩ := some_bind h
 have w1 := W64 h1
 try dsimp only at h
 refine Runs.reg (by simp only [go_sem, seval, w1]; rfl) (by simp only [long37, go_sem, seval]; rfl) ?_
 refine Runs.ret ?_
 try cases h
 try dsimp only [outX]
 first
 | rfl
 | (exact fk (res := [.tmp 4]) rfl rfl rfl (by simp only [fin1, go_sem, seval]; try rfl))
theorem W44 {u : Uni} {w : Bytes} {b : Bool} {r : Xr Unit Unit} (h : tellA u w b () = some r) : callW ip 39 [sI w, bI b, .c (.ptr 0 0)] [uBox u] = some (outU (fun _ => [uBox u]) r) := by
 simp only [tellA] at h
 refine callW_runs (fn := Tryd.f39) (L := long39) (nt := 16) (n0 := 1) (T := tab) (rw' := []) (kA := keepA) Tryd.func39 rfl rfl rfl rfl rfl rfl rfl rfl rfl ?_
 refine Runs.seq ?_
 refine Runs.row ?_
 refine Row.run 3 (by simp only [go_sem, seval, outU]; rfl) ?_
 refine Row.guard (t := 7) (by simp only [go_sem, seval]; rfl) (fun hg1 => ?_) (fun hg1 => ?_)
 ·
  try simp only [N3] at hg1
  try simp only [hg1, C5] at h
  obtain ⟨k2, h2, h⟩ := some_bind h
  have w2 := W42 h2
  try dsimp only at h
  refine Row.run 5 (by simp only [go_sem, seval, outU, w2, hg1]; rfl) ?_
  refine Row.end_ (by simp only [long39, go_sem, seval]; rfl) ?_
  refine Runs.cond (t := 12) rfl (fun hc3 => ?_) (fun hc3 => ?_)
  ·
   try simp only [N3] at hc3
   try simp only [hc3, C5] at h
   cases h
   refine Runs.region_pan (by simp only [go_sem, seval, outU, W41, hg1, hc3]; rfl) ?_
   exact finK_pan (by simp only [go_sem, seval, outU, W41, hg1, hc3]; try rfl)
  try simp only [N3] at hc3
  try simp only [hc3, C5] at h
  refine Runs.skip ?_
  try cases h
  try dsimp only [outU]
  first
  | rfl
  | (exact fkn (res := []) rfl rfl rfl (by simp only [fin1, go_sem, seval, outU, hg1, hc3]; try rfl))
 ·
  try simp only [N3] at hg1
  try simp only [hg1, C5] at h
  refine Row.run 5 (by simp only [go_sem, seval, outU, hg1]; rfl) ?_
  refine Row.end_ (by simp only [long39, go_sem, seval]; rfl) ?_
  refine Runs.cond (t := 12) rfl (fun hc4 => ?_) (fun hc4 => ?_)
  · exact absurd hc4 (by first | decide | (simp only [hg1]; decide))
  try simp only [N3] at hc4
  try simp only [hc4, C5] at h
  refine Runs.skip ?_
  try cases h
  try dsimp only [outU]
  first
  | rfl
  | (exact fkn (res := []) rfl rfl rfl (by simp only [fin1, go_sem, seval, outU, hg1]; try rfl))
theorem W77 {x : Bytes} {a : List (Bytes × Ast)} {d : Int} {w : Bytes} {b : Bool} {m : NM} {r : Xr Unit NM} (h : tellB x w b m = some r) : callW ip 69 [sI w, bI b, .c (.ptr 0 0), .c (.ptr 1 0)] (xBoxes x a d m) = some (outU (xBoxes x a d) r) := by
 simp only [tellB] at h
 cases hq_ : decide (w.length + x.length ≤ 4611686018427387904) with
 | false => rw [hq_] at h; cases h
 | true =>
 have hle_ := of_decide_eq_true hq_
 simp only [hq_, cond_true] at h
 refine callW_runs (fn := Tryd.f69) (L := long69) (nt := 19) (n0 := 5) (T := tab) (rw' := []) (kA := keepA) Tryd.func69 rfl rfl rfl rfl rfl rfl rfl rfl rfl ?_
 refine Runs.seq ?_
 refine Runs.reg (by simp only [go_sem, seval, outU, updS, hle_, V.isAgg, xBoxes]; rfl) (by simp only [long69, go_sem, seval]; rfl) ?_
 refine Runs.cond (t := 6) rfl (fun hc1 => ?_) (fun hc1 => ?_)
 ·
  try simp only [N3] at hc1
  try simp only [hc1, C5] at h
  refine Runs.reg (by simp only [go_sem, seval, outU, updS, hle_, V.isAgg, xBoxes, hc1]; rfl) (by simp only [long69, go_sem, seval]; rfl) ?_
  try cases h
  try dsimp only [outU]
  first
  | rfl
  | (exact fkn (res := []) rfl rfl rfl (by simp only [fin1, go_sem, seval, outU, updS, hle_, V.isAgg, xBoxes, hc1]; try rfl))
 try simp only [N3] at hc1
 try simp only [hc1, C5] at h
 refine Runs.reg (by simp only [go_sem, seval, outU, updS, hle_, V.isAgg, xBoxes, hc1]; rfl) (by simp only [long69, go_sem, seval]; rfl) ?_
 try cases h
 try dsimp only [outU]
 first
 | rfl
 | (exact fkn (res := []) rfl rfl rfl (by simp only [fin1, go_sem, seval, outU, updS, hle_, V.isAgg, xBoxes, hc1]; try rfl))
theorem W43A {n : Nat} {u : Uni} (ih : ∀ {l : List Stmt} {m : Unit} {r : Xr Unit Unit}, dclX (tellA u) n l m = some r → callW ip 38 [slV stmtD l, .c (.fn 39 [0])] ([uBox u]) = some (outU (fun _ => [uBox u]) r)) {l : List Stmt} {m : Unit} {r : Xr Unit Unit} (h : dclX (tellA u) (n + 1) l m = some r) : callW ip 38 [slV stmtD l, .c (.fn 39 [0])] ([uBox u]) = some (outU (fun _ => [uBox u]) r) := by
 simp only [dclX] at h
 refine callW_runs (fn := Tryd.f38) (L := long38) (nt := 55) (n0 := 1) (T := tab) (rw' := []) (kA := keepA) Tryd.func38 rfl rfl rfl rfl rfl rfl rfl rfl rfl ?_
 refine Runs.seq ?_
 refine Runs.reg (by simp only [go_sem, seval, outU, xBoxes]; rfl) (by simp only [long38, go_sem, seval]; rfl) ?_
 refine Runs.block ?_
 obtain ⟨hL1, h⟩ := lenO_some h
 refine Runs.loop_rel (m := (l).length) (fun mz_ en hp => ∃ (i : Nat) (k : Unit) (M : Unit), foldX (dStmt (tellA u) (dclX (tellA u) n)) (List.drop i (l)) k M = some r ∧ mz_ + i = (l).length ∧ en = [(1, .c (.fn 39 [0])), (10, slV stmtD l), (11, iI (l.length : Int)), (12, .c (.d (.int .i64 (i : Int))))] ∧ hp = ([uBox u])) ?_ ⟨0, _, _, h, rfl, (by first | rfl | (simp only [go_sem, seval, outU, xBoxes]; done) | (simp only [go_sem, seval, outU, xBoxes]; rfl)), (by first | rfl | (simp only [go_sem, seval, outU, xBoxes]; done) | (simp only [go_sem, seval, outU, xBoxes]; rfl))⟩
 clear h
 rintro m1 en hp ⟨i1, k_, m_, h, hm1, rfl, rfl⟩
 refine Runs.seq ?_
 refine Runs.reg (by simp only [go_sem, seval, outU, xBoxes]; rfl) (by simp only [long38, go_sem, seval]; rfl) ?_
 refine Runs.seq ?_
 refine Runs.cond (t := 13) rfl (fun hc2 => ?_) (fun hc2 => ?_)
 ·
  try simp only [N3] at hc2
  try simp only [hc2, C5] at h
  have hi1 := of_decide_eq_true hc2
  obtain ⟨x1, xs1, hx1⟩ := drop_ex (l := l) (i := i1) (by omega)
  obtain ⟨ha1, hb1, hd1⟩ := drop_cons hx1
  rw [hx1] at h
  simp only [foldX, dStmt, dTail, dvB'] at h
  obtain ⟨r1, h, g1⟩ := bindX_some h
  have hn1 := cast_nonneg i1
  have hw1 := wrap_succ (n := i1) (by omega)
  refine Runs.skip ?_
  refine Runs.seq ?_
  refine Runs.block ?_
  refine Runs.seq ?_
  refine Runs.reg (by simp only [go_sem, seval, outU, xBoxes, ha1, hn1, hw1, hc2]; rfl) (by simp only [long38, go_sem, seval]; rfl) ?_
  refine Runs.seq ?_
  refine Runs.seq ?_
  refine Runs.reg (by simp only [go_sem, seval, outU, xBoxes, ha1, hn1, hw1, hc2]; rfl) (by simp only [long38, go_sem, seval]; rfl) ?_
  refine Runs.block ?_
  refine Runs.seq ?_
  refine Runs.reg (by simp only [go_sem, seval, outU, xBoxes, ha1, hn1, hw1, hc2]; rfl) (by simp only [long38, go_sem, seval]; rfl) ?_
  refine Runs.cond (t := 18) rfl (fun hc3 => ?_) (fun hc3 => ?_)
  ·
   try simp only [N3] at hc3
   try simp only [hc3, C5] at h
   refine Runs.seq ?_
   refine Runs.reg (by simp only [go_sem, seval, outU, xBoxes, ha1, hn1, hw1, hc2, hc3]; rfl) (by simp only [long38, go_sem, seval]; rfl) ?_
   refine Runs.block ?_
   obtain ⟨j4, h, hk4⟩ := bindX_some h
   obtain ⟨hL4, h⟩ := lenO_some h
   refine Runs.loop_rel (m := (x1.decl.vars).length) (fun mz_ en hp => ∃ (i : Nat) (k : Unit) (M : Unit), foldX (dvB' (tellA u)) (List.drop i (x1.decl.vars)) k M = some j4 ∧ mz_ + i = (x1.decl.vars).length ∧ en = [(1, .c (.fn 39 [0])), (5, _), (10, slV stmtD l), (11, iI (l.length : Int)), (12, _), (22, slV dvarD x1.decl.vars), (23, iI (x1.decl.vars.length : Int)), (24, .c (.d (.int .i64 (i : Int))))] ∧ hp = _) ?_ ⟨0, _, _, h, rfl, (by first | rfl | (simp only [go_sem, seval, outU, xBoxes, ha1, hn1, hw1]; done) | (simp only [go_sem, seval, outU, xBoxes, ha1, hn1, hw1]; rfl)), (by first | rfl | (simp only [go_sem, seval, outU, xBoxes, ha1, hn1, hw1]; done) | (simp only [go_sem, seval, outU, xBoxes, ha1, hn1, hw1]; rfl))⟩
   clear h
   rintro m4 en hp ⟨i4, k_, m_, h, hm4, rfl, rfl⟩
   refine Runs.seq ?_
   refine Runs.reg (by simp only [go_sem, seval, outU, xBoxes, ha1, hn1, hw1]; rfl) (by simp only [long38, go_sem, seval]; rfl) ?_
   refine Runs.seq ?_
   refine Runs.cond (t := 25) rfl (fun hc5 => ?_) (fun hc5 => ?_)
   ·
    try simp only [N3] at hc5
    try simp only [hc5, C5] at h
    have hi4 := of_decide_eq_true hc5
    obtain ⟨x4, xs4, hx4⟩ := drop_ex (l := x1.decl.vars) (i := i4) (by omega)
    obtain ⟨ha4, hb4, hd4⟩ := drop_cons hx4
    rw [hx4] at h
    simp only [foldX, dvB'] at h
    obtain ⟨r4, h, g4⟩ := bindX_some h
    have hn4 := cast_nonneg i4
    have hw4 := wrap_succ (n := i4) (by omega)
    refine Runs.skip ?_
    refine Runs.seq ?_
    refine Runs.block ?_
    refine Runs.seq ?_
    refine Runs.reg (by simp only [go_sem, seval, outU, xBoxes, ha1, hn1, hw1, ha4, hn4, hw4, hc5]; rfl) (by simp only [long38, go_sem, seval]; rfl) ?_
    obtain ⟨r6, h6, h⟩ := bindX_some h
    have w6 := W44 h6
    rcases r6 with ⟨u6, m6⟩ | ⟨c6, z6, m6⟩
    rotate_left
    ·
     try dsimp only [outX, outRow, outU] at w6
     subst h
     dsimp only at g4
     subst g4
     dsimp only at hk4
     subst hk4
     dsimp only at g1
     subst g1
     refine Runs.region_pan (by simp only [go_sem, seval, outU, xBoxes, ha1, hn1, hw1, ha4, hn4, hw4, w6, hc5]; rfl) ?_
     exact finK_pan (by simp only [go_sem, seval, outU, xBoxes, ha1, hn1, hw1, ha4, hn4, hw4, w6, hc5]; try rfl)
    try dsimp only [outX, outRow, outU] at w6
    dsimp only at h
    refine Runs.reg (by simp only [go_sem, seval, outU, xBoxes, ha1, hn1, hw1, ha4, hn4, hw4, w6, hc5]; rfl) (by simp only [long38, go_sem, seval]; rfl) ?_
    refine Runs.reg (by simp only [go_sem, seval, outU, xBoxes, ha1, hn1, hw1, ha4, hn4, hw4, hc5]; rfl) (by simp only [long38, go_sem, seval]; rfl) ?_
    cases h
    dsimp only at g4
    rw [← hd4] at g4
    refine ⟨m4 - 1, by omega, _, _, by simp only [go_sem, seval, outU, xBoxes, ha1, hn1, hw1, ha4, hn4, hw4]; try rfl, i4 + 1, _, _, g4, by omega, rfl, rfl⟩
   try simp only [N3] at hc5
   try simp only [hc5, C5] at h
   have hi4 := of_decide_eq_false hc5
   rw [List.drop_eq_nil_of_le (by omega)] at h
   simp only [foldX, dvB'] at h
   refine Runs.exit ?_
   cases h
   have h := hk4
   try dsimp only at h
   try simp only [hc5, cond_true, cond_false] at h
   refine Runs.seq ?_
   obtain ⟨r7, h7, h⟩ := bindX_some h
   have w7 := ih h7
   rcases r7 with ⟨u7, m7⟩ | ⟨c7, z7, m7⟩
   rotate_left
   ·
    try dsimp only [outX, outRow, outU] at w7
    subst h
    dsimp only at g1
    subst g1
    refine Runs.region_pan (by simp only [go_sem, seval, outU, xBoxes, ha1, hn1, hw1, w7, hc5]; rfl) ?_
    exact finK_pan (by simp only [go_sem, seval, outU, xBoxes, ha1, hn1, hw1, w7, hc5]; try rfl)
   try dsimp only [outX, outRow, outU] at w7
   dsimp only at h
   refine Runs.reg (by simp only [go_sem, seval, outU, xBoxes, ha1, hn1, hw1, w7, hc5]; rfl) (by simp only [long38, go_sem, seval]; rfl) ?_
   refine Runs.seq ?_
   refine Runs.reg (by simp only [go_sem, seval, outU, xBoxes, ha1, hn1, hw1, hc5]; rfl) (by simp only [long38, go_sem, seval]; rfl) ?_
   refine Runs.block ?_
   obtain ⟨j8, h, hk8⟩ := bindX_some h
   obtain ⟨hL8, h⟩ := lenO_some h
   refine Runs.loop_rel (m := (x1.options).length) (fun mz_ en hp => ∃ (i : Nat) (k : Unit) (M : Unit), foldX (dOpt (dclX (tellA u) n)) (List.drop i (x1.options)) k M = some j8 ∧ mz_ + i = (x1.options).length ∧ en = [(1, .c (.fn 39 [0])), (10, slV stmtD l), (11, iI (l.length : Int)), (12, _), (44, slV optD x1.options), (45, iI (x1.options.length : Int)), (46, .c (.d (.int .i64 (i : Int))))] ∧ hp = ([uBox u])) ?_ ⟨0, _, _, h, rfl, (by first | rfl | (simp only [go_sem, seval, outU, xBoxes, ha1, hn1, hw1]; done) | (simp only [go_sem, seval, outU, xBoxes, ha1, hn1, hw1]; rfl)), (by first | rfl | (simp only [go_sem, seval, outU, xBoxes, ha1, hn1, hw1]; done) | (simp only [go_sem, seval, outU, xBoxes, ha1, hn1, hw1]; rfl))⟩
   clear h
   rintro m8 en hp ⟨i8, k_, m_, h, hm8, rfl, rfl⟩
   refine Runs.seq ?_
   refine Runs.reg (by simp only [go_sem, seval, outU, xBoxes, ha1, hn1, hw1]; rfl) (by simp only [long38, go_sem, seval]; rfl) ?_
   refine Runs.seq ?_
   refine Runs.cond (t := 47) rfl (fun hc9 => ?_) (fun hc9 => ?_)
   ·
    try simp only [N3] at hc9
    try simp only [hc9, C5] at h
    have hi8 := of_decide_eq_true hc9
    obtain ⟨x8, xs8, hx8⟩ := drop_ex (l := x1.options) (i := i8) (by omega)
    obtain ⟨ha8, hb8, hd8⟩ := drop_cons hx8
    rw [hx8] at h
    simp only [foldX, dOpt] at h
    obtain ⟨r8, h, g8⟩ := bindX_some h
    have hn8 := cast_nonneg i8
    have hw8 := wrap_succ (n := i8) (by omega)
    refine Runs.skip ?_
    refine Runs.seq ?_
    refine Runs.block ?_
    refine Runs.seq ?_
    refine Runs.reg (by simp only [go_sem, seval, outU, xBoxes, ha1, hn1, hw1, ha8, hn8, hw8, hc9]; rfl) (by simp only [long38, go_sem, seval]; rfl) ?_
    obtain ⟨r10, h10, h⟩ := bindX_some h
    have w10 := ih h10
    rcases r10 with ⟨u10, m10⟩ | ⟨c10, z10, m10⟩
    rotate_left
    ·
     try dsimp only [outX, outRow, outU] at w10
     subst h
     dsimp only at g8
     subst g8
     dsimp only at hk8
     subst hk8
     dsimp only at g1
     subst g1
     refine Runs.region_pan (by simp only [go_sem, seval, outU, xBoxes, ha1, hn1, hw1, ha8, hn8, hw8, w10, hc9]; rfl) ?_
     exact finK_pan (by simp only [go_sem, seval, outU, xBoxes, ha1, hn1, hw1, ha8, hn8, hw8, w10, hc9]; try rfl)
    try dsimp only [outX, outRow, outU] at w10
    dsimp only at h
    refine Runs.reg (by simp only [go_sem, seval, outU, xBoxes, ha1, hn1, hw1, ha8, hn8, hw8, w10, hc9]; rfl) (by simp only [long38, go_sem, seval]; rfl) ?_
    refine Runs.reg (by simp only [go_sem, seval, outU, xBoxes, ha1, hn1, hw1, ha8, hn8, hw8, hc9]; rfl) (by simp only [long38, go_sem, seval]; rfl) ?_
    cases h
    dsimp only at g8
    rw [← hd8] at g8
    refine ⟨m8 - 1, by omega, _, _, by simp only [go_sem, seval, outU, xBoxes, ha1, hn1, hw1, ha8, hn8, hw8]; try rfl, i8 + 1, _, _, g8, by omega, rfl, rfl⟩
   try simp only [N3] at hc9
   try simp only [hc9, C5] at h
   have hi8 := of_decide_eq_false hc9
   rw [List.drop_eq_nil_of_le (by omega)] at h
   simp only [foldX, dOpt] at h
   refine Runs.exit ?_
   cases h
   have h := hk8
   try dsimp only at h
   try simp only [hc9, cond_true, cond_false] at h
   refine Runs.reg (by simp only [go_sem, seval, outU, xBoxes, ha1, hn1, hw1, hc9]; rfl) (by simp only [long38, go_sem, seval]; rfl) ?_
   cases h
   dsimp only at g1
   rw [← hd1] at g1
   refine ⟨m1 - 1, by omega, _, _, by simp only [go_sem, seval, outU, xBoxes, ha1, hn1, hw1]; try rfl, i1 + 1, _, _, g1, by omega, rfl, rfl⟩
  try simp only [N3] at hc3
  try simp only [hc3, C5] at h
  refine Runs.seq ?_
  refine Runs.reg (by simp only [go_sem, seval, outU, xBoxes, ha1, hn1, hw1, hc2, hc3]; rfl) (by simp only [long38, go_sem, seval]; rfl) ?_
  refine Runs.cond (t := 33) rfl (fun hc11 => ?_) (fun hc11 => ?_)
  ·
   try simp only [N3] at hc11
   try simp only [hc11, C5] at h
   obtain ⟨r12, h12, h⟩ := bindX_some h
   have w12 := W44 h12
   rcases r12 with ⟨u12, m12⟩ | ⟨c12, z12, m12⟩
   rotate_left
   ·
    try dsimp only [outX, outRow, outU] at w12
    subst h
    dsimp only at g1
    subst g1
    refine Runs.region_pan (by simp only [go_sem, seval, outU, xBoxes, ha1, hn1, hw1, w12, hc2, hc3, hc11]; rfl) ?_
    exact finK_pan (by simp only [go_sem, seval, outU, xBoxes, ha1, hn1, hw1, w12, hc2, hc3, hc11]; try rfl)
   try dsimp only [outX, outRow, outU] at w12
   dsimp only at h
   refine Runs.reg (by simp only [go_sem, seval, outU, xBoxes, ha1, hn1, hw1, w12, hc2, hc3, hc11]; rfl) (by simp only [long38, go_sem, seval]; rfl) ?_
   refine Runs.seq ?_
   obtain ⟨r13, h13, h⟩ := bindX_some h
   have w13 := ih h13
   rcases r13 with ⟨u13, m13⟩ | ⟨c13, z13, m13⟩
   rotate_left
   ·
    try dsimp only [outX, outRow, outU] at w13
    subst h
    dsimp only at g1
    subst g1
    refine Runs.region_pan (by simp only [go_sem, seval, outU, xBoxes, ha1, hn1, hw1, w13, hc2, hc3, hc11]; rfl) ?_
    exact finK_pan (by simp only [go_sem, seval, outU, xBoxes, ha1, hn1, hw1, w13, hc2, hc3, hc11]; try rfl)
   try dsimp only [outX, outRow, outU] at w13
   dsimp only at h
   refine Runs.reg (by simp only [go_sem, seval, outU, xBoxes, ha1, hn1, hw1, w13, hc2, hc3, hc11]; rfl) (by simp only [long38, go_sem, seval]; rfl) ?_
   refine Runs.seq ?_
   refine Runs.reg (by simp only [go_sem, seval, outU, xBoxes, ha1, hn1, hw1, hc2, hc3, hc11]; rfl) (by simp only [long38, go_sem, seval]; rfl) ?_
   refine Runs.block ?_
   obtain ⟨j14, h, hk14⟩ := bindX_some h
   obtain ⟨hL14, h⟩ := lenO_some h
   refine Runs.loop_rel (m := (x1.options).length) (fun mz_ en hp => ∃ (i : Nat) (k : Unit) (M : Unit), foldX (dOpt (dclX (tellA u) n)) (List.drop i (x1.options)) k M = some j14 ∧ mz_ + i = (x1.options).length ∧ en = [(1, .c (.fn 39 [0])), (10, slV stmtD l), (11, iI (l.length : Int)), (12, _), (44, slV optD x1.options), (45, iI (x1.options.length : Int)), (46, .c (.d (.int .i64 (i : Int))))] ∧ hp = ([uBox u])) ?_ ⟨0, _, _, h, rfl, (by first | rfl | (simp only [go_sem, seval, outU, xBoxes, ha1, hn1, hw1]; done) | (simp only [go_sem, seval, outU, xBoxes, ha1, hn1, hw1]; rfl)), (by first | rfl | (simp only [go_sem, seval, outU, xBoxes, ha1, hn1, hw1]; done) | (simp only [go_sem, seval, outU, xBoxes, ha1, hn1, hw1]; rfl))⟩
   clear h
   rintro m14 en hp ⟨i14, k_, m_, h, hm14, rfl, rfl⟩
   refine Runs.seq ?_
   refine Runs.reg (by simp only [go_sem, seval, outU, xBoxes, ha1, hn1, hw1]; rfl) (by simp only [long38, go_sem, seval]; rfl) ?_
   refine Runs.seq ?_
   refine Runs.cond (t := 47) rfl (fun hc15 => ?_) (fun hc15 => ?_)
   ·
    try simp only [N3] at hc15
    try simp only [hc15, C5] at h
    have hi14 := of_decide_eq_true hc15
    obtain ⟨x14, xs14, hx14⟩ := drop_ex (l := x1.options) (i := i14) (by omega)
    obtain ⟨ha14, hb14, hd14⟩ := drop_cons hx14
    rw [hx14] at h
    simp only [foldX, dOpt] at h
    obtain ⟨r14, h, g14⟩ := bindX_some h
    have hn14 := cast_nonneg i14
    have hw14 := wrap_succ (n := i14) (by omega)
    refine Runs.skip ?_
    refine Runs.seq ?_
    refine Runs.block ?_
    refine Runs.seq ?_
    refine Runs.reg (by simp only [go_sem, seval, outU, xBoxes, ha1, hn1, hw1, ha14, hn14, hw14, hc15]; rfl) (by simp only [long38, go_sem, seval]; rfl) ?_
    obtain ⟨r16, h16, h⟩ := bindX_some h
    have w16 := ih h16
    rcases r16 with ⟨u16, m16⟩ | ⟨c16, z16, m16⟩
    rotate_left
    ·
     try dsimp only [outX, outRow, outU] at w16
     subst h
     dsimp only at g14
     subst g14
     dsimp only at hk14
     subst hk14
     dsimp only at g1
     subst g1
     refine Runs.region_pan (by simp only [go_sem, seval, outU, xBoxes, ha1, hn1, hw1, ha14, hn14, hw14, w16, hc15]; rfl) ?_
     exact finK_pan (by simp only [go_sem, seval, outU, xBoxes, ha1, hn1, hw1, ha14, hn14, hw14, w16, hc15]; try rfl)
    try dsimp only [outX, outRow, outU] at w16
    dsimp only at h
    refine Runs.reg (by simp only [go_sem, seval, outU, xBoxes, ha1, hn1, hw1, ha14, hn14, hw14, w16, hc15]; rfl) (by simp only [long38, go_sem, seval]; rfl) ?_
    refine Runs.reg (by simp only [go_sem, seval, outU, xBoxes, ha1, hn1, hw1, ha14, hn14, hw14, hc15]; rfl) (by simp only [long38, go_sem, seval]; rfl) ?_
    cases h
    dsimp only at g14
    rw [← hd14] at g14
    refine ⟨m14 - 1, by omega, _, _, by simp only [go_sem, seval, outU, xBoxes, ha1, hn1, hw1, ha14, hn14, hw14]; try rfl, i14 + 1, _, _, g14, by omega, rfl, rfl⟩
   try simp only [N3] at hc15
   try simp only [hc15, C5] at h
   have hi14 := of_decide_eq_false hc15
   rw [List.drop_eq_nil_of_le (by omega)] at h
   simp only [foldX, dOpt] at h
   refine Runs.exit ?_
   cases h
   have h := hk14
   try dsimp only at h
   try simp only [hc15, cond_true, cond_false] at h
   refine Runs.reg (by simp only [go_sem, seval, outU, xBoxes, ha1, hn1, hw1, hc15]; rfl) (by simp only [long38, go_sem, seval]; rfl) ?_
   cases h
   dsimp only at g1
   rw [← hd1] at g1
   refine ⟨m1 - 1, by omega, _, _, by simp only [go_sem, seval, outU, xBoxes, ha1, hn1, hw1]; try rfl, i1 + 1, _, _, g1, by omega, rfl, rfl⟩
  try simp only [N3] at hc11
  try simp only [hc11, C5] at h
  refine Runs.skip ?_
  refine Runs.seq ?_
  obtain ⟨r17, h17, h⟩ := bindX_some h
  have w17 := ih h17
  rcases r17 with ⟨u17, m17⟩ | ⟨c17, z17, m17⟩
  rotate_left
  ·
   try dsimp only [outX, outRow, outU] at w17
   subst h
   dsimp only at g1
   subst g1
   refine Runs.region_pan (by simp only [go_sem, seval, outU, xBoxes, ha1, hn1, hw1, w17, hc2, hc3, hc11]; rfl) ?_
   exact finK_pan (by simp only [go_sem, seval, outU, xBoxes, ha1, hn1, hw1, w17, hc2, hc3, hc11]; try rfl)
  try dsimp only [outX, outRow, outU] at w17
  dsimp only at h
  refine Runs.reg (by simp only [go_sem, seval, outU, xBoxes, ha1, hn1, hw1, w17, hc2, hc3, hc11]; rfl) (by simp only [long38, go_sem, seval]; rfl) ?_
  refine Runs.seq ?_
  refine Runs.reg (by simp only [go_sem, seval, outU, xBoxes, ha1, hn1, hw1, hc2, hc3, hc11]; rfl) (by simp only [long38, go_sem, seval]; rfl) ?_
  refine Runs.block ?_
  obtain ⟨j18, h, hk18⟩ := bindX_some h
  obtain ⟨hL18, h⟩ := lenO_some h
  refine Runs.loop_rel (m := (x1.options).length) (fun mz_ en hp => ∃ (i : Nat) (k : Unit) (M : Unit), foldX (dOpt (dclX (tellA u) n)) (List.drop i (x1.options)) k M = some j18 ∧ mz_ + i = (x1.options).length ∧ en = [(1, .c (.fn 39 [0])), (10, slV stmtD l), (11, iI (l.length : Int)), (12, _), (44, slV optD x1.options), (45, iI (x1.options.length : Int)), (46, .c (.d (.int .i64 (i : Int))))] ∧ hp = ([uBox u])) ?_ ⟨0, _, _, h, rfl, (by first | rfl | (simp only [go_sem, seval, outU, xBoxes, ha1, hn1, hw1]; done) | (simp only [go_sem, seval, outU, xBoxes, ha1, hn1, hw1]; rfl)), (by first | rfl | (simp only [go_sem, seval, outU, xBoxes, ha1, hn1, hw1]; done) | (simp only [go_sem, seval, outU, xBoxes, ha1, hn1, hw1]; rfl))⟩
  clear h
  rintro m18 en hp ⟨i18, k_, m_, h, hm18, rfl, rfl⟩
  refine Runs.seq ?_
  refine Runs.reg (by simp only [go_sem, seval, outU, xBoxes, ha1, hn1, hw1]; rfl) (by simp only [long38, go_sem, seval]; rfl) ?_
  refine Runs.seq ?_
  refine Runs.cond (t := 47) rfl (fun hc19 => ?_) (fun hc19 => ?_)
  ·
   try simp only [N3] at hc19
   try simp only [hc19, C5] at h
   have hi18 := of_decide_eq_true hc19
   obtain ⟨x18, xs18, hx18⟩ := drop_ex (l := x1.options) (i := i18) (by omega)
   obtain ⟨ha18, hb18, hd18⟩ := drop_cons hx18
   rw [hx18] at h
   simp only [foldX, dOpt] at h
   obtain ⟨r18, h, g18⟩ := bindX_some h
   have hn18 := cast_nonneg i18
   have hw18 := wrap_succ (n := i18) (by omega)
   refine Runs.skip ?_
   refine Runs.seq ?_
   refine Runs.block ?_
   refine Runs.seq ?_
   refine Runs.reg (by simp only [go_sem, seval, outU, xBoxes, ha1, hn1, hw1, ha18, hn18, hw18, hc19]; rfl) (by simp only [long38, go_sem, seval]; rfl) ?_
   obtain ⟨r20, h20, h⟩ := bindX_some h
   have w20 := ih h20
   rcases r20 with ⟨u20, m20⟩ | ⟨c20, z20, m20⟩
   rotate_left
   ·
    try dsimp only [outX, outRow, outU] at w20
    subst h
    dsimp only at g18
    subst g18
    dsimp only at hk18
    subst hk18
    dsimp only at g1
    subst g1
    refine Runs.region_pan (by simp only [go_sem, seval, outU, xBoxes, ha1, hn1, hw1, ha18, hn18, hw18, w20, hc19]; rfl) ?_
    exact finK_pan (by simp only [go_sem, seval, outU, xBoxes, ha1, hn1, hw1, ha18, hn18, hw18, w20, hc19]; try rfl)
   try dsimp only [outX, outRow, outU] at w20
   dsimp only at h
   refine Runs.reg (by simp only [go_sem, seval, outU, xBoxes, ha1, hn1, hw1, ha18, hn18, hw18, w20, hc19]; rfl) (by simp only [long38, go_sem, seval]; rfl) ?_
   refine Runs.reg (by simp only [go_sem, seval, outU, xBoxes, ha1, hn1, hw1, ha18, hn18, hw18, hc19]; rfl) (by simp only [long38, go_sem, seval]; rfl) ?_
   cases h
   dsimp only at g18
   rw [← hd18] at g18
   refine ⟨m18 - 1, by omega, _, _, by simp only [go_sem, seval, outU, xBoxes, ha1, hn1, hw1, ha18, hn18, hw18]; try rfl, i18 + 1, _, _, g18, by omega, rfl, rfl⟩
  try simp only [N3] at hc19
  try simp only [hc19, C5] at h
  have hi18 := of_decide_eq_false hc19
  rw [List.drop_eq_nil_of_le (by omega)] at h
  simp only [foldX, dOpt] at h
  refine Runs.exit ?_
  cases h
  have h := hk18
  try dsimp only at h
  try simp only [hc19, cond_true, cond_false] at h
  refine Runs.reg (by simp only [go_sem, seval, outU, xBoxes, ha1, hn1, hw1, hc19]; rfl) (by simp only [long38, go_sem, seval]; rfl) ?_
  cases h
  dsimp only at g1
  rw [← hd1] at g1
  refine ⟨m1 - 1, by omega, _, _, by simp only [go_sem, seval, outU, xBoxes, ha1, hn1, hw1]; try rfl, i1 + 1, _, _, g1, by omega, rfl, rfl⟩
 try simp only [N3] at hc2
 try simp only [hc2, C5] at h
 have hi1 := of_decide_eq_false hc2
 rw [List.drop_eq_nil_of_le (by omega)] at h
 simp only [foldX, dStmt, dTail, dvB'] at h
 refine Runs.exit ?_
 cases h
 try cases h
 try dsimp only [outU]
 first
 | rfl
 | (exact fkn (res := []) rfl rfl rfl (by simp only [fin1, go_sem, seval, outU, xBoxes, hc2]; try rfl))
theorem W43B {n : Nat} {x : Bytes} {a : List (Bytes × Ast)} {d : Int} (ih : ∀ {l : List Stmt} {m : NM} {r : Xr Unit NM}, dclX (tellB x) n l m = some r → callW ip 38 [slV stmtD l, .c (.fn 69 [0, 1])] (xBoxes x a d m) = some (outU (xBoxes x a d) r)) {l : List Stmt} {m : NM} {r : Xr Unit NM} (h : dclX (tellB x) (n + 1) l m = some r) : callW ip 38 [slV stmtD l, .c (.fn 69 [0, 1])] (xBoxes x a d m) = some (outU (xBoxes x a d) r) := by
 simp only [dclX] at h
 refine callW_runs (fn := Tryd.f38) (L := long38) (nt := 55) (n0 := 5) (T := tab) (rw' := []) (kA := keepA) Tryd.func38 rfl rfl rfl rfl rfl rfl rfl rfl rfl ?_
 refine Runs.seq ?_
 refine Runs.reg (by simp only [go_sem, seval, outU, xBoxes]; rfl) (by simp only [long38, go_sem, seval]; rfl) ?_
 refine Runs.block ?_
 obtain ⟨hL1, h⟩ := lenO_some h
 refine Runs.loop_rel (m := (l).length) (fun mz_ en hp => ∃ (i : Nat) (k : Unit) (M : NM), foldX (dStmt (tellB x) (dclX (tellB x) n)) (List.drop i (l)) k M = some r ∧ mz_ + i = (l).length ∧ en = [(1, .c (.fn 69 [0, 1])), (10, slV stmtD l), (11, iI (l.length : Int)), (12, .c (.d (.int .i64 (i : Int))))] ∧ hp = (xBoxes x a d M)) ?_ ⟨0, _, _, h, rfl, (by first | rfl | (simp only [go_sem, seval, outU, xBoxes]; done) | (simp only [go_sem, seval, outU, xBoxes]; rfl)), (by first | rfl | (simp only [go_sem, seval, outU, xBoxes]; done) | (simp only [go_sem, seval, outU, xBoxes]; rfl))⟩
 clear h
 rintro m1 en hp ⟨i1, k_, m_, h, hm1, rfl, rfl⟩
 refine Runs.seq ?_
 refine Runs.reg (by simp only [go_sem, seval, outU, xBoxes]; rfl) (by simp only [long38, go_sem, seval]; rfl) ?_
 refine Runs.seq ?_
 refine Runs.cond (t := 13) rfl (fun hc2 => ?_) (fun hc2 => ?_)
 ·
  try simp only [N3] at hc2
  try simp only [hc2, C5] at h
  have hi1 := of_decide_eq_true hc2
  obtain ⟨x1, xs1, hx1⟩ := drop_ex (l := l) (i := i1) (by omega)
  obtain ⟨ha1, hb1, hd1⟩ := drop_cons hx1
  rw [hx1] at h
  simp only [foldX, dStmt, dTail, dvB'] at h
  obtain ⟨r1, h, g1⟩ := bindX_some h
  have hn1 := cast_nonneg i1
  have hw1 := wrap_succ (n := i1) (by omega)
  refine Runs.skip ?_
  refine Runs.seq ?_
  refine Runs.block ?_
  refine Runs.seq ?_
  refine Runs.reg (by simp only [go_sem, seval, outU, xBoxes, ha1, hn1, hw1, hc2]; rfl) (by simp only [long38, go_sem, seval]; rfl) ?_
  refine Runs.seq ?_
  refine Runs.seq ?_
  refine Runs.reg (by simp only [go_sem, seval, outU, xBoxes, ha1, hn1, hw1, hc2]; rfl) (by simp only [long38, go_sem, seval]; rfl) ?_
  refine Runs.block ?_
  refine Runs.seq ?_
  refine Runs.reg (by simp only [go_sem, seval, outU, xBoxes, ha1, hn1, hw1, hc2]; rfl) (by simp only [long38, go_sem, seval]; rfl) ?_
  refine Runs.cond (t := 18) rfl (fun hc3 => ?_) (fun hc3 => ?_)
  ·
   try simp only [N3] at hc3
   try simp only [hc3, C5] at h
   refine Runs.seq ?_
   refine Runs.reg (by simp only [go_sem, seval, outU, xBoxes, ha1, hn1, hw1, hc2, hc3]; rfl) (by simp only [long38, go_sem, seval]; rfl) ?_
   refine Runs.block ?_
   obtain ⟨j4, h, hk4⟩ := bindX_some h
   obtain ⟨hL4, h⟩ := lenO_some h
   refine Runs.loop_rel (m := (x1.decl.vars).length) (fun mz_ en hp => ∃ (i : Nat) (k : Unit) (M : NM), foldX (dvB' (tellB x)) (List.drop i (x1.decl.vars)) k M = some j4 ∧ mz_ + i = (x1.decl.vars).length ∧ en = [(1, .c (.fn 69 [0, 1])), (5, _), (10, slV stmtD l), (11, iI (l.length : Int)), (12, _), (22, slV dvarD x1.decl.vars), (23, iI (x1.decl.vars.length : Int)), (24, .c (.d (.int .i64 (i : Int))))] ∧ hp = (.box [.d (.str x)] :: .box [.mp 2, .mp 3, .mp 4, .d (.int .i64 d)] :: .mp (a.map entA) :: .mp (M.1.map entS) :: .mp (M.2.map entS) :: _)) ?_ ⟨0, _, _, h, rfl, (by first | rfl | (simp only [go_sem, seval, outU, xBoxes, ha1, hn1, hw1]; done) | (simp only [go_sem, seval, outU, xBoxes, ha1, hn1, hw1]; rfl)), (by first | rfl | (simp only [go_sem, seval, outU, xBoxes, ha1, hn1, hw1]; done) | (simp only [go_sem, seval, outU, xBoxes, ha1, hn1, hw1]; rfl))⟩
   clear h
   rintro m4 en hp ⟨i4, k_, m_, h, hm4, rfl, rfl⟩
   refine Runs.seq ?_
   refine Runs.reg (by simp only [go_sem, seval, outU, xBoxes, ha1, hn1, hw1]; rfl) (by simp only [long38, go_sem, seval]; rfl) ?_
   refine Runs.seq ?_
   refine Runs.cond (t := 25) rfl (fun hc5 => ?_) (fun hc5 => ?_)
   ·
    try simp only [N3] at hc5
    try simp only [hc5, C5] at h
    have hi4 := of_decide_eq_true hc5
    obtain ⟨x4, xs4, hx4⟩ := drop_ex (l := x1.decl.vars) (i := i4) (by omega)
    obtain ⟨ha4, hb4, hd4⟩ := drop_cons hx4
    rw [hx4] at h
    simp only [foldX, dvB'] at h
    obtain ⟨r4, h, g4⟩ := bindX_some h
    have hn4 := cast_nonneg i4
    have hw4 := wrap_succ (n := i4) (by omega)
    refine Runs.skip ?_
    refine Runs.seq ?_
    refine Runs.block ?_
    refine Runs.seq ?_
    refine Runs.reg (by simp only [go_sem, seval, outU, xBoxes, ha1, hn1, hw1, ha4, hn4, hw4, hc5]; rfl) (by simp only [long38, go_sem, seval]; rfl) ?_
    obtain ⟨r6, h6, h⟩ := bindX_some h
    have w6 := W77 (a := a) (d := d) h6
    rcases r6 with ⟨u6, m6⟩ | ⟨c6, z6, m6⟩
    rotate_left
    ·
     try dsimp only [outX, outRow, outU] at w6
     subst h
     dsimp only at g4
     subst g4
     dsimp only at hk4
     subst hk4
     dsimp only at g1
     subst g1
     refine Runs.region_pan (by simp only [go_sem, seval, outU, xBoxes, ha1, hn1, hw1, ha4, hn4, hw4, w6, hc5]; rfl) ?_
     exact finK_pan (by simp only [go_sem, seval, outU, xBoxes, ha1, hn1, hw1, ha4, hn4, hw4, w6, hc5]; try rfl)
    try dsimp only [outX, outRow, outU] at w6
    dsimp only at h
    refine Runs.reg (by simp only [go_sem, seval, outU, xBoxes, ha1, hn1, hw1, ha4, hn4, hw4, w6, hc5]; rfl) (by simp only [long38, go_sem, seval]; rfl) ?_
    refine Runs.reg (by simp only [go_sem, seval, outU, xBoxes, ha1, hn1, hw1, ha4, hn4, hw4, hc5]; rfl) (by simp only [long38, go_sem, seval]; rfl) ?_
    cases h
    dsimp only at g4
    rw [← hd4] at g4
    refine ⟨m4 - 1, by omega, _, _, by simp only [go_sem, seval, outU, xBoxes, ha1, hn1, hw1, ha4, hn4, hw4]; try rfl, i4 + 1, _, _, g4, by omega, rfl, rfl⟩
   try simp only [N3] at hc5
   try simp only [hc5, C5] at h
   have hi4 := of_decide_eq_false hc5
   rw [List.drop_eq_nil_of_le (by omega)] at h
   simp only [foldX, dvB'] at h
   refine Runs.exit ?_
   cases h
   have h := hk4
   try dsimp only at h
   try simp only [hc5, cond_true, cond_false] at h
   refine Runs.seq ?_
   obtain ⟨r7, h7, h⟩ := bindX_some h
   have w7 := ih h7
   rcases r7 with ⟨u7, m7⟩ | ⟨c7, z7, m7⟩
   rotate_left
   ·
    try dsimp only [outX, outRow, outU] at w7
    subst h
    dsimp only at g1
    subst g1
    refine Runs.region_pan (by simp only [go_sem, seval, outU, xBoxes, ha1, hn1, hw1, w7, hc5]; rfl) ?_
    exact finK_pan (by simp only [go_sem, seval, outU, xBoxes, ha1, hn1, hw1, w7, hc5]; try rfl)
   try dsimp only [outX, outRow, outU] at w7
   dsimp only at h
   refine Runs.reg (by simp only [go_sem, seval, outU, xBoxes, ha1, hn1, hw1, w7, hc5]; rfl) (by simp only [long38, go_sem, seval]; rfl) ?_
   refine Runs.seq ?_
   refine Runs.reg (by simp only [go_sem, seval, outU, xBoxes, ha1, hn1, hw1, hc5]; rfl) (by simp only [long38, go_sem, seval]; rfl) ?_
   refine Runs.block ?_
   obtain ⟨j8, h, hk8⟩ := bindX_some h
   obtain ⟨hL8, h⟩ := lenO_some h
   refine Runs.loop_rel (m := (x1.options).length) (fun mz_ en hp => ∃ (i : Nat) (k : Unit) (M : NM), foldX (dOpt (dclX (tellB x) n)) (List.drop i (x1.options)) k M = some j8 ∧ mz_ + i = (x1.options).length ∧ en = [(1, .c (.fn 69 [0, 1])), (10, slV stmtD l), (11, iI (l.length : Int)), (12, _), (44, slV optD x1.options), (45, iI (x1.options.length : Int)), (46, .c (.d (.int .i64 (i : Int))))] ∧ hp = (xBoxes x a d M)) ?_ ⟨0, _, _, h, rfl, (by first | rfl | (simp only [go_sem, seval, outU, xBoxes, ha1, hn1, hw1]; done) | (simp only [go_sem, seval, outU, xBoxes, ha1, hn1, hw1]; rfl)), (by first | rfl | (simp only [go_sem, seval, outU, xBoxes, ha1, hn1, hw1]; done) | (simp only [go_sem, seval, outU, xBoxes, ha1, hn1, hw1]; rfl))⟩
   clear h
   rintro m8 en hp ⟨i8, k_, m_, h, hm8, rfl, rfl⟩
   refine Runs.seq ?_
   refine Runs.reg (by simp only [go_sem, seval, outU, xBoxes, ha1, hn1, hw1]; rfl) (by simp only [long38, go_sem, seval]; rfl) ?_
   refine Runs.seq ?_
   refine Runs.cond (t := 47) rfl (fun hc9 => ?_) (fun hc9 => ?_)
   ·
    try simp only [N3] at hc9
    try simp only [hc9, C5] at h
    have hi8 := of_decide_eq_true hc9
    obtain ⟨x8, xs8, hx8⟩ := drop_ex (l := x1.options) (i := i8) (by omega)
    obtain ⟨ha8, hb8, hd8⟩ := drop_cons hx8
    rw [hx8] at h
    simp only [foldX, dOpt] at h
    obtain ⟨r8, h, g8⟩ := bindX_some h
    have hn8 := cast_nonneg i8
    have hw8 := wrap_succ (n := i8) (by omega)
    refine Runs.skip ?_
    refine Runs.seq ?_
    refine Runs.block ?_
    refine Runs.seq ?_
    refine Runs.reg (by simp only [go_sem, seval, outU, xBoxes, ha1, hn1, hw1, ha8, hn8, hw8, hc9]; rfl) (by simp only [long38, go_sem, seval]; rfl) ?_
    obtain ⟨r10, h10, h⟩ := bindX_some h
    have w10 := ih h10
    rcases r10 with ⟨u10, m10⟩ | ⟨c10, z10, m10⟩
    rotate_left
    ·
     try dsimp only [outX, outRow, outU] at w10
     subst h
     dsimp only at g8
     subst g8
     dsimp only at hk8
     subst hk8
     dsimp only at g1
     subst g1
     refine Runs.region_pan (by simp only [go_sem, seval, outU, xBoxes, ha1, hn1, hw1, ha8, hn8, hw8, w10, hc9]; rfl) ?_
     exact finK_pan (by simp only [go_sem, seval, outU, xBoxes, ha1, hn1, hw1, ha8, hn8, hw8, w10, hc9]; try rfl)
    try dsimp only [outX, outRow, outU] at w10
    dsimp only at h
    refine Runs.reg (by simp only [go_sem, seval, outU, xBoxes, ha1, hn1, hw1, ha8, hn8, hw8, w10, hc9]; rfl) (by simp only [long38, go_sem, seval]; rfl) ?_
    refine Runs.reg (by simp only [go_sem, seval, outU, xBoxes, ha1, hn1, hw1, ha8, hn8, hw8, hc9]; rfl) (by simp only [long38, go_sem, seval]; rfl) ?_
    cases h
    dsimp only at g8
    rw [← hd8] at g8
    refine ⟨m8 - 1, by omega, _, _, by simp only [go_sem, seval, outU, xBoxes, ha1, hn1, hw1, ha8, hn8, hw8]; try rfl, i8 + 1, _, _, g8, by omega, rfl, rfl⟩
   try simp only [N3] at hc9
   try simp only [hc9, C5] at h
   have hi8 := of_decide_eq_false hc9
   rw [List.drop_eq_nil_of_le (by omega)] at h
   simp only [foldX, dOpt] at h
   refine Runs.exit ?_
   cases h
   have h := hk8
   try dsimp only at h
   try simp only [hc9, cond_true, cond_false] at h
   refine Runs.reg (by simp only [go_sem, seval, outU, xBoxes, ha1, hn1, hw1, hc9]; rfl) (by simp only [long38, go_sem, seval]; rfl) ?_
   cases h
   dsimp only at g1
   rw [← hd1] at g1
   refine ⟨m1 - 1, by omega, _, _, by simp only [go_sem, seval, outU, xBoxes, ha1, hn1, hw1]; try rfl, i1 + 1, _, _, g1, by omega, rfl, rfl⟩
  try simp only [N3] at hc3
  try simp only [hc3, C5] at h
  refine Runs.seq ?_
  refine Runs.reg (by simp only [go_sem, seval, outU, xBoxes, ha1, hn1, hw1, hc2, hc3]; rfl) (by simp only [long38, go_sem, seval]; rfl) ?_
  refine Runs.cond (t := 33) rfl (fun hc11 => ?_) (fun hc11 => ?_)
  ·
   try simp only [N3] at hc11
   try simp only [hc11, C5] at h
   obtain ⟨r12, h12, h⟩ := bindX_some h
   have w12 := W77 (a := a) (d := d) h12
   rcases r12 with ⟨u12, m12⟩ | ⟨c12, z12, m12⟩
   rotate_left
   ·
    try dsimp only [outX, outRow, outU] at w12
    subst h
    dsimp only at g1
    subst g1
    refine Runs.region_pan (by simp only [go_sem, seval, outU, xBoxes, ha1, hn1, hw1, w12, hc2, hc3, hc11]; rfl) ?_
    exact finK_pan (by simp only [go_sem, seval, outU, xBoxes, ha1, hn1, hw1, w12, hc2, hc3, hc11]; try rfl)
   try dsimp only [outX, outRow, outU] at w12
   dsimp only at h
   refine Runs.reg (by simp only [go_sem, seval, outU, xBoxes, ha1, hn1, hw1, w12, hc2, hc3, hc11]; rfl) (by simp only [long38, go_sem, seval]; rfl) ?_
   refine Runs.seq ?_
   obtain ⟨r13, h13, h⟩ := bindX_some h
   have w13 := ih h13
   rcases r13 with ⟨u13, m13⟩ | ⟨c13, z13, m13⟩
   rotate_left
   ·
    try dsimp only [outX, outRow, outU] at w13
    subst h
    dsimp only at g1
    subst g1
    refine Runs.region_pan (by simp only [go_sem, seval, outU, xBoxes, ha1, hn1, hw1, w13, hc2, hc3, hc11]; rfl) ?_
    exact finK_pan (by simp only [go_sem, seval, outU, xBoxes, ha1, hn1, hw1, w13, hc2, hc3, hc11]; try rfl)
   try dsimp only [outX, outRow, outU] at w13
   dsimp only at h
   refine Runs.reg (by simp only [go_sem, seval, outU, xBoxes, ha1, hn1, hw1, w13, hc2, hc3, hc11]; rfl) (by simp only [long38, go_sem, seval]; rfl) ?_
   refine Runs.seq ?_
   refine Runs.reg (by simp only [go_sem, seval, outU, xBoxes, ha1, hn1, hw1, hc2, hc3, hc11]; rfl) (by simp only [long38, go_sem, seval]; rfl) ?_
   refine Runs.block ?_
   obtain ⟨j14, h, hk14⟩ := bindX_some h
   obtain ⟨hL14, h⟩ := lenO_some h
   refine Runs.loop_rel (m := (x1.options).length) (fun mz_ en hp => ∃ (i : Nat) (k : Unit) (M : NM), foldX (dOpt (dclX (tellB x) n)) (List.drop i (x1.options)) k M = some j14 ∧ mz_ + i = (x1.options).length ∧ en = [(1, .c (.fn 69 [0, 1])), (10, slV stmtD l), (11, iI (l.length : Int)), (12, _), (44, slV optD x1.options), (45, iI (x1.options.length : Int)), (46, .c (.d (.int .i64 (i : Int))))] ∧ hp = (xBoxes x a d M)) ?_ ⟨0, _, _, h, rfl, (by first | rfl | (simp only [go_sem, seval, outU, xBoxes, ha1, hn1, hw1]; done) | (simp only [go_sem, seval, outU, xBoxes, ha1, hn1, hw1]; rfl)), (by first | rfl | (simp only [go_sem, seval, outU, xBoxes, ha1, hn1, hw1]; done) | (simp only [go_sem, seval, outU, xBoxes, ha1, hn1, hw1]; rfl))⟩
   clear h
   rintro m14 en hp ⟨i14, k_, m_, h, hm14, rfl, rfl⟩
   refine Runs.seq ?_
   refine Runs.reg (by simp only [go_sem, seval, outU, xBoxes, ha1, hn1, hw1]; rfl) (by simp only [long38, go_sem, seval]; rfl) ?_
   refine Runs.seq ?_
   refine Runs.cond (t := 47) rfl (fun hc15 => ?_) (fun hc15 => ?_)
   ·
    try simp only [N3] at hc15
    try simp only [hc15, C5] at h
    have hi14 := of_decide_eq_true hc15
    obtain ⟨x14, xs14, hx14⟩ := drop_ex (l := x1.options) (i := i14) (by omega)
    obtain ⟨ha14, hb14, hd14⟩ := drop_cons hx14
    rw [hx14] at h
    simp only [foldX, dOpt] at h
    obtain ⟨r14, h, g14⟩ := bindX_some h
    have hn14 := cast_nonneg i14
    have hw14 := wrap_succ (n := i14) (by omega)
    refine Runs.skip ?_
    refine Runs.seq ?_
    refine Runs.block ?_
    refine Runs.seq ?_
    refine Runs.reg (by simp only [go_sem, seval, outU, xBoxes, ha1, hn1, hw1, ha14, hn14, hw14, hc15]; rfl) (by simp only [long38, go_sem, seval]; rfl) ?_
    obtain ⟨r16, h16, h⟩ := bindX_some h
    have w16 := ih h16
    rcases r16 with ⟨u16, m16⟩ | ⟨c16, z16, m16⟩
    rotate_left
    ·
     try dsimp only [outX, outRow, outU] at w16
     subst h
     dsimp only at g14
     subst g14
     dsimp only at hk14
     subst hk14
     dsimp only at g1
     subst g1
     refine Runs.region_pan (by simp only [go_sem, seval, outU, xBoxes, ha1, hn1, hw1, ha14, hn14, hw14, w16, hc15]; rfl) ?_
     exact finK_pan (by simp only [go_sem, seval, outU, xBoxes, ha1, hn1, hw1, ha14, hn14, hw14, w16, hc15]; try rfl)
    try dsimp only [outX, outRow, outU] at w16
    dsimp only at h
    refine Runs.reg (by simp only [go_sem, seval, outU, xBoxes, ha1, hn1, hw1, ha14, hn14, hw14, w16, hc15]; rfl) (by simp only [long38, go_sem, seval]; rfl) ?_
    refine Runs.reg (by simp only [go_sem, seval, outU, xBoxes, ha1, hn1, hw1, ha14, hn14, hw14, hc15]; rfl) (by simp only [long38, go_sem, seval]; rfl) ?_
    cases h
    dsimp only at g14
    rw [← hd14] at g14
    refine ⟨m14 - 1, by omega, _, _, by simp only [go_sem, seval, outU, xBoxes, ha1, hn1, hw1, ha14, hn14, hw14]; try rfl, i14 + 1, _, _, g14, by omega, rfl, rfl⟩
   try simp only [N3] at hc15
   try simp only [hc15, C5] at h
   have hi14 := of_decide_eq_false hc15
   rw [List.drop_eq_nil_of_le (by omega)] at h
   simp only [foldX, dOpt] at h
   refine Runs.exit ?_
   cases h
   have h := hk14
   try dsimp only at h
   try simp only [hc15, cond_true, cond_false] at h
   refine Runs.reg (by simp only [go_sem, seval, outU, xBoxes, ha1, hn1, hw1, hc15]; rfl) (by simp only [long38, go_sem, seval]; rfl) ?_
   cases h
   dsimp only at g1
   rw [← hd1] at g1
   refine ⟨m1 - 1, by omega, _, _, by simp only [go_sem, seval, outU, xBoxes, ha1, hn1, hw1]; try rfl, i1 + 1, _, _, g1, by omega, rfl, rfl⟩
  try simp only [N3] at hc11
  try simp only [hc11, C5] at h
  refine Runs.skip ?_
  refine Runs.seq ?_
  obtain ⟨r17, h17, h⟩ := bindX_some h
  have w17 := ih h17
  rcases r17 with ⟨u17, m17⟩ | ⟨c17, z17, m17⟩
  rotate_left
  ·
   try dsimp only [outX, outRow, outU] at w17
   subst h
   dsimp only at g1
   subst g1
   refine Runs.region_pan (by simp only [go_sem, seval, outU, xBoxes, ha1, hn1, hw1, w17, hc2, hc3, hc11]; rfl) ?_
   exact finK_pan (by simp only [go_sem, seval, outU, xBoxes, ha1, hn1, hw1, w17, hc2, hc3, hc11]; try rfl)
  try dsimp only [outX, outRow, outU] at w17
  dsimp only at h
  refine Runs.reg (by simp only [go_sem, seval, outU, xBoxes, ha1, hn1, hw1, w17, hc2, hc3, hc11]; rfl) (by simp only [long38, go_sem, seval]; rfl) ?_
  refine Runs.seq ?_
  refine Runs.reg (by simp only [go_sem, seval, outU, xBoxes, ha1, hn1, hw1, hc2, hc3, hc11]; rfl) (by simp only [long38, go_sem, seval]; rfl) ?_
  refine Runs.block ?_
  obtain ⟨j18, h, hk18⟩ := bindX_some h
  obtain ⟨hL18, h⟩ := lenO_some h
  refine Runs.loop_rel (m := (x1.options).length) (fun mz_ en hp => ∃ (i : Nat) (k : Unit) (M : NM), foldX (dOpt (dclX (tellB x) n)) (List.drop i (x1.options)) k M = some j18 ∧ mz_ + i = (x1.options).length ∧ en = [(1, .c (.fn 69 [0, 1])), (10, slV stmtD l), (11, iI (l.length : Int)), (12, _), (44, slV optD x1.options), (45, iI (x1.options.length : Int)), (46, .c (.d (.int .i64 (i : Int))))] ∧ hp = (xBoxes x a d M)) ?_ ⟨0, _, _, h, rfl, (by first | rfl | (simp only [go_sem, seval, outU, xBoxes, ha1, hn1, hw1]; done) | (simp only [go_sem, seval, outU, xBoxes, ha1, hn1, hw1]; rfl)), (by first | rfl | (simp only [go_sem, seval, outU, xBoxes, ha1, hn1, hw1]; done) | (simp only [go_sem, seval, outU, xBoxes, ha1, hn1, hw1]; rfl))⟩
  clear h
  rintro m18 en hp ⟨i18, k_, m_, h, hm18, rfl, rfl⟩
  refine Runs.seq ?_
  refine Runs.reg (by simp only [go_sem, seval, outU, xBoxes, ha1, hn1, hw1]; rfl) (by simp only [long38, go_sem, seval]; rfl) ?_
  refine Runs.seq ?_
  refine Runs.cond (t := 47) rfl (fun hc19 => ?_) (fun hc19 => ?_)
  ·
   try simp only [N3] at hc19
   try simp only [hc19, C5] at h
   have hi18 := of_decide_eq_true hc19
   obtain ⟨x18, xs18, hx18⟩ := drop_ex (l := x1.options) (i := i18) (by omega)
   obtain ⟨ha18, hb18, hd18⟩ := drop_cons hx18
   rw [hx18] at h
   simp only [foldX, dOpt] at h
   obtain ⟨r18, h, g18⟩ := bindX_some h
   have hn18 := cast_nonneg i18
   have hw18 := wrap_succ (n := i18) (by omega)
   refine Runs.skip ?_
   refine Runs.seq ?_
   refine Runs.block ?_
   refine Runs.seq ?_
   refine Runs.reg (by simp only [go_sem, seval, outU, xBoxes, ha1, hn1, hw1, ha18, hn18, hw18, hc19]; rfl) (by simp only [long38, go_sem, seval]; rfl) ?_
   obtain ⟨r20, h20, h⟩ := bindX_some h
   have w20 := ih h20
   rcases r20 with ⟨u20, m20⟩ | ⟨c20, z20, m20⟩
   rotate_left
   ·
    try dsimp only [outX, outRow, outU] at w20
    subst h
    dsimp only at g18
    subst g18
    dsimp only at hk18
    subst hk18
    dsimp only at g1
    subst g1
    refine Runs.region_pan (by simp only [go_sem, seval, outU, xBoxes, ha1, hn1, hw1, ha18, hn18, hw18, w20, hc19]; rfl) ?_
    exact finK_pan (by simp only [go_sem, seval, outU, xBoxes, ha1, hn1, hw1, ha18, hn18, hw18, w20, hc19]; try rfl)
   try dsimp only [outX, outRow, outU] at w20
   dsimp only at h
   refine Runs.reg (by simp only [go_sem, seval, outU, xBoxes, ha1, hn1, hw1, ha18, hn18, hw18, w20, hc19]; rfl) (by simp only [long38, go_sem, seval]; rfl) ?_
   refine Runs.reg (by simp only [go_sem, seval, outU, xBoxes, ha1, hn1, hw1, ha18, hn18, hw18, hc19]; rfl) (by simp only [long38, go_sem, seval]; rfl) ?_
   cases h
   dsimp only at g18
   rw [← hd18] at g18
   refine ⟨m18 - 1, by omega, _, _, by simp only [go_sem, seval, outU, xBoxes, ha1, hn1, hw1, ha18, hn18, hw18]; try rfl, i18 + 1, _, _, g18, by omega, rfl, rfl⟩
  try simp only [N3] at hc19
  try simp only [hc19, C5] at h
  have hi18 := of_decide_eq_false hc19
  rw [List.drop_eq_nil_of_le (by omega)] at h
  simp only [foldX, dOpt] at h
  refine Runs.exit ?_
  cases h
  have h := hk18
  try dsimp only at h
  try simp only [hc19, cond_true, cond_false] at h
  refine Runs.reg (by simp only [go_sem, seval, outU, xBoxes, ha1, hn1, hw1, hc19]; rfl) (by simp only [long38, go_sem, seval]; rfl) ?_
  cases h
  dsimp only at g1
  rw [← hd1] at g1
  refine ⟨m1 - 1, by omega, _, _, by simp only [go_sem, seval, outU, xBoxes, ha1, hn1, hw1]; try rfl, i1 + 1, _, _, g1, by omega, rfl, rfl⟩
 try simp only [N3] at hc2
 try simp only [hc2, C5] at h
 have hi1 := of_decide_eq_false hc2
 rw [List.drop_eq_nil_of_le (by omega)] at h
 simp only [foldX, dStmt, dTail, dvB'] at h
 refine Runs.exit ?_
 cases h
 try cases h
 try dsimp only [outU]
 first
 | rfl
 | (exact fkn (res := []) rfl rfl rfl (by simp only [fin1, go_sem, seval, outU, xBoxes, hc2]; try rfl))
theorem D43A {u : Uni} : ∀ {n : Nat} {l : List Stmt} {m : Unit} {r : Xr Unit Unit}, dclX (tellA u) n l m = some r → callW ip 38 [slV stmtD l, .c (.fn 39 [0])] [uBox u] = some (outU (fun _ => [uBox u]) r)
  | 0, _, _, _, h => by cases h
  | n + 1, _, _, _, h => W43A D43A h
theorem D43B {x : Bytes} {a : List (Bytes × Ast)} {d : Int} : ∀ {n : Nat} {l : List Stmt} {m : NM} {r : Xr Unit NM}, dclX (tellB x) n l m = some r → callW ip 38 [slV stmtD l, .c (.fn 69 [0, 1])] (xBoxes x a d m) = some (outU (xBoxes x a d) r)
  | 0, _, _, _, h => by cases h
  | n + 1, _, _, _, h => W43B D43B h
end Go.Proofs.YtmkacifjegnehaaDoor
