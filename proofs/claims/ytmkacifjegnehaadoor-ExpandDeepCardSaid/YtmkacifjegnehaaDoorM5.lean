import Derived.Test.YtmkacifjegnehaaDoorM4
namespace Go.Proofs.YtmkacifjegnehaaDoor
open Go Go.Proofs Go.Proofs.YtmkacifjegnehaaDoor.Ab
set_option linter.unusedSimpArgs false
set_option linter.unusedVariables false
set_option maxRecDepth 10000
set_option maxHeartbeats 8000000
section
variable {call : CallF} {F : Fp} {kA : Nat → Bool} {LL : Nat → Lv} {pl : Plans} {K : Ex → List (Nat × V) → List O → Prop} {e : List (Nat × V)} {H : List O}
theorem Ab.Runs.reg2 {id : Nat} {ops : Array Oper} {e2 : List (Nat × V)} (h : ∃ rs e', runX call F kA ops.toList ops.toList e H = some (.go rs e' H) ∧ endE F.n0 e' H (LL id) = (e2, H)) (k : K .normal e2 H) : Runs call F kA LL pl (.region id ops false) e H K := by
  obtain ⟨rs, e', h1, h2⟩ := h
  exact Runs.reg h1 h2 k
theorem Ab.Runs.drw2 {id : Nat} {ops : Array Oper} {bl nm : List Nat} {segs : List Seg} {e2 : List (Nat × V)} (hp : pl id = some (bl, nm, segs)) (h : ∃ rs e', runD call F kA ops.toList bl none segs e H = some (.go rs e' H) ∧ endE F.n0 e' H (LL id) = (e2, H)) (k : K .normal e2 H) : Runs call F kA LL pl (.region id ops true) e H K := by
  obtain ⟨rs, e', h1, h2⟩ := h
  exact Runs.drw hp h1 h2 k
end
def fuelP (p : PS) : Nat := p.l.length + 2
def namesB (x : PS × List Bytes) : Option ((PS × List Bytes) ⊕ (List Bytes × PS)) := (takeP x.1 [44]).bind fun (b, p) => cond b ((idP p).bind fun (s, p) => (appP x.2 [s]).bind fun l => some (.inl (p, l))) (some (.inr (x.2, p)))
def namesP (p : PS) : Option (List Bytes × PS) := (idP p).bind fun (s, p) => loopO namesB (fuelP p) (p, [s])
def fieldQ (v : DVar) (p : PS) (k : Int) : Option ((PS × DVar) ⊕ (DVar × PS)) := cond (k == 0) ((wrongP p).bind fun p => some (.inr (v, p))) ((appP v.fields [k]).bind fun fs => (takeP (incBy p 1) [44]).bind fun (m, p) => cond m (some (.inl (p, { v with fields := fs }))) ((needP p [125]).bind fun p => some (.inr ({ v with fields := fs }, p))))
def fieldB (x : PS × DVar) : Option ((PS × DVar) ⊕ (DVar × PS)) := cond (okP x.1) ((kindP x.1 0).bind fun k => cond (k == 4) ((getP x.1.l x.1.pos).bind fun t => fieldQ x.2 x.1 (kindOfP t.text)) (fieldQ x.2 x.1 0)) (some (.inr (x.2, x.1)))
def ivar2 (n : Nat) (v : DVar) (p : PS) : Option (DVar × PS) := (takeP p [61]).bind fun (b, p) => cond b ((takeP p [91]).bind fun (c, p) => cond c ((exprP n p 0).bind fun (e, p) => (needP p [93]).bind fun p => (needP p [111, 102]).bind fun p => (needP p [123]).bind fun p => loopO fieldB (fuelP p) (p, { v with chan := true, e := e })) ((exprP n p 0).bind fun (e, p) => some ({ v with init := true, e := e }, p))) (some (v, p))
def ivarP (n : Nat) (p : PS) : Option (DVar × PS) := (idP p).bind fun (s, p) => (takeP p [91]).bind fun (b, p) => cond b ((exprP n p 0).bind fun (z, p) => (needP p [93]).bind fun p => ivar2 n { dvar0 with name := s, array := true, size := z } p) (ivar2 n { dvar0 with name := s } p)
def declB (n : Nat) (x : PS × Decl) : Option ((PS × Decl) ⊕ (Decl × PS)) := (takeP x.1 [44]).bind fun (b, p) => cond b ((ivarP n p).bind fun (v, p) => (appP x.2.vars [v]).bind fun vs => some (.inl (p, { x.2 with vars := vs }))) (some (.inr (x.2, p)))
def declVP (n : Nat) (p : PS) (d : Decl) : Option (Decl × PS) := (ivarP n p).bind fun (v, p) => loopO (declB n) (fuelP p) (p, { d with vars := [v] })
def declK (n : Nat) (p : PS) (at_ k : Int) : Option (Decl × PS) := cond (decide (0 < k)) (declVP n (incBy p 1) { decl0 with type := k, pos := at_ }) ((kindP p 0).bind fun k => cond (k == 1) ((idP p).bind fun (s, p) => declVP n p { decl0 with type := -1, named := s, pos := at_ }) ((wrongP p).bind fun p => some ({ decl0 with pos := at_ }, p)))
def declP (n : Nat) (p : PS) : Option (Decl × PS) := (placeP p).bind fun at_ => (kindP p 0).bind fun k => cond (k == 4) ((getP p.l p.pos).bind fun t => declK n p at_ (kindOfP t.text)) (declK n p at_ 0)
def semiB (x : PS × Bool) : Option ((PS × Bool) ⊕ (Bool × PS)) := (takeP x.1 [59]).bind fun (b, p) => cond b (some (.inl (p, true))) (some (.inr (x.2, p)))
def declsB (n : Nat) (end_ : Bytes) (x : PS × List Decl) : Option ((PS × List Decl) ⊕ (List Decl × PS)) := cond (okP x.1) ((declP n x.1).bind fun (d, p) => (appP x.2 [d]).bind fun l => (loopO semiB (fuelP p) (p, false)).bind fun (s, p) => cond s ((seesP p 0 end_).bind fun b => cond b (some (.inr (l, p))) (some (.inl (p, l)))) (some (.inr (l, p)))) (some (.inr (x.2, x.1)))
def declsP (n : Nat) (p : PS) (end_ : Bytes) : Option (List Decl × PS) := loopO (declsB n end_) (fuelP p) (p, [])
def declaresP (p : PS) : Option Bool := (kindP p 0).bind fun k => cond (k == 4) ((getP p.l p.pos).bind fun t => some (decide (0 < kindOfP t.text))) ((kindP p 0).bind fun k => cond (k == 1) ((kindP p 1).bind fun k => some (k == 1)) (some false))

theorem W29 {p q : PS} {l : List Bytes} (h : namesP p = some (l, q)) : callW ip 24 [pV] [pBox p] = some (.ret [slV strD l], [pBox q]) := by
  simp only [namesP, wadd, wsub, incBy] at h
  refine callW_runs (fn := Tryd.f24) (L := long24) (nt := 15) (n0 := 1) (T := tab) (rw' := [6]) (kA := keepA) Tryd.func24 rfl rfl rfl rfl rfl rfl rfl rfl rfl ?_
  refine Runs.seq ?_
  refine Runs.reg (by simp only [go_sem, seval]; rfl) (by simp only [long24, go_sem, seval]; rfl) ?_
  refine Runs.seq ?_
  obtain ⟨⟨s1, q1⟩, h1, h⟩ := some_bind h
  have w1 := W30 _ _ _ h1
  try dsimp only at h
  refine Runs.reg (by simp only [go_sem, seval, w1]; rfl) (by simp only [long24, go_sem, seval]; rfl) ?_
  refine Runs.seq ?_
  refine Runs.block ?_
  refine Runs.loop_rel (fun mz_ en hp => ∃ (x : PS × List Bytes), loopO namesB mz_ x = some (l, q) ∧ en = [(0, pV), (3, .c (.row 1))] ∧ hp = [.box [.d (.str x.1.s), .d (.sl (x.1.l.map tokD)), .d (.int .i64 x.1.pos), .d (.int .i64 x.1.code), .d (.int .i64 x.1.mat)], .row 9 1 x.2.length (rowC strD x.2)]) ?_ ⟨_, h, (by first | rfl | (simp only [go_sem, seval]; done) | (simp only [go_sem, seval]; rfl)), (by first | rfl | (simp only [go_sem, seval]; done) | (simp only [go_sem, seval]; rfl))⟩
  clear h
  rintro m2 en hp ⟨⟨p1, l1⟩, h, rfl, rfl⟩
  obtain _ | m2 := m2
  · cases h
  simp only [loopO, namesB] at h
  obtain ⟨r2, h, g2⟩ := some_bind h
  refine Runs.seq ?_
  refine Runs.seq ?_
  obtain ⟨⟨b3, q3⟩, h3, h⟩ := some_bind h
  have w3 := W12 _ _ _ _ h3
  try dsimp only at h
  refine Runs.reg (by simp only [go_sem, seval, w3]; rfl) (by simp only [long24, go_sem, seval]; rfl) ?_
  refine Runs.cond (t := 8) rfl (fun hc4 => ?_) (fun hc4 => ?_)
  · skip
    try simp only [N3] at hc4
    try simp only [hc4, C5] at h
    refine Runs.skip ?_
    refine Runs.block ?_
    obtain ⟨⟨s5, q5⟩, h5, h⟩ := some_bind h
    have w5 := W30 _ _ _ h5
    try dsimp only at h
    obtain ⟨y6, h6, h⟩ := some_bind h
    obtain ⟨le6, rfl⟩ := appP_some h6
    try simp only [List.length_set, List.length_map, List.length_append, List.length_cons, List.length_nil, seval] at le6
    try dsimp only at h
    refine Runs.reg (by simp only [go_sem, seval, w5, le6, hc4]; rfl) (by simp only [long24, go_sem, seval]; rfl) ?_
    cases h
    refine ⟨m2, Nat.lt_succ_self _, _, _, by simp only [go_sem, seval]; try rfl, _, g2, rfl, rfl⟩
  try simp only [N3] at hc4
  try simp only [hc4, C5] at h
  refine Runs.exit ?_
  cases h
  cases g2
  refine Runs.seq ?_
  refine Runs.reg (by simp only [go_sem, seval, hc4]; rfl) (by simp only [long24, go_sem, seval]; rfl) ?_
  refine Runs.ret ?_
  try cases h
  try dsimp only [outX]
  first
  | rfl
  | (exact fk (res := [.tmp 2]) rfl rfl rfl (by simp only [fin1, go_sem, seval, hc4]; try rfl))
theorem W60 {n : Nat} (ih : ExprIH n) {p q : PS} {v : DVar} (h : ivarP n p = some (v, q)) : callW ip 52 [pV] [pBox p] = some (.ret [dvarV v], [pBox q]) := by
  simp only [ivarP, ivar2, dvar0, ast0, ref0, wadd, wsub, incBy] at h
  refine callW_runs (fn := Tryd.f52) (L := long52) (nt := 88) (n0 := 1) (T := tab) (rw' := []) (kA := keepA) Tryd.func52 rfl rfl rfl rfl rfl rfl rfl rfl rfl ?_
  refine Runs.seq ?_
  refine Runs.reg (by simp only [go_sem, seval]; rfl) (by simp only [long52, go_sem, seval]; rfl) ?_
  refine Runs.seq ?_
  obtain ⟨⟨s1, q1⟩, h1, h⟩ := some_bind h
  have w1 := W30 _ _ _ h1
  try dsimp only at h
  refine Runs.reg (by simp only [go_sem, seval, w1]; rfl) (by simp only [long52, go_sem, seval]; rfl) ?_
  refine Runs.seq ?_
  obtain ⟨⟨b2, q2⟩, h2, h⟩ := some_bind h
  have w2 := W12 _ _ _ _ h2
  try dsimp only at h
  refine Runs.reg (by simp only [go_sem, seval, w2]; rfl) (by simp only [long52, go_sem, seval]; rfl) ?_
  refine Runs.seq ?_
  refine Runs.seq ?_
  refine Runs.reg (by simp only [go_sem, seval]; rfl) (by simp only [long52, go_sem, seval]; rfl) ?_
  refine Runs.cond (t := 14) rfl (fun hc3 => ?_) (fun hc3 => ?_)
  · skip
    try simp only [N3] at hc3
    try simp only [hc3, C5] at h
    refine Runs.seq ?_
    obtain ⟨⟨e4, q4⟩, h4, h⟩ := some_bind h
    have w4 := ih.e57 h4
    try dsimp only at h
    refine Runs.reg (by simp only [go_sem, seval, w4, hc3]; rfl) (by simp only [long52, go_sem, seval]; rfl) ?_
    obtain ⟨q5, h5, h⟩ := some_bind h
    have w5 := W28 _ _ _ h5
    try dsimp only at h
    refine Runs.reg (by simp only [go_sem, seval, w5, hc3]; rfl) (by simp only [long52, go_sem, seval]; rfl) ?_
    refine Runs.seq ?_
    obtain ⟨⟨b6, q6⟩, h6, h⟩ := some_bind h
    have w6 := W12 _ _ _ _ h6
    try dsimp only at h
    refine Runs.reg (by simp only [go_sem, seval, w6, hc3]; rfl) (by simp only [long52, go_sem, seval]; rfl) ?_
    refine Runs.seq ?_
    refine Runs.seq ?_
    refine Runs.reg (by simp only [go_sem, seval, hc3]; rfl) (by simp only [long52, go_sem, seval]; rfl) ?_
    refine Runs.cond (t := 23) rfl (fun hc7 => ?_) (fun hc7 => ?_)
    · skip
      try simp only [N3] at hc7
      try simp only [hc7, C5] at h
      refine Runs.seq ?_
      refine Runs.reg (by simp only [go_sem, seval, hc3, hc7]; rfl) (by simp only [long52, go_sem, seval]; rfl) ?_
      refine Runs.ret ?_
      try cases h
      try dsimp only [outX]
      first
      | rfl
      | (exact fk (res := [.cell 2 54]) rfl rfl rfl (by simp only [fin1, go_sem, seval, hc3, hc7]; try rfl))
    try simp only [N3] at hc7
    try simp only [hc7, C5] at h
    refine Runs.skip ?_
    refine Runs.seq ?_
    obtain ⟨⟨b8, q8⟩, h8, h⟩ := some_bind h
    have w8 := W12 _ _ _ _ h8
    try dsimp only at h
    refine Runs.reg (by simp only [go_sem, seval, w8, hc3, hc7]; rfl) (by simp only [long52, go_sem, seval]; rfl) ?_
    refine Runs.seq ?_
    refine Runs.seq ?_
    refine Runs.reg (by simp only [go_sem, seval, hc3, hc7]; rfl) (by simp only [long52, go_sem, seval]; rfl) ?_
    refine Runs.cond (t := 30) rfl (fun hc9 => ?_) (fun hc9 => ?_)
    · skip
      try simp only [N3] at hc9
      try simp only [hc9, C5] at h
      refine Runs.seq ?_
      refine Runs.reg (by simp only [go_sem, seval, hc3, hc7, hc9]; rfl) (by simp only [long52, go_sem, seval]; rfl) ?_
      refine Runs.seq ?_
      obtain ⟨⟨e10, q10⟩, h10, h⟩ := some_bind h
      have w10 := ih.e57 h10
      try dsimp only at h
      refine Runs.reg (by simp only [go_sem, seval, w10, hc3, hc7, hc9]; rfl) (by simp only [long52, go_sem, seval]; rfl) ?_
      refine Runs.seq ?_
      refine Runs.reg (by simp only [go_sem, seval, hc3, hc7, hc9]; rfl) (by simp only [long52, go_sem, seval]; rfl) ?_
      refine Runs.ret ?_
      try cases h
      try dsimp only [outX]
      first
      | rfl
      | (exact fk (res := [.cell 2 54]) rfl rfl rfl (by simp only [fin1, go_sem, seval, hc3, hc7, hc9]; try rfl))
    try simp only [N3] at hc9
    try simp only [hc9, C5] at h
    refine Runs.skip ?_
    refine Runs.seq ?_
    obtain ⟨⟨e11, q11⟩, h11, h⟩ := some_bind h
    have w11 := ih.e57 h11
    try dsimp only at h
    refine Runs.reg (by simp only [go_sem, seval, w11, hc3, hc7, hc9]; rfl) (by simp only [long52, go_sem, seval]; rfl) ?_
    refine Runs.seq ?_
    obtain ⟨q12, h12, h⟩ := some_bind h
    have w12 := W28 _ _ _ h12
    try dsimp only at h
    refine Runs.reg (by simp only [go_sem, seval, w12, hc3, hc7, hc9]; rfl) (by simp only [long52, go_sem, seval]; rfl) ?_
    refine Runs.seq ?_
    obtain ⟨q13, h13, h⟩ := some_bind h
    have w13 := W28 _ _ _ h13
    try dsimp only at h
    refine Runs.reg (by simp only [go_sem, seval, w13, hc3, hc7, hc9]; rfl) (by simp only [long52, go_sem, seval]; rfl) ?_
    refine Runs.seq ?_
    obtain ⟨q14, h14, h⟩ := some_bind h
    have w14 := W28 _ _ _ h14
    try dsimp only at h
    refine Runs.reg (by simp only [go_sem, seval, w14, hc3, hc7, hc9]; rfl) (by simp only [long52, go_sem, seval]; rfl) ?_
    refine Runs.seq ?_
    refine Runs.block ?_
    refine Runs.loop_rel (fun mz_ en hp => ∃ (x : PS × DVar), loopO fieldB mz_ x = some (v, q) ∧ en = [(0, pV), (2, .c (.ptr 1 0)), (3, .c (.ptr 2 0))] ∧ hp = [.box [.d (.str x.1.s), .d (.sl (x.1.l.map tokD)), .d (.int .i64 x.1.pos), .d (.int .i64 x.1.code), .d (.int .i64 x.1.mat)], .box [.d (.str []), .d (.bo false), .d (.int .i64 0), .d (.int .i64 0), .d (.str []), .d (.str []), .nilS, .nilS, .nilS, .nilS, .nilS, .d (.bo false), .d (.int .i64 0), .d (.int .i64 0), .d (.str []), .d (.str []), .nilS, .nilS, .nilS, .nilS, .nilS, .d (.bo false), .nilS], .box [.d (.str x.2.name), .d (.bo x.2.array), .d (.int .i64 x.2.size.kind), .d (.int .i64 x.2.size.n), .d (.str x.2.size.name), .d (.str x.2.size.label), .d (.sl (x.2.size.ref.names.map strD)), .d (.sl (x.2.size.ref.index.map astD)), .d (.sl (x.2.size.ref.has.map boD)), .d (.sl (x.2.size.kids.map astD)), .d (.sl (x.2.size.args.map argD)), .d (.bo x.2.init), .d (.int .i64 x.2.e.kind), .d (.int .i64 x.2.e.n), .d (.str x.2.e.name), .d (.str x.2.e.label), .d (.sl (x.2.e.ref.names.map strD)), .d (.sl (x.2.e.ref.index.map astD)), .d (.sl (x.2.e.ref.has.map boD)), .d (.sl (x.2.e.kids.map astD)), .d (.sl (x.2.e.args.map argD)), .d (.bo x.2.chan), .row 3], .row 3 1 x.2.fields.length (rowC intD x.2.fields)]) ?_ ⟨_, h, (by first | rfl | (simp only [go_sem, seval]; done) | (simp only [go_sem, seval]; rfl)), (by first | rfl | (simp only [go_sem, seval]; done) | (simp only [go_sem, seval]; rfl))⟩
    clear h
    rintro m15 en hp ⟨⟨p1, v1⟩, h, rfl, rfl⟩
    obtain _ | m15 := m15
    · cases h
    simp only [loopO, fieldB, fieldQ, wadd, wsub, incBy] at h
    obtain ⟨r15, h, g15⟩ := some_bind h
    refine Runs.seq ?_
    refine Runs.seq ?_
    refine Runs.reg (by simp only [go_sem, seval, W11]; rfl) (by simp only [long52, go_sem, seval]; rfl) ?_
    refine Runs.cond (t := 46) rfl (fun hc16 => ?_) (fun hc16 => ?_)
    · skip
      try simp only [N3] at hc16
      try simp only [hc16, C5] at h
      refine Runs.skip ?_
      refine Runs.block ?_
      refine Runs.seq ?_
      refine Runs.reg (by simp only [go_sem, seval, hc16]; rfl) (by simp only [long52, go_sem, seval]; rfl) ?_
      refine Runs.seq ?_
      refine Runs.seq ?_
      obtain ⟨k17, h17, h⟩ := some_bind h
      have w17 := W55 _ _ _ h17
      try dsimp only at h
      refine Runs.reg (by simp only [go_sem, seval, w17, hc16]; rfl) (by simp only [long52, go_sem, seval]; rfl) ?_
      refine Runs.cond (t := 49) rfl (fun hc18 => ?_) (fun hc18 => ?_)
      · skip
        try simp only [N3] at hc18
        try simp only [hc18, C5] at h
        obtain ⟨x19, h19, h⟩ := some_bind h
        obtain ⟨ge19, at19⟩ := getP_some h19
        try dsimp only at h
        refine Runs.drw rfl (by simp only [go_sem, seval, ge19, at19, T59, hc16, hc18]; rfl) (by simp only [long52, go_sem, seval]; rfl) ?_
        refine Runs.seq ?_
        refine Runs.seq ?_
        refine Runs.reg (by simp only [go_sem, seval, ge19, at19, T59, hc16, hc18]; rfl) (by simp only [long52, go_sem, seval]; rfl) ?_
        refine Runs.cond (t := 63) rfl (fun hc20 => ?_) (fun hc20 => ?_)
        · first
          | exact absurd hc20 (by decide)
          | exact absurd hc20 (by simp only [hc16, hc18]; decide)
          | skip
            try simp only [N3] at hc20
            try simp only [hc20, C5] at h
            refine Runs.seq ?_
            obtain ⟨q21, h21, h⟩ := some_bind h
            have w21 := W56 _ _ h21
            try dsimp only at h
            refine Runs.reg (by simp only [go_sem, seval, ge19, at19, T59, w21, hc16, hc18, hc20]; rfl) (by simp only [long52, go_sem, seval]; rfl) ?_
            refine Runs.seq ?_
            refine Runs.reg (by simp only [go_sem, seval, ge19, at19, T59, hc16, hc18, hc20]; rfl) (by simp only [long52, go_sem, seval]; rfl) ?_
            refine Runs.ret ?_
            cases h
            cases g15
            try cases h
            try dsimp only [outX]
            first
            | rfl
            | (exact fk (res := [.cell 2 54]) rfl rfl rfl (by simp only [fin1, go_sem, seval, ge19, at19, T59, hc16, hc18, hc20]; try rfl))
        · first
          | exact absurd hc20 (by decide)
          | exact absurd hc20 (by simp only [hc16, hc18]; decide)
          | skip
            try simp only [N3] at hc20
            try simp only [hc20, C5] at h
            refine Runs.skip ?_
            refine Runs.seq ?_
            obtain ⟨y22, h22, h⟩ := some_bind h
            obtain ⟨le22, rfl⟩ := appP_some h22
            try simp only [List.length_set, List.length_map, List.length_append, List.length_cons, List.length_nil, seval] at le22
            try dsimp only at h
            refine Runs.reg (by simp only [go_sem, seval, ge19, at19, T59, le22, hc16, hc18, hc20]; rfl) (by simp only [long52, go_sem, seval]; rfl) ?_
            refine Runs.seq ?_
            refine Runs.reg (by simp only [go_sem, seval, ge19, at19, T59, hc16, hc18, hc20]; rfl) (by simp only [long52, go_sem, seval]; rfl) ?_
            refine Runs.seq ?_
            obtain ⟨⟨b23, q23⟩, h23, h⟩ := some_bind h
            have w23 := W12 _ _ _ _ h23
            try dsimp only at h
            refine Runs.reg (by simp only [go_sem, seval, ge19, at19, T59, w23, hc16, hc18, hc20]; rfl) (by simp only [long52, go_sem, seval]; rfl) ?_
            refine Runs.seq ?_
            refine Runs.reg (by simp only [go_sem, seval, ge19, at19, T59, hc16, hc18, hc20]; rfl) (by simp only [long52, go_sem, seval]; rfl) ?_
            refine Runs.cond (t := 83) rfl (fun hc24 => ?_) (fun hc24 => ?_)
            · skip
              try simp only [N3] at hc24
              try simp only [hc24, C5] at h
              refine Runs.seq ?_
              obtain ⟨q25, h25, h⟩ := some_bind h
              have w25 := W28 _ _ _ h25
              try dsimp only at h
              refine Runs.reg (by simp only [go_sem, seval, ge19, at19, T59, w25, hc16, hc18, hc20, hc24]; rfl) (by simp only [long52, go_sem, seval]; rfl) ?_
              refine Runs.seq ?_
              refine Runs.reg (by simp only [go_sem, seval, ge19, at19, T59, hc16, hc18, hc20, hc24]; rfl) (by simp only [long52, go_sem, seval]; rfl) ?_
              refine Runs.ret ?_
              cases h
              cases g15
              try cases h
              try dsimp only [outX]
              first
              | rfl
              | (exact fk (res := [.cell 2 54]) rfl rfl rfl (by simp only [fin1, go_sem, seval, ge19, at19, T59, hc16, hc18, hc20, hc24]; try rfl))
            try simp only [N3] at hc24
            try simp only [hc24, C5] at h
            refine Runs.skip ?_
            cases h
            refine ⟨m15, Nat.lt_succ_self _, _, _, by simp only [go_sem, seval, ge19, at19, T59]; try rfl, _, g15, rfl, rfl⟩
      try simp only [N3] at hc18
      try simp only [hc18, C5] at h
      refine Runs.skip ?_
      refine Runs.seq ?_
      refine Runs.seq ?_
      refine Runs.reg (by simp only [go_sem, seval, hc16, hc18]; rfl) (by simp only [long52, go_sem, seval]; rfl) ?_
      refine Runs.cond (t := 63) rfl (fun hc26 => ?_) (fun hc26 => ?_)
      · first
        | exact absurd hc26 (by decide)
        | exact absurd hc26 (by simp only [hc16, hc18]; decide)
        | skip
          try simp only [N3] at hc26
          try simp only [hc26, C5] at h
          refine Runs.seq ?_
          obtain ⟨q27, h27, h⟩ := some_bind h
          have w27 := W56 _ _ h27
          try dsimp only at h
          refine Runs.reg (by simp only [go_sem, seval, w27, hc16, hc18, hc26]; rfl) (by simp only [long52, go_sem, seval]; rfl) ?_
          refine Runs.seq ?_
          refine Runs.reg (by simp only [go_sem, seval, hc16, hc18, hc26]; rfl) (by simp only [long52, go_sem, seval]; rfl) ?_
          refine Runs.ret ?_
          cases h
          cases g15
          try cases h
          try dsimp only [outX]
          first
          | rfl
          | (exact fk (res := [.cell 2 54]) rfl rfl rfl (by simp only [fin1, go_sem, seval, hc16, hc18, hc26]; try rfl))
      · first
        | exact absurd hc26 (by decide)
        | exact absurd hc26 (by simp only [hc16, hc18]; decide)
        | skip
          try simp only [N3] at hc26
          try simp only [hc26, C5] at h
          refine Runs.skip ?_
          refine Runs.seq ?_
          obtain ⟨y28, h28, h⟩ := some_bind h
          obtain ⟨le28, rfl⟩ := appP_some h28
          try simp only [List.length_set, List.length_map, List.length_append, List.length_cons, List.length_nil, seval] at le28
          try dsimp only at h
          refine Runs.reg (by simp only [go_sem, seval, le28, hc16, hc18, hc26]; rfl) (by simp only [long52, go_sem, seval]; rfl) ?_
          refine Runs.seq ?_
          refine Runs.reg (by simp only [go_sem, seval, hc16, hc18, hc26]; rfl) (by simp only [long52, go_sem, seval]; rfl) ?_
          refine Runs.seq ?_
          obtain ⟨⟨b29, q29⟩, h29, h⟩ := some_bind h
          have w29 := W12 _ _ _ _ h29
          try dsimp only at h
          refine Runs.reg (by simp only [go_sem, seval, w29, hc16, hc18, hc26]; rfl) (by simp only [long52, go_sem, seval]; rfl) ?_
          refine Runs.seq ?_
          refine Runs.reg (by simp only [go_sem, seval, hc16, hc18, hc26]; rfl) (by simp only [long52, go_sem, seval]; rfl) ?_
          refine Runs.cond (t := 83) rfl (fun hc30 => ?_) (fun hc30 => ?_)
          · skip
            try simp only [N3] at hc30
            try simp only [hc30, C5] at h
            refine Runs.seq ?_
            obtain ⟨q31, h31, h⟩ := some_bind h
            have w31 := W28 _ _ _ h31
            try dsimp only at h
            refine Runs.reg (by simp only [go_sem, seval, w31, hc16, hc18, hc26, hc30]; rfl) (by simp only [long52, go_sem, seval]; rfl) ?_
            refine Runs.seq ?_
            refine Runs.reg (by simp only [go_sem, seval, hc16, hc18, hc26, hc30]; rfl) (by simp only [long52, go_sem, seval]; rfl) ?_
            refine Runs.ret ?_
            cases h
            cases g15
            try cases h
            try dsimp only [outX]
            first
            | rfl
            | (exact fk (res := [.cell 2 54]) rfl rfl rfl (by simp only [fin1, go_sem, seval, hc16, hc18, hc26, hc30]; try rfl))
          try simp only [N3] at hc30
          try simp only [hc30, C5] at h
          refine Runs.skip ?_
          cases h
          refine ⟨m15, Nat.lt_succ_self _, _, _, by simp only [go_sem, seval]; try rfl, _, g15, rfl, rfl⟩
    try simp only [N3] at hc16
    try simp only [hc16, C5] at h
    refine Runs.exit ?_
    cases h
    cases g15
    refine Runs.seq ?_
    refine Runs.reg (by simp only [go_sem, seval, hc16]; rfl) (by simp only [long52, go_sem, seval]; rfl) ?_
    refine Runs.ret ?_
    try cases h
    try dsimp only [outX]
    first
    | rfl
    | (exact fk (res := [.cell 2 54]) rfl rfl rfl (by simp only [fin1, go_sem, seval, hc16]; try rfl))
  try simp only [N3] at hc3
  try simp only [hc3, C5] at h
  refine Runs.skip ?_
  refine Runs.seq ?_
  obtain ⟨⟨b32, q32⟩, h32, h⟩ := some_bind h
  have w32 := W12 _ _ _ _ h32
  try dsimp only at h
  refine Runs.reg (by simp only [go_sem, seval, w32, hc3]; rfl) (by simp only [long52, go_sem, seval]; rfl) ?_
  refine Runs.seq ?_
  refine Runs.seq ?_
  refine Runs.reg (by simp only [go_sem, seval, hc3]; rfl) (by simp only [long52, go_sem, seval]; rfl) ?_
  refine Runs.cond (t := 23) rfl (fun hc33 => ?_) (fun hc33 => ?_)
  · skip
    try simp only [N3] at hc33
    try simp only [hc33, C5] at h
    refine Runs.seq ?_
    refine Runs.reg (by simp only [go_sem, seval, hc3, hc33]; rfl) (by simp only [long52, go_sem, seval]; rfl) ?_
    refine Runs.ret ?_
    try cases h
    try dsimp only [outX]
    first
    | rfl
    | (exact fk (res := [.cell 2 54]) rfl rfl rfl (by simp only [fin1, go_sem, seval, hc3, hc33]; try rfl))
  try simp only [N3] at hc33
  try simp only [hc33, C5] at h
  refine Runs.skip ?_
  refine Runs.seq ?_
  obtain ⟨⟨b34, q34⟩, h34, h⟩ := some_bind h
  have w34 := W12 _ _ _ _ h34
  try dsimp only at h
  refine Runs.reg (by simp only [go_sem, seval, w34, hc3, hc33]; rfl) (by simp only [long52, go_sem, seval]; rfl) ?_
  refine Runs.seq ?_
  refine Runs.seq ?_
  refine Runs.reg (by simp only [go_sem, seval, hc3, hc33]; rfl) (by simp only [long52, go_sem, seval]; rfl) ?_
  refine Runs.cond (t := 30) rfl (fun hc35 => ?_) (fun hc35 => ?_)
  · skip
    try simp only [N3] at hc35
    try simp only [hc35, C5] at h
    refine Runs.seq ?_
    refine Runs.reg (by simp only [go_sem, seval, hc3, hc33, hc35]; rfl) (by simp only [long52, go_sem, seval]; rfl) ?_
    refine Runs.seq ?_
    obtain ⟨⟨e36, q36⟩, h36, h⟩ := some_bind h
    have w36 := ih.e57 h36
    try dsimp only at h
    refine Runs.reg (by simp only [go_sem, seval, w36, hc3, hc33, hc35]; rfl) (by simp only [long52, go_sem, seval]; rfl) ?_
    refine Runs.seq ?_
    refine Runs.reg (by simp only [go_sem, seval, hc3, hc33, hc35]; rfl) (by simp only [long52, go_sem, seval]; rfl) ?_
    refine Runs.ret ?_
    try cases h
    try dsimp only [outX]
    first
    | rfl
    | (exact fk (res := [.cell 2 54]) rfl rfl rfl (by simp only [fin1, go_sem, seval, hc3, hc33, hc35]; try rfl))
  try simp only [N3] at hc35
  try simp only [hc35, C5] at h
  refine Runs.skip ?_
  refine Runs.seq ?_
  obtain ⟨⟨e37, q37⟩, h37, h⟩ := some_bind h
  have w37 := ih.e57 h37
  try dsimp only at h
  refine Runs.reg (by simp only [go_sem, seval, w37, hc3, hc33, hc35]; rfl) (by simp only [long52, go_sem, seval]; rfl) ?_
  refine Runs.seq ?_
  obtain ⟨q38, h38, h⟩ := some_bind h
  have w38 := W28 _ _ _ h38
  try dsimp only at h
  refine Runs.reg (by simp only [go_sem, seval, w38, hc3, hc33, hc35]; rfl) (by simp only [long52, go_sem, seval]; rfl) ?_
  refine Runs.seq ?_
  obtain ⟨q39, h39, h⟩ := some_bind h
  have w39 := W28 _ _ _ h39
  try dsimp only at h
  refine Runs.reg (by simp only [go_sem, seval, w39, hc3, hc33, hc35]; rfl) (by simp only [long52, go_sem, seval]; rfl) ?_
  refine Runs.seq ?_
  obtain ⟨q40, h40, h⟩ := some_bind h
  have w40 := W28 _ _ _ h40
  try dsimp only at h
  refine Runs.reg (by simp only [go_sem, seval, w40, hc3, hc33, hc35]; rfl) (by simp only [long52, go_sem, seval]; rfl) ?_
  refine Runs.seq ?_
  refine Runs.block ?_
  refine Runs.loop_rel (fun mz_ en hp => ∃ (x : PS × DVar), loopO fieldB mz_ x = some (v, q) ∧ en = [(0, pV), (2, .c (.ptr 1 0)), (3, .c (.ptr 2 0))] ∧ hp = [.box [.d (.str x.1.s), .d (.sl (x.1.l.map tokD)), .d (.int .i64 x.1.pos), .d (.int .i64 x.1.code), .d (.int .i64 x.1.mat)], .box [.d (.str []), .d (.bo false), .d (.int .i64 0), .d (.int .i64 0), .d (.str []), .d (.str []), .nilS, .nilS, .nilS, .nilS, .nilS, .d (.bo false), .d (.int .i64 0), .d (.int .i64 0), .d (.str []), .d (.str []), .nilS, .nilS, .nilS, .nilS, .nilS, .d (.bo false), .nilS], .box [.d (.str x.2.name), .d (.bo x.2.array), .d (.int .i64 x.2.size.kind), .d (.int .i64 x.2.size.n), .d (.str x.2.size.name), .d (.str x.2.size.label), .d (.sl (x.2.size.ref.names.map strD)), .d (.sl (x.2.size.ref.index.map astD)), .d (.sl (x.2.size.ref.has.map boD)), .d (.sl (x.2.size.kids.map astD)), .d (.sl (x.2.size.args.map argD)), .d (.bo x.2.init), .d (.int .i64 x.2.e.kind), .d (.int .i64 x.2.e.n), .d (.str x.2.e.name), .d (.str x.2.e.label), .d (.sl (x.2.e.ref.names.map strD)), .d (.sl (x.2.e.ref.index.map astD)), .d (.sl (x.2.e.ref.has.map boD)), .d (.sl (x.2.e.kids.map astD)), .d (.sl (x.2.e.args.map argD)), .d (.bo x.2.chan), .row 3], .row 3 1 x.2.fields.length (rowC intD x.2.fields)]) ?_ ⟨_, h, (by first | rfl | (simp only [go_sem, seval]; done) | (simp only [go_sem, seval]; rfl)), (by first | rfl | (simp only [go_sem, seval]; done) | (simp only [go_sem, seval]; rfl))⟩
  clear h
  rintro m41 en hp ⟨⟨p1, v1⟩, h, rfl, rfl⟩
  obtain _ | m41 := m41
  · cases h
  simp only [loopO, fieldB, fieldQ, wadd, wsub, incBy] at h
  obtain ⟨r41, h, g41⟩ := some_bind h
  refine Runs.seq ?_
  refine Runs.seq ?_
  refine Runs.reg (by simp only [go_sem, seval, W11]; rfl) (by simp only [long52, go_sem, seval]; rfl) ?_
  refine Runs.cond (t := 46) rfl (fun hc42 => ?_) (fun hc42 => ?_)
  · skip
    try simp only [N3] at hc42
    try simp only [hc42, C5] at h
    refine Runs.skip ?_
    refine Runs.block ?_
    refine Runs.seq ?_
    refine Runs.reg (by simp only [go_sem, seval, hc42]; rfl) (by simp only [long52, go_sem, seval]; rfl) ?_
    refine Runs.seq ?_
    refine Runs.seq ?_
    obtain ⟨k43, h43, h⟩ := some_bind h
    have w43 := W55 _ _ _ h43
    try dsimp only at h
    refine Runs.reg (by simp only [go_sem, seval, w43, hc42]; rfl) (by simp only [long52, go_sem, seval]; rfl) ?_
    refine Runs.cond (t := 49) rfl (fun hc44 => ?_) (fun hc44 => ?_)
    · skip
      try simp only [N3] at hc44
      try simp only [hc44, C5] at h
      obtain ⟨x45, h45, h⟩ := some_bind h
      obtain ⟨ge45, at45⟩ := getP_some h45
      try dsimp only at h
      refine Runs.drw rfl (by simp only [go_sem, seval, ge45, at45, T59, hc42, hc44]; rfl) (by simp only [long52, go_sem, seval]; rfl) ?_
      refine Runs.seq ?_
      refine Runs.seq ?_
      refine Runs.reg (by simp only [go_sem, seval, ge45, at45, T59, hc42, hc44]; rfl) (by simp only [long52, go_sem, seval]; rfl) ?_
      refine Runs.cond (t := 63) rfl (fun hc46 => ?_) (fun hc46 => ?_)
      · first
        | exact absurd hc46 (by decide)
        | exact absurd hc46 (by simp only [hc42, hc44]; decide)
        | skip
          try simp only [N3] at hc46
          try simp only [hc46, C5] at h
          refine Runs.seq ?_
          obtain ⟨q47, h47, h⟩ := some_bind h
          have w47 := W56 _ _ h47
          try dsimp only at h
          refine Runs.reg (by simp only [go_sem, seval, ge45, at45, T59, w47, hc42, hc44, hc46]; rfl) (by simp only [long52, go_sem, seval]; rfl) ?_
          refine Runs.seq ?_
          refine Runs.reg (by simp only [go_sem, seval, ge45, at45, T59, hc42, hc44, hc46]; rfl) (by simp only [long52, go_sem, seval]; rfl) ?_
          refine Runs.ret ?_
          cases h
          cases g41
          try cases h
          try dsimp only [outX]
          first
          | rfl
          | (exact fk (res := [.cell 2 54]) rfl rfl rfl (by simp only [fin1, go_sem, seval, ge45, at45, T59, hc42, hc44, hc46]; try rfl))
      · first
        | exact absurd hc46 (by decide)
        | exact absurd hc46 (by simp only [hc42, hc44]; decide)
        | skip
          try simp only [N3] at hc46
          try simp only [hc46, C5] at h
          refine Runs.skip ?_
          refine Runs.seq ?_
          obtain ⟨y48, h48, h⟩ := some_bind h
          obtain ⟨le48, rfl⟩ := appP_some h48
          try simp only [List.length_set, List.length_map, List.length_append, List.length_cons, List.length_nil, seval] at le48
          try dsimp only at h
          refine Runs.reg (by simp only [go_sem, seval, ge45, at45, T59, le48, hc42, hc44, hc46]; rfl) (by simp only [long52, go_sem, seval]; rfl) ?_
          refine Runs.seq ?_
          refine Runs.reg (by simp only [go_sem, seval, ge45, at45, T59, hc42, hc44, hc46]; rfl) (by simp only [long52, go_sem, seval]; rfl) ?_
          refine Runs.seq ?_
          obtain ⟨⟨b49, q49⟩, h49, h⟩ := some_bind h
          have w49 := W12 _ _ _ _ h49
          try dsimp only at h
          refine Runs.reg (by simp only [go_sem, seval, ge45, at45, T59, w49, hc42, hc44, hc46]; rfl) (by simp only [long52, go_sem, seval]; rfl) ?_
          refine Runs.seq ?_
          refine Runs.reg (by simp only [go_sem, seval, ge45, at45, T59, hc42, hc44, hc46]; rfl) (by simp only [long52, go_sem, seval]; rfl) ?_
          refine Runs.cond (t := 83) rfl (fun hc50 => ?_) (fun hc50 => ?_)
          · skip
            try simp only [N3] at hc50
            try simp only [hc50, C5] at h
            refine Runs.seq ?_
            obtain ⟨q51, h51, h⟩ := some_bind h
            have w51 := W28 _ _ _ h51
            try dsimp only at h
            refine Runs.reg (by simp only [go_sem, seval, ge45, at45, T59, w51, hc42, hc44, hc46, hc50]; rfl) (by simp only [long52, go_sem, seval]; rfl) ?_
            refine Runs.seq ?_
            refine Runs.reg (by simp only [go_sem, seval, ge45, at45, T59, hc42, hc44, hc46, hc50]; rfl) (by simp only [long52, go_sem, seval]; rfl) ?_
            refine Runs.ret ?_
            cases h
            cases g41
            try cases h
            try dsimp only [outX]
            first
            | rfl
            | (exact fk (res := [.cell 2 54]) rfl rfl rfl (by simp only [fin1, go_sem, seval, ge45, at45, T59, hc42, hc44, hc46, hc50]; try rfl))
          try simp only [N3] at hc50
          try simp only [hc50, C5] at h
          refine Runs.skip ?_
          cases h
          refine ⟨m41, Nat.lt_succ_self _, _, _, by simp only [go_sem, seval, ge45, at45, T59]; try rfl, _, g41, rfl, rfl⟩
    try simp only [N3] at hc44
    try simp only [hc44, C5] at h
    refine Runs.skip ?_
    refine Runs.seq ?_
    refine Runs.seq ?_
    refine Runs.reg (by simp only [go_sem, seval, hc42, hc44]; rfl) (by simp only [long52, go_sem, seval]; rfl) ?_
    refine Runs.cond (t := 63) rfl (fun hc52 => ?_) (fun hc52 => ?_)
    · first
      | exact absurd hc52 (by decide)
      | exact absurd hc52 (by simp only [hc42, hc44]; decide)
      | skip
        try simp only [N3] at hc52
        try simp only [hc52, C5] at h
        refine Runs.seq ?_
        obtain ⟨q53, h53, h⟩ := some_bind h
        have w53 := W56 _ _ h53
        try dsimp only at h
        refine Runs.reg (by simp only [go_sem, seval, w53, hc42, hc44, hc52]; rfl) (by simp only [long52, go_sem, seval]; rfl) ?_
        refine Runs.seq ?_
        refine Runs.reg (by simp only [go_sem, seval, hc42, hc44, hc52]; rfl) (by simp only [long52, go_sem, seval]; rfl) ?_
        refine Runs.ret ?_
        cases h
        cases g41
        try cases h
        try dsimp only [outX]
        first
        | rfl
        | (exact fk (res := [.cell 2 54]) rfl rfl rfl (by simp only [fin1, go_sem, seval, hc42, hc44, hc52]; try rfl))
    · first
      | exact absurd hc52 (by decide)
      | exact absurd hc52 (by simp only [hc42, hc44]; decide)
      | skip
        try simp only [N3] at hc52
        try simp only [hc52, C5] at h
        refine Runs.skip ?_
        refine Runs.seq ?_
        obtain ⟨y54, h54, h⟩ := some_bind h
        obtain ⟨le54, rfl⟩ := appP_some h54
        try simp only [List.length_set, List.length_map, List.length_append, List.length_cons, List.length_nil, seval] at le54
        try dsimp only at h
        refine Runs.reg (by simp only [go_sem, seval, le54, hc42, hc44, hc52]; rfl) (by simp only [long52, go_sem, seval]; rfl) ?_
        refine Runs.seq ?_
        refine Runs.reg (by simp only [go_sem, seval, hc42, hc44, hc52]; rfl) (by simp only [long52, go_sem, seval]; rfl) ?_
        refine Runs.seq ?_
        obtain ⟨⟨b55, q55⟩, h55, h⟩ := some_bind h
        have w55 := W12 _ _ _ _ h55
        try dsimp only at h
        refine Runs.reg (by simp only [go_sem, seval, w55, hc42, hc44, hc52]; rfl) (by simp only [long52, go_sem, seval]; rfl) ?_
        refine Runs.seq ?_
        refine Runs.reg (by simp only [go_sem, seval, hc42, hc44, hc52]; rfl) (by simp only [long52, go_sem, seval]; rfl) ?_
        refine Runs.cond (t := 83) rfl (fun hc56 => ?_) (fun hc56 => ?_)
        · skip
          try simp only [N3] at hc56
          try simp only [hc56, C5] at h
          refine Runs.seq ?_
          obtain ⟨q57, h57, h⟩ := some_bind h
          have w57 := W28 _ _ _ h57
          try dsimp only at h
          refine Runs.reg (by simp only [go_sem, seval, w57, hc42, hc44, hc52, hc56]; rfl) (by simp only [long52, go_sem, seval]; rfl) ?_
          refine Runs.seq ?_
          refine Runs.reg (by simp only [go_sem, seval, hc42, hc44, hc52, hc56]; rfl) (by simp only [long52, go_sem, seval]; rfl) ?_
          refine Runs.ret ?_
          cases h
          cases g41
          try cases h
          try dsimp only [outX]
          first
          | rfl
          | (exact fk (res := [.cell 2 54]) rfl rfl rfl (by simp only [fin1, go_sem, seval, hc42, hc44, hc52, hc56]; try rfl))
        try simp only [N3] at hc56
        try simp only [hc56, C5] at h
        refine Runs.skip ?_
        cases h
        refine ⟨m41, Nat.lt_succ_self _, _, _, by simp only [go_sem, seval]; try rfl, _, g41, rfl, rfl⟩
  try simp only [N3] at hc42
  try simp only [hc42, C5] at h
  refine Runs.exit ?_
  cases h
  cases g41
  refine Runs.seq ?_
  refine Runs.reg (by simp only [go_sem, seval, hc42]; rfl) (by simp only [long52, go_sem, seval]; rfl) ?_
  refine Runs.ret ?_
  try cases h
  try dsimp only [outX]
  first
  | rfl
  | (exact fk (res := [.cell 2 54]) rfl rfl rfl (by simp only [fin1, go_sem, seval, hc42]; try rfl))
theorem W35 {n : Nat} (ih : ExprIH n) {p q : PS} {d : Decl} (h : declP n p = some (d, q)) : callW ip 30 [pV] [pBox p] = some (.ret [declV d], [pBox q]) := by
  simp only [declP, declK, Go.Proofs.YtmkacifjegnehaaDoor.declVP, wadd, wsub, incBy] at h
  refine callW_runs (fn := Tryd.f30) (L := long30) (nt := 63) (n0 := 1) (T := tab) (rw' := []) (kA := keepA) Tryd.func30 rfl rfl rfl rfl rfl rfl rfl rfl rfl ?_
  refine Runs.seq ?_
  refine Runs.reg (by simp only [go_sem, seval]; rfl) (by simp only [long30, go_sem, seval]; rfl) ?_
  refine Runs.seq ?_
  obtain ⟨z1, h1, h⟩ := some_bind h
  have w1 := W26 _ _ h1
  try dsimp only at h
  refine Runs.reg (by simp only [go_sem, seval, w1]; rfl) (by simp only [long30, go_sem, seval]; rfl) ?_
  refine Runs.seq ?_
  refine Runs.reg (by simp only [go_sem, seval]; rfl) (by simp only [long30, go_sem, seval]; rfl) ?_
  refine Runs.seq ?_
  refine Runs.seq ?_
  obtain ⟨k2, h2, h⟩ := some_bind h
  have w2 := W55 _ _ _ h2
  try dsimp only at h
  refine Runs.reg (by simp only [go_sem, seval, w2]; rfl) (by simp only [long30, go_sem, seval]; rfl) ?_
  refine Runs.cond (t := 10) rfl (fun hc3 => ?_) (fun hc3 => ?_)
  · skip
    try simp only [N3] at hc3
    try simp only [hc3, C5] at h
    obtain ⟨x4, h4, h⟩ := some_bind h
    obtain ⟨ge4, at4⟩ := getP_some h4
    try dsimp only at h
    refine Runs.drw rfl (by simp only [go_sem, seval, ge4, at4, T59, hc3]; rfl) (by simp only [long30, go_sem, seval]; rfl) ?_
    refine Runs.seq ?_
    refine Runs.block ?_
    refine Runs.seq ?_
    refine Runs.reg (by simp only [go_sem, seval, ge4, at4, T59, hc3]; rfl) (by simp only [long30, go_sem, seval]; rfl) ?_
    refine Runs.cond (t := 26) rfl (fun hc5 => ?_) (fun hc5 => ?_)
    · first
      | exact absurd hc5 (by decide)
      | exact absurd hc5 (by simp only [hc3]; decide)
      | skip
        try simp only [N3] at hc5
        try simp only [hc5, C5] at h
        refine Runs.seq ?_
        refine Runs.reg (by simp only [go_sem, seval, ge4, at4, T59, hc3, hc5]; rfl) (by simp only [long30, go_sem, seval]; rfl) ?_
        refine Runs.reg (by simp only [go_sem, seval, ge4, at4, T59, hc3, hc5]; rfl) (by simp only [long30, go_sem, seval]; rfl) ?_
        refine Runs.seq ?_
        obtain ⟨⟨v6, q6⟩, h6, h⟩ := some_bind h
        have w6 := W60 ih h6
        try dsimp only at h
        refine Runs.drw rfl (by simp only [go_sem, seval, ge4, at4, T59, w6, hc3, hc5]; rfl) (by simp only [long30, go_sem, seval]; rfl) ?_
        refine Runs.seq ?_
        refine Runs.block ?_
        refine Runs.loop_rel (fun mz_ en hp => ∃ (x : PS × Decl), loopO (declB n) mz_ x = some (d, q) ∧ en = [(0, pV), (2, .c (.ptr 1 0)), (3, .c (.ptr 2 0))] ∧ hp = [.box [.d (.str x.1.s), .d (.sl (x.1.l.map tokD)), .d (.int .i64 x.1.pos), .d (.int .i64 x.1.code), .d (.int .i64 x.1.mat)], .box [.d (.int .i64 0), .d (.str []), .nilS, .d (.int .i64 0)], .box [.d (.int .i64 x.2.type), .d (.str x.2.named), .row 3, .d (.int .i64 x.2.pos)], .row 54 23 x.2.vars.length (rowC dvarD x.2.vars)]) ?_ ⟨_, h, (by first | rfl | (simp only [go_sem, seval, ge4, at4, T59, w6]; done) | (simp only [go_sem, seval, ge4, at4, T59, w6]; rfl)), (by first | rfl | (simp only [go_sem, seval, ge4, at4, T59, w6]; done) | (simp only [go_sem, seval, ge4, at4, T59, w6]; rfl))⟩
        clear h
        rintro m7 en hp ⟨⟨p1, d1⟩, h, rfl, rfl⟩
        obtain _ | m7 := m7
        · cases h
        simp only [loopO, declB] at h
        obtain ⟨r7, h, g7⟩ := some_bind h
        refine Runs.seq ?_
        refine Runs.seq ?_
        obtain ⟨⟨b8, q8⟩, h8, h⟩ := some_bind h
        have w8 := W12 _ _ _ _ h8
        try dsimp only at h
        refine Runs.reg (by simp only [go_sem, seval, ge4, at4, T59, w6, w8]; rfl) (by simp only [long30, go_sem, seval]; rfl) ?_
        refine Runs.cond (t := 54) rfl (fun hc9 => ?_) (fun hc9 => ?_)
        · skip
          try simp only [N3] at hc9
          try simp only [hc9, C5] at h
          refine Runs.skip ?_
          refine Runs.block ?_
          obtain ⟨⟨v10, q10⟩, h10, h⟩ := some_bind h
          have w10 := W60 ih h10
          try dsimp only at h
          obtain ⟨y11, h11, h⟩ := some_bind h
          obtain ⟨le11, rfl⟩ := appP_some h11
          try simp only [List.length_set, List.length_map, List.length_append, List.length_cons, List.length_nil, seval] at le11
          try dsimp only at h
          refine Runs.drw rfl (by simp only [go_sem, seval, ge4, at4, T59, w6, w10, le11, hc9]; rfl) (by simp only [long30, go_sem, seval]; rfl) ?_
          cases h
          refine ⟨m7, Nat.lt_succ_self _, _, _, by simp only [go_sem, seval, ge4, at4, T59, w6, w10, le11]; try rfl, _, g7, rfl, rfl⟩
        try simp only [N3] at hc9
        try simp only [hc9, C5] at h
        refine Runs.exit ?_
        cases h
        cases g7
        refine Runs.seq ?_
        refine Runs.reg (by simp only [go_sem, seval, ge4, at4, T59, w6, hc9]; rfl) (by simp only [long30, go_sem, seval]; rfl) ?_
        refine Runs.ret ?_
        try cases h
        try dsimp only [outX]
        first
        | rfl
        | (exact fk (res := [.cell 2 42]) rfl rfl rfl (by simp only [fin1, go_sem, seval, ge4, at4, T59, w6, hc9]; try rfl))
    · first
      | exact absurd hc5 (by decide)
      | exact absurd hc5 (by simp only [hc3]; decide)
      | skip
        try simp only [N3] at hc5
        try simp only [hc5, C5] at h
        refine Runs.seq ?_
        obtain ⟨k12, h12, h⟩ := some_bind h
        have w12 := W55 _ _ _ h12
        try dsimp only at h
        refine Runs.reg (by simp only [go_sem, seval, ge4, at4, T59, w12, hc3, hc5]; rfl) (by simp only [long30, go_sem, seval]; rfl) ?_
        refine Runs.cond (t := 38) rfl (fun hc13 => ?_) (fun hc13 => ?_)
        · skip
          try simp only [N3] at hc13
          try simp only [hc13, C5] at h
          refine Runs.seq ?_
          refine Runs.reg (by simp only [go_sem, seval, ge4, at4, T59, hc3, hc5, hc13]; rfl) (by simp only [long30, go_sem, seval]; rfl) ?_
          obtain ⟨⟨s14, q14⟩, h14, h⟩ := some_bind h
          have w14 := W30 _ _ _ h14
          try dsimp only at h
          refine Runs.reg (by simp only [go_sem, seval, ge4, at4, T59, w14, hc3, hc5, hc13]; rfl) (by simp only [long30, go_sem, seval]; rfl) ?_
          refine Runs.seq ?_
          obtain ⟨⟨v15, q15⟩, h15, h⟩ := some_bind h
          have w15 := W60 ih h15
          try dsimp only at h
          refine Runs.drw rfl (by simp only [go_sem, seval, ge4, at4, T59, w15, hc3, hc5, hc13]; rfl) (by simp only [long30, go_sem, seval]; rfl) ?_
          refine Runs.seq ?_
          refine Runs.block ?_
          refine Runs.loop_rel (fun mz_ en hp => ∃ (x : PS × Decl), loopO (declB n) mz_ x = some (d, q) ∧ en = [(0, pV), (2, .c (.ptr 1 0)), (3, .c (.ptr 2 0))] ∧ hp = [.box [.d (.str x.1.s), .d (.sl (x.1.l.map tokD)), .d (.int .i64 x.1.pos), .d (.int .i64 x.1.code), .d (.int .i64 x.1.mat)], .box [.d (.int .i64 0), .d (.str []), .nilS, .d (.int .i64 0)], .box [.d (.int .i64 x.2.type), .d (.str x.2.named), .row 3, .d (.int .i64 x.2.pos)], .row 54 23 x.2.vars.length (rowC dvarD x.2.vars)]) ?_ ⟨_, h, (by first | rfl | (simp only [go_sem, seval, ge4, at4, T59, w15]; done) | (simp only [go_sem, seval, ge4, at4, T59, w15]; rfl)), (by first | rfl | (simp only [go_sem, seval, ge4, at4, T59, w15]; done) | (simp only [go_sem, seval, ge4, at4, T59, w15]; rfl))⟩
          clear h
          rintro m16 en hp ⟨⟨p1, d1⟩, h, rfl, rfl⟩
          obtain _ | m16 := m16
          · cases h
          simp only [loopO, declB] at h
          obtain ⟨r16, h, g16⟩ := some_bind h
          refine Runs.seq ?_
          refine Runs.seq ?_
          obtain ⟨⟨b17, q17⟩, h17, h⟩ := some_bind h
          have w17 := W12 _ _ _ _ h17
          try dsimp only at h
          refine Runs.reg (by simp only [go_sem, seval, ge4, at4, T59, w15, w17]; rfl) (by simp only [long30, go_sem, seval]; rfl) ?_
          refine Runs.cond (t := 54) rfl (fun hc18 => ?_) (fun hc18 => ?_)
          · skip
            try simp only [N3] at hc18
            try simp only [hc18, C5] at h
            refine Runs.skip ?_
            refine Runs.block ?_
            obtain ⟨⟨v19, q19⟩, h19, h⟩ := some_bind h
            have w19 := W60 ih h19
            try dsimp only at h
            obtain ⟨y20, h20, h⟩ := some_bind h
            obtain ⟨le20, rfl⟩ := appP_some h20
            try simp only [List.length_set, List.length_map, List.length_append, List.length_cons, List.length_nil, seval] at le20
            try dsimp only at h
            refine Runs.drw rfl (by simp only [go_sem, seval, ge4, at4, T59, w15, w19, le20, hc18]; rfl) (by simp only [long30, go_sem, seval]; rfl) ?_
            cases h
            refine ⟨m16, Nat.lt_succ_self _, _, _, by simp only [go_sem, seval, ge4, at4, T59, w15, w19, le20]; try rfl, _, g16, rfl, rfl⟩
          try simp only [N3] at hc18
          try simp only [hc18, C5] at h
          refine Runs.exit ?_
          cases h
          cases g16
          refine Runs.seq ?_
          refine Runs.reg (by simp only [go_sem, seval, ge4, at4, T59, w15, hc18]; rfl) (by simp only [long30, go_sem, seval]; rfl) ?_
          refine Runs.ret ?_
          try cases h
          try dsimp only [outX]
          first
          | rfl
          | (exact fk (res := [.cell 2 42]) rfl rfl rfl (by simp only [fin1, go_sem, seval, ge4, at4, T59, w15, hc18]; try rfl))
        try simp only [N3] at hc13
        try simp only [hc13, C5] at h
        refine Runs.seq ?_
        obtain ⟨q21, h21, h⟩ := some_bind h
        have w21 := W56 _ _ h21
        try dsimp only at h
        refine Runs.reg (by simp only [go_sem, seval, ge4, at4, T59, w21, hc3, hc5, hc13]; rfl) (by simp only [long30, go_sem, seval]; rfl) ?_
        refine Runs.seq ?_
        refine Runs.reg (by simp only [go_sem, seval, ge4, at4, T59, hc3, hc5, hc13]; rfl) (by simp only [long30, go_sem, seval]; rfl) ?_
        refine Runs.ret ?_
        try cases h
        try dsimp only [outX]
        first
        | rfl
        | (exact fk (res := [.cell 2 42]) rfl rfl rfl (by simp only [fin1, go_sem, seval, ge4, at4, T59, hc3, hc5, hc13]; try rfl))
  try simp only [N3] at hc3
  try simp only [hc3, C5] at h
  refine Runs.skip ?_
  refine Runs.seq ?_
  refine Runs.block ?_
  refine Runs.seq ?_
  refine Runs.reg (by simp only [go_sem, seval, hc3]; rfl) (by simp only [long30, go_sem, seval]; rfl) ?_
  refine Runs.cond (t := 26) rfl (fun hc22 => ?_) (fun hc22 => ?_)
  · first
    | exact absurd hc22 (by decide)
    | exact absurd hc22 (by simp only [hc3]; decide)
    | skip
      try simp only [N3] at hc22
      try simp only [hc22, C5] at h
      refine Runs.seq ?_
      refine Runs.reg (by simp only [go_sem, seval, hc3, hc22]; rfl) (by simp only [long30, go_sem, seval]; rfl) ?_
      refine Runs.reg (by simp only [go_sem, seval, hc3, hc22]; rfl) (by simp only [long30, go_sem, seval]; rfl) ?_
      refine Runs.seq ?_
      obtain ⟨⟨v23, q23⟩, h23, h⟩ := some_bind h
      have w23 := W60 ih h23
      try dsimp only at h
      refine Runs.drw rfl (by simp only [go_sem, seval, w23, hc3, hc22]; rfl) (by simp only [long30, go_sem, seval]; rfl) ?_
      refine Runs.seq ?_
      refine Runs.block ?_
      refine Runs.loop_rel (fun mz_ en hp => ∃ (x : PS × Decl), loopO (declB n) mz_ x = some (d, q) ∧ en = [(0, pV), (2, .c (.ptr 1 0)), (3, .c (.ptr 2 0))] ∧ hp = [.box [.d (.str x.1.s), .d (.sl (x.1.l.map tokD)), .d (.int .i64 x.1.pos), .d (.int .i64 x.1.code), .d (.int .i64 x.1.mat)], .box [.d (.int .i64 0), .d (.str []), .nilS, .d (.int .i64 0)], .box [.d (.int .i64 x.2.type), .d (.str x.2.named), .row 3, .d (.int .i64 x.2.pos)], .row 54 23 x.2.vars.length (rowC dvarD x.2.vars)]) ?_ ⟨_, h, (by first | rfl | (simp only [go_sem, seval, w23]; done) | (simp only [go_sem, seval, w23]; rfl)), (by first | rfl | (simp only [go_sem, seval, w23]; done) | (simp only [go_sem, seval, w23]; rfl))⟩
      clear h
      rintro m24 en hp ⟨⟨p1, d1⟩, h, rfl, rfl⟩
      obtain _ | m24 := m24
      · cases h
      simp only [loopO, declB] at h
      obtain ⟨r24, h, g24⟩ := some_bind h
      refine Runs.seq ?_
      refine Runs.seq ?_
      obtain ⟨⟨b25, q25⟩, h25, h⟩ := some_bind h
      have w25 := W12 _ _ _ _ h25
      try dsimp only at h
      refine Runs.reg (by simp only [go_sem, seval, w23, w25]; rfl) (by simp only [long30, go_sem, seval]; rfl) ?_
      refine Runs.cond (t := 54) rfl (fun hc26 => ?_) (fun hc26 => ?_)
      · skip
        try simp only [N3] at hc26
        try simp only [hc26, C5] at h
        refine Runs.skip ?_
        refine Runs.block ?_
        obtain ⟨⟨v27, q27⟩, h27, h⟩ := some_bind h
        have w27 := W60 ih h27
        try dsimp only at h
        obtain ⟨y28, h28, h⟩ := some_bind h
        obtain ⟨le28, rfl⟩ := appP_some h28
        try simp only [List.length_set, List.length_map, List.length_append, List.length_cons, List.length_nil, seval] at le28
        try dsimp only at h
        refine Runs.drw rfl (by simp only [go_sem, seval, w23, w27, le28, hc26]; rfl) (by simp only [long30, go_sem, seval]; rfl) ?_
        cases h
        refine ⟨m24, Nat.lt_succ_self _, _, _, by simp only [go_sem, seval, w23, w27, le28]; try rfl, _, g24, rfl, rfl⟩
      try simp only [N3] at hc26
      try simp only [hc26, C5] at h
      refine Runs.exit ?_
      cases h
      cases g24
      refine Runs.seq ?_
      refine Runs.reg (by simp only [go_sem, seval, w23, hc26]; rfl) (by simp only [long30, go_sem, seval]; rfl) ?_
      refine Runs.ret ?_
      try cases h
      try dsimp only [outX]
      first
      | rfl
      | (exact fk (res := [.cell 2 42]) rfl rfl rfl (by simp only [fin1, go_sem, seval, w23, hc26]; try rfl))
  · first
    | exact absurd hc22 (by decide)
    | exact absurd hc22 (by simp only [hc3]; decide)
    | skip
      try simp only [N3] at hc22
      try simp only [hc22, C5] at h
      refine Runs.seq ?_
      obtain ⟨k29, h29, h⟩ := some_bind h
      have w29 := W55 _ _ _ h29
      try dsimp only at h
      refine Runs.reg (by simp only [go_sem, seval, w29, hc3, hc22]; rfl) (by simp only [long30, go_sem, seval]; rfl) ?_
      refine Runs.cond (t := 38) rfl (fun hc30 => ?_) (fun hc30 => ?_)
      · skip
        try simp only [N3] at hc30
        try simp only [hc30, C5] at h
        refine Runs.seq ?_
        refine Runs.reg (by simp only [go_sem, seval, hc3, hc22, hc30]; rfl) (by simp only [long30, go_sem, seval]; rfl) ?_
        obtain ⟨⟨s31, q31⟩, h31, h⟩ := some_bind h
        have w31 := W30 _ _ _ h31
        try dsimp only at h
        refine Runs.reg (by simp only [go_sem, seval, w31, hc3, hc22, hc30]; rfl) (by simp only [long30, go_sem, seval]; rfl) ?_
        refine Runs.seq ?_
        obtain ⟨⟨v32, q32⟩, h32, h⟩ := some_bind h
        have w32 := W60 ih h32
        try dsimp only at h
        refine Runs.drw rfl (by simp only [go_sem, seval, w32, hc3, hc22, hc30]; rfl) (by simp only [long30, go_sem, seval]; rfl) ?_
        refine Runs.seq ?_
        refine Runs.block ?_
        refine Runs.loop_rel (fun mz_ en hp => ∃ (x : PS × Decl), loopO (declB n) mz_ x = some (d, q) ∧ en = [(0, pV), (2, .c (.ptr 1 0)), (3, .c (.ptr 2 0))] ∧ hp = [.box [.d (.str x.1.s), .d (.sl (x.1.l.map tokD)), .d (.int .i64 x.1.pos), .d (.int .i64 x.1.code), .d (.int .i64 x.1.mat)], .box [.d (.int .i64 0), .d (.str []), .nilS, .d (.int .i64 0)], .box [.d (.int .i64 x.2.type), .d (.str x.2.named), .row 3, .d (.int .i64 x.2.pos)], .row 54 23 x.2.vars.length (rowC dvarD x.2.vars)]) ?_ ⟨_, h, (by first | rfl | (simp only [go_sem, seval, w32]; done) | (simp only [go_sem, seval, w32]; rfl)), (by first | rfl | (simp only [go_sem, seval, w32]; done) | (simp only [go_sem, seval, w32]; rfl))⟩
        clear h
        rintro m33 en hp ⟨⟨p1, d1⟩, h, rfl, rfl⟩
        obtain _ | m33 := m33
        · cases h
        simp only [loopO, declB] at h
        obtain ⟨r33, h, g33⟩ := some_bind h
        refine Runs.seq ?_
        refine Runs.seq ?_
        obtain ⟨⟨b34, q34⟩, h34, h⟩ := some_bind h
        have w34 := W12 _ _ _ _ h34
        try dsimp only at h
        refine Runs.reg (by simp only [go_sem, seval, w32, w34]; rfl) (by simp only [long30, go_sem, seval]; rfl) ?_
        refine Runs.cond (t := 54) rfl (fun hc35 => ?_) (fun hc35 => ?_)
        · skip
          try simp only [N3] at hc35
          try simp only [hc35, C5] at h
          refine Runs.skip ?_
          refine Runs.block ?_
          obtain ⟨⟨v36, q36⟩, h36, h⟩ := some_bind h
          have w36 := W60 ih h36
          try dsimp only at h
          obtain ⟨y37, h37, h⟩ := some_bind h
          obtain ⟨le37, rfl⟩ := appP_some h37
          try simp only [List.length_set, List.length_map, List.length_append, List.length_cons, List.length_nil, seval] at le37
          try dsimp only at h
          refine Runs.drw rfl (by simp only [go_sem, seval, w32, w36, le37, hc35]; rfl) (by simp only [long30, go_sem, seval]; rfl) ?_
          cases h
          refine ⟨m33, Nat.lt_succ_self _, _, _, by simp only [go_sem, seval, w32, w36, le37]; try rfl, _, g33, rfl, rfl⟩
        try simp only [N3] at hc35
        try simp only [hc35, C5] at h
        refine Runs.exit ?_
        cases h
        cases g33
        refine Runs.seq ?_
        refine Runs.reg (by simp only [go_sem, seval, w32, hc35]; rfl) (by simp only [long30, go_sem, seval]; rfl) ?_
        refine Runs.ret ?_
        try cases h
        try dsimp only [outX]
        first
        | rfl
        | (exact fk (res := [.cell 2 42]) rfl rfl rfl (by simp only [fin1, go_sem, seval, w32, hc35]; try rfl))
      try simp only [N3] at hc30
      try simp only [hc30, C5] at h
      refine Runs.seq ?_
      obtain ⟨q38, h38, h⟩ := some_bind h
      have w38 := W56 _ _ h38
      try dsimp only at h
      refine Runs.reg (by simp only [go_sem, seval, w38, hc3, hc22, hc30]; rfl) (by simp only [long30, go_sem, seval]; rfl) ?_
      refine Runs.seq ?_
      refine Runs.reg (by simp only [go_sem, seval, hc3, hc22, hc30]; rfl) (by simp only [long30, go_sem, seval]; rfl) ?_
      refine Runs.ret ?_
      try cases h
      try dsimp only [outX]
      first
      | rfl
      | (exact fk (res := [.cell 2 42]) rfl rfl rfl (by simp only [fin1, go_sem, seval, hc3, hc22, hc30]; try rfl))
theorem W31 {n : Nat} (ih : ExprIH n) {p q : PS} {t : List UInt8} {l : List Decl} (h : declsP n p t = some (l, q)) : callW ip 26 [pV, sI t] [pBox p] = some (.ret [slV declD l], [pBox q]) := by
  simp only [declsP, wadd, wsub, incBy] at h
  refine callW_runs (fn := Tryd.f26) (L := long26) (nt := 25) (n0 := 1) (T := tab) (rw' := []) (kA := keepA) Tryd.func26 rfl rfl rfl rfl rfl rfl rfl rfl rfl ?_
  refine Runs.seq ?_
  refine Runs.reg (by simp only [go_sem, seval]; rfl) (by simp only [long26, go_sem, seval]; rfl) ?_
  refine Runs.seq ?_
  refine Runs.reg (by simp only [go_sem, seval]; rfl) (by simp only [long26, go_sem, seval]; rfl) ?_
  refine Runs.seq ?_
  refine Runs.block ?_
  refine Runs.loop_rel (fun mz_ en hp => ∃ (x : PS × List Decl), loopO (declsB n t) mz_ x = some (l, q) ∧ en = [(0, pV), (1, sI t), (5, .c (.row 1))] ∧ hp = [.box [.d (.str x.1.s), .d (.sl (x.1.l.map tokD)), .d (.int .i64 x.1.pos), .d (.int .i64 x.1.code), .d (.int .i64 x.1.mat)], .row 42 4 x.2.length (rowC declD x.2)]) ?_ ⟨_, h, (by first | rfl | (simp only [go_sem, seval]; done) | (simp only [go_sem, seval]; rfl)), (by first | rfl | (simp only [go_sem, seval]; done) | (simp only [go_sem, seval]; rfl))⟩
  clear h
  rintro m1 en hp ⟨⟨p1, l1⟩, h, rfl, rfl⟩
  obtain _ | m1 := m1
  · cases h
  simp only [loopO, declsB] at h
  obtain ⟨r1, h, g1⟩ := some_bind h
  refine Runs.seq ?_
  refine Runs.seq ?_
  refine Runs.reg (by simp only [go_sem, seval, W11]; rfl) (by simp only [long26, go_sem, seval]; rfl) ?_
  refine Runs.cond (t := 8) rfl (fun hc2 => ?_) (fun hc2 => ?_)
  · skip
    try simp only [N3] at hc2
    try simp only [hc2, C5] at h
    refine Runs.skip ?_
    refine Runs.block ?_
    refine Runs.seq ?_
    obtain ⟨⟨d3, q3⟩, h3, h⟩ := some_bind h
    have w3 := W35 ih h3
    try dsimp only at h
    obtain ⟨y4, h4, h⟩ := some_bind h
    obtain ⟨le4, rfl⟩ := appP_some h4
    try simp only [List.length_set, List.length_map, List.length_append, List.length_cons, List.length_nil, seval] at le4
    try dsimp only at h
    refine Runs.reg (by simp only [go_sem, seval, w3, le4, hc2]; rfl) (by simp only [long26, go_sem, seval]; rfl) ?_
    refine Runs.seq ?_
    refine Runs.reg (by simp only [go_sem, seval, hc2]; rfl) (by simp only [long26, go_sem, seval]; rfl) ?_
    refine Runs.seq ?_
    refine Runs.block ?_
    obtain ⟨j5, h, hk5⟩ := some_bind h
    refine Runs.loop_rel (fun mz_ en hp => ∃ (x : PS × Bool), loopO semiB mz_ x = some j5 ∧ en = [(0, pV), (1, sI t), (5, .c (.row 1)), (6, bI x.2)] ∧ hp = (.box [.d (.str x.1.s), .d (.sl (x.1.l.map tokD)), .d (.int .i64 x.1.pos), .d (.int .i64 x.1.code), .d (.int .i64 x.1.mat)] :: _)) ?_ ⟨_, h, (by first | rfl | (simp only [go_sem, seval]; done) | (simp only [go_sem, seval]; rfl)), (by first | rfl | (simp only [go_sem, seval]; done) | (simp only [go_sem, seval]; rfl))⟩
    clear h
    rintro m5 en hp ⟨⟨p2, s2⟩, h, rfl, rfl⟩
    obtain _ | m5 := m5
    · cases h
    simp only [loopO, semiB] at h
    obtain ⟨r5, h, g5⟩ := some_bind h
    refine Runs.seq ?_
    refine Runs.seq ?_
    obtain ⟨⟨b6, q6⟩, h6, h⟩ := some_bind h
    have w6 := W12 _ _ _ _ h6
    try dsimp only at h
    refine Runs.reg (by simp only [go_sem, seval, w6]; rfl) (by simp only [long26, go_sem, seval]; rfl) ?_
    refine Runs.cond (t := 15) rfl (fun hc7 => ?_) (fun hc7 => ?_)
    · skip
      try simp only [N3] at hc7
      try simp only [hc7, C5] at h
      refine Runs.skip ?_
      refine Runs.block ?_
      refine Runs.reg (by simp only [go_sem, seval, hc7]; rfl) (by simp only [long26, go_sem, seval]; rfl) ?_
      cases h
      refine ⟨m5, Nat.lt_succ_self _, _, _, by simp only [go_sem, seval]; try rfl, _, g5, rfl, rfl⟩
    try simp only [N3] at hc7
    try simp only [hc7, C5] at h
    refine Runs.exit ?_
    cases h
    cases g5
    have h := hk5
    try dsimp only at h
    try simp only [hc7, cond_true, cond_false] at h
    refine Runs.seq ?_
    refine Runs.row ?_
    refine Row.run 3 (by simp only [go_sem, seval, hc7]; rfl) ?_
    refine Row.guard (t := 18) (by simp only [go_sem, seval]; rfl) (fun hg8 => ?_) (fun hg8 => ?_)
    · skip
      try simp only [N3] at hg8
      try simp only [hg8, C5] at h
      refine Row.run 4 (by simp only [go_sem, seval, hc7, hg8]; rfl) ?_
      refine Row.end_ (by simp only [long26, go_sem, seval]; rfl) ?_
      refine Runs.cond (t := 22) rfl (fun hc9 => ?_) (fun hc9 => ?_)
      rotate_left
      · exact absurd hc9 (by first | decide | (simp only [hc7, hg8]; decide))
      try simp only [N3] at hc9
      try simp only [hc9, C5] at h
      refine Runs.seq ?_
      refine Runs.reg (by simp only [go_sem, seval, hc7, hg8]; rfl) (by simp only [long26, go_sem, seval]; rfl) ?_
      refine Runs.ret ?_
      cases h
      cases g1
      try cases h
      try dsimp only [outX]
      first
      | rfl
      | (exact fk (res := [.tmp 4]) rfl rfl rfl (by simp only [fin1, go_sem, seval, hc7, hg8]; try rfl))
    · skip
      try simp only [N3] at hg8
      try simp only [hg8, C5] at h
      obtain ⟨b10, h10, h⟩ := some_bind h
      have w10 := W25 _ _ _ h10
      try dsimp only at h
      refine Row.run 4 (by simp only [go_sem, seval, w10, hc7, hg8]; rfl) ?_
      refine Row.end_ (by simp only [long26, go_sem, seval]; rfl) ?_
      refine Runs.cond (t := 22) rfl (fun hc11 => ?_) (fun hc11 => ?_)
      · skip
        try simp only [N3] at hc11
        try simp only [hc11, C5] at h
        refine Runs.seq ?_
        refine Runs.reg (by simp only [go_sem, seval, hc7, hg8, hc11]; rfl) (by simp only [long26, go_sem, seval]; rfl) ?_
        refine Runs.ret ?_
        cases h
        cases g1
        try cases h
        try dsimp only [outX]
        first
        | rfl
        | (exact fk (res := [.tmp 4]) rfl rfl rfl (by simp only [fin1, go_sem, seval, hc7, hg8, hc11]; try rfl))
      try simp only [N3] at hc11
      try simp only [hc11, C5] at h
      refine Runs.skip ?_
      cases h
      refine ⟨m1, Nat.lt_succ_self _, _, _, by simp only [go_sem, seval]; try rfl, _, g1, rfl, rfl⟩
  try simp only [N3] at hc2
  try simp only [hc2, C5] at h
  refine Runs.exit ?_
  cases h
  cases g1
  refine Runs.seq ?_
  refine Runs.reg (by simp only [go_sem, seval, hc2]; rfl) (by simp only [long26, go_sem, seval]; rfl) ?_
  refine Runs.ret ?_
  try cases h
  try dsimp only [outX]
  first
  | rfl
  | (exact fk (res := [.tmp 4]) rfl rfl rfl (by simp only [fin1, go_sem, seval, hc2]; try rfl))
theorem W82 {p : PS} {b : Bool} (h : declaresP p = some b) : callW ip 74 [pV] [pBox p] = some (.ret [bI b], [pBox p]) := by
  simp only [declaresP, wadd, wsub, incBy] at h
  refine callW_runs (fn := Tryd.f74) (L := long74) (nt := 27) (n0 := 1) (T := tab) (rw' := []) (kA := keepA) Tryd.func74 rfl rfl rfl rfl rfl rfl rfl rfl rfl ?_
  refine Runs.seq ?_
  refine Runs.reg (by simp only [go_sem, seval]; rfl) (by simp only [long74, go_sem, seval]; rfl) ?_
  refine Runs.seq ?_
  refine Runs.seq ?_
  obtain ⟨k1, h1, h⟩ := some_bind h
  have w1 := W55 _ _ _ h1
  try dsimp only at h
  refine Runs.reg (by simp only [go_sem, seval, w1]; rfl) (by simp only [long74, go_sem, seval]; rfl) ?_
  refine Runs.cond (t := 5) rfl (fun hc2 => ?_) (fun hc2 => ?_)
  · skip
    try simp only [N3] at hc2
    try simp only [hc2, C5] at h
    refine Runs.seq ?_
    obtain ⟨x3, h3, h⟩ := some_bind h
    obtain ⟨ge3, at3⟩ := getP_some h3
    try dsimp only at h
    refine Runs.drw rfl (by simp only [go_sem, seval, ge3, at3, T59, hc2]; rfl) (by simp only [long74, go_sem, seval]; rfl) ?_
    refine Runs.ret ?_
    try cases h
    try dsimp only [outX]
    first
    | rfl
    | (exact fk (res := [.tmp 2]) rfl rfl rfl (by simp only [fin1, go_sem, seval, ge3, at3, T59, hc2]; try rfl))
  try simp only [N3] at hc2
  try simp only [hc2, C5] at h
  refine Runs.skip ?_
  refine Runs.seq ?_
  refine Runs.row ?_
  obtain ⟨k4, h4, h⟩ := some_bind h
  have w4 := W55 _ _ _ h4
  try dsimp only at h
  refine Row.run 4 (by simp only [go_sem, seval, w4, hc2]; rfl) ?_
  refine Row.guard (t := 22) (by simp only [go_sem, seval]; rfl) (fun hg5 => ?_) (fun hg5 => ?_)
  · skip
    try simp only [N3] at hg5
    try simp only [hg5, C5] at h
    obtain ⟨k6, h6, h⟩ := some_bind h
    have w6 := W55 _ _ _ h6
    try dsimp only at h
    refine Row.run 5 (by simp only [go_sem, seval, w4, w6, hc2, hg5]; rfl) ?_
    refine Row.end_ (by simp only [long74, go_sem, seval]; rfl) ?_
    refine Runs.ret ?_
    try cases h
    try dsimp only [outX]
    first
    | rfl
    | (exact fk (res := [.tmp 2]) rfl rfl rfl (by simp only [fin1, go_sem, seval, hc2, hg5]; try rfl))
  · skip
    try simp only [N3] at hg5
    try simp only [hg5, C5] at h
    refine Row.run 5 (by simp only [go_sem, seval, w4, hc2, hg5]; rfl) ?_
    refine Row.end_ (by simp only [long74, go_sem, seval]; rfl) ?_
    refine Runs.ret ?_
    try cases h
    try dsimp only [outX]
    first
    | rfl
    | (exact fk (res := [.tmp 2]) rfl rfl rfl (by simp only [fin1, go_sem, seval, hc2, hg5]; try rfl))
end Go.Proofs.YtmkacifjegnehaaDoor
