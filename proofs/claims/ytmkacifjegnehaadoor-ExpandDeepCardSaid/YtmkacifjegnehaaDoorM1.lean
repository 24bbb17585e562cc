import Derived.Test.YtmkacifjegnehaaDoorHints
import Derived.Test.YtmkacifjegnehaaDoorAb23
namespace Go.Proofs.YtmkacifjegnehaaDoor
open Go Go.Proofs Go.Proofs.YtmkacifjegnehaaDoor.Ab
set_option linter.unusedSimpArgs false
set_option maxRecDepth 10000
set_option maxHeartbeats 4000000
structure Tok where
  kind : Int
  text : List UInt8
  n : Int
  pos : Int
def tokD (t : Tok) : List D := [.int .i64 t.kind, .str t.text, .int .i64 t.n, .int .i64 t.pos]
structure PS where
  s : List UInt8
  l : List Tok
  pos : Int
  code : Int
  mat : Int
abbrev pBox (p : PS) : O := .box [.d (.str p.s), .d (.sl (p.l.map tokD)), .d (.int .i64 p.pos), .d (.int .i64 p.code), .d (.int .i64 p.mat)]

def okP (p : PS) : Bool := p.code == 0

@[reducible] def wadd (a b : Int) : Int := IntKind.i64.wrap (a + b)
@[reducible] def wsub (a b : Int) : Int := IntKind.i64.wrap (a - b)
attribute [go_sem] wadd wsub tokD
theorem C5.{u} : (∀ {α : Sort u} (a b : α), cond true a b = a) ∧ (∀ {α : Sort u} (a b : α), cond false a b = b) ∧ (∀ b : Bool, (true && b) = b) ∧ (∀ b : Bool, (false && b) = false) ∧ ((false = true) = False) := ⟨fun _ _ => rfl, fun _ _ => rfl, fun _ => rfl, fun _ => rfl, by simp⟩
theorem N3 : (∀ {α : Type} [BEq α] (a b : α), (a != b) = !(a == b)) ∧ (∀ b : Bool, ((!b) = true) = (b = false)) ∧ (∀ b : Bool, ((!b) = false) = (b = true)) := ⟨fun _ _ => rfl, fun b => by simp, fun b => by simp⟩
/-- The end of a body, in one. -/
def fin1 (n0 : Nat) (e : List (Nat × V)) (H : List O) (res : List ResultVar) : Option (Res × List O) := match resRaw tab e H res with
  | none => none
  | some vs => match sealAll n0 (vs.flatMap rowRefs) e H with
    | (e', H') => match resOf tab ⟨e', H'⟩ res with
      | none => none
      | some vs' => some (.ret vs', (H'.take n0).map (O.cut n0))
theorem fk {I : Ip} {g : Nat} {fn : Func} {n0 : Nat} {r : Res × List O} {e : List (Nat × V)} {H : List O} {res : List ResultVar} (hT : I.T = tab) (hres : fn.results.toList = res) (hk : I.keepR g = false) (h : fin1 n0 e H res = some r) : finK I g fn n0 r .ret e H := by
  subst hres
  unfold fin1 at h
  cases hv : resRaw tab e H fn.results.toList with
  | none => rw [hv] at h; cases h
  | some vs =>
    rw [hv] at h
    simp only [] at h
    cases hv' : resOf tab ⟨(sealAll n0 (vs.flatMap rowRefs) e H).1, (sealAll n0 (vs.flatMap rowRefs) e H).2⟩ fn.results.toList with
    | none => rw [hv'] at h; cases h
    | some vs' =>
      rw [hv'] at h
      simp only [finK, finX, hT, hk, hv, hv']
      exact h
theorem fkn {I : Ip} {g : Nat} {fn : Func} {n0 : Nat} {r : Res × List O} {e : List (Nat × V)} {H : List O} {res : List ResultVar} (hT : I.T = tab) (hres : fn.results.toList = res) (hk : I.keepR g = false) (h : fin1 n0 e H res = some r) : finK I g fn n0 r .normal e H := fk (e := e) hT hres hk h
def tokAt (p : PS) (i : Int) : Option Tok := if 0 ≤ i then p.l[i.toNat]? else none
theorem tokAt_some {p : PS} {i : Int} {t : Tok} (h : tokAt p i = some t) : 0 ≤ i ∧ p.l[i.toNat]? = some t := by
  unfold tokAt at h
  split at h
  · exact ⟨by assumption, h⟩
  · cases h
theorem toks_get (p : PS) (i : Nat) : (p.l.map tokD)[i]? = (p.l[i]?).map tokD := by simp
theorem toks_len (p : PS) : (p.l.map tokD).length = p.l.length := by simp
def kindP (p : PS) (n : Int) : Option Int := cond (okP p) (cond (decide ((p.l.length : Int) ≤ wadd p.pos n)) (some 0) ((tokAt p (wadd p.pos n)).bind fun t => some t.kind)) (some 0)
def seesP (p : PS) (n : Int) (s : List UInt8) : Option Bool := (kindP p n).bind fun k => cond (k == 4) ((tokAt p (wadd p.pos n)).bind fun t => some (t.text == s)) (some false)
theorem some_bind {α β : Type} {x : Option α} {f : α → Option β} {y : β} (h : x.bind f = some y) : ∃ a, x = some a ∧ f a = some y := by
  cases x with
  | none => cases h
  | some a => exact ⟨a, rfl, h⟩

def incP (p : PS) : PS := { p with pos := wadd p.pos 1 }
def takeP (p : PS) (s : List UInt8) : Option (Bool × PS) := (seesP p 0 s).bind fun b => cond b (some (true, incP p)) (some (false, p))
def wrongP (p : PS) : Option PS := cond (okP p) (cond (decide ((p.l.length : Int) ≤ p.pos)) (some { p with code := 21, mat := p.s.length }) ((tokAt p p.pos).bind fun t => some { p with code := 30, mat := t.pos })) (some p)
def needP (p : PS) (s : List UInt8) : Option PS := (takeP p s).bind fun r => cond r.1 (some r.2) (wrongP r.2)
def placeP (p : PS) : Option Int := cond (decide (p.pos < (p.l.length : Int))) ((tokAt p p.pos).bind fun t => some t.pos) (some p.s.length)
def idP (p : PS) : Option (List UInt8 × PS) := (kindP p 0).bind fun k => cond (k == 1) ((tokAt (incP p) (wsub (incP p).pos 1)).bind fun t => some (t.text, incP p)) ((wrongP p).bind fun q => some ([], q))

def oneP (c : Int) : Bool := cond (c == 123) true (cond (c == 125) true (cond (c == 40) true (cond (c == 41) true (cond (c == 91) true (cond (c == 93) true (cond (c == 59) true (cond (c == 44) true (cond (c == 58) true (cond (c == 46) true (cond (c == 33) true (cond (c == 63) true (cond (c == 61) true (cond (c == 60) true (cond (c == 62) true (cond (c == 43) true (cond (c == 45) true (cond (c == 42) true (cond (c == 47) true (cond (c == 37) true (cond (c == 38) true (cond (c == 124) true (cond (c == 94) true (cond (c == 126) true (cond (c == 64) true (false)))))))))))))))))))))))))

def twoP (s : List UInt8) : Bool := cond (s == [58, 58]) true (cond (s == [33, 33]) true (cond (s == [63, 63]) true (cond (s == [61, 61]) true (cond (s == [33, 61]) true (cond (s == [60, 61]) true (cond (s == [62, 61]) true (cond (s == [60, 60]) true (cond (s == [62, 62]) true (cond (s == [38, 38]) true (cond (s == [124, 124]) true (cond (s == [43, 43]) true (cond (s == [45, 45]) true (cond (s == [45, 62]) true (false))))))))))))))

def kindOfP (s : List UInt8) : Int := cond (s == [98, 105, 116]) 1 (cond (s == [98, 111, 111, 108]) 2 (cond (s == [98, 121, 116, 101]) 3 (cond (s == [115, 104, 111, 114, 116]) 4 (cond (s == [105, 110, 116]) 5 (cond (s == [109, 116, 121, 112, 101]) 6 (cond (s == [112, 105, 100]) 7 (cond (s == [99, 104, 97, 110]) 8 (0))))))))

def letterR (c : Int) : Bool := cond (decide (65 ≤ c)) (cond (decide (c ≤ 90)) true (c == 95)) (c == 95)
def letterP (c : Int) : Bool := cond (decide (97 ≤ c)) (cond (decide (c ≤ 122)) true (letterR c)) (letterR c)
def digitP (c : Int) : Bool := cond (decide (48 ≤ c)) (decide (c ≤ 57)) false

def levelP (s : List UInt8) : Int := cond (s == [124, 124]) 1 (cond (s == [38, 38]) 2 (cond (s == [124]) 3 (cond (s == [94]) 4 (cond (s == [38]) 5 (cond (s == [61, 61]) 6 (cond (s == [33, 61]) 6 (cond (s == [60]) 7 (cond (s == [60, 61]) 7 (cond (s == [62]) 7 (cond (s == [62, 61]) 7 (cond (s == [60, 60]) 8 (cond (s == [62, 62]) 8 (cond (s == [43]) 9 (cond (s == [45]) 9 (cond (s == [42]) 10 (cond (s == [47]) 10 (cond (s == [37]) 10 (0))))))))))))))))))

def nameP (s : List UInt8) : Bool := cond (s == [97, 99, 116, 105, 118, 101]) true (cond (s == [97, 115, 115, 101, 114, 116]) true (cond (s == [97, 116, 111, 109, 105, 99]) true (cond (s == [98, 105, 116]) true (cond (s == [98, 111, 111, 108]) true (cond (s == [98, 114, 101, 97, 107]) true (cond (s == [98, 121, 116, 101]) true (cond (s == [99, 104, 97, 110]) true (cond (s == [100, 95, 115, 116, 101, 112]) true (cond (s == [100, 111]) true (cond (s == [101, 108, 115, 101]) true (cond (s == [101, 109, 112, 116, 121]) true (cond (s == [101, 118, 97, 108]) true (cond (s == [102, 97, 108, 115, 101]) true (cond (s == [102, 105]) true (cond (s == [102, 117, 108, 108]) true (cond (s == [103, 111, 116, 111]) true (cond (s == [105, 102]) true (cond (s == [105, 110, 105, 116]) true (cond (s == [105, 110, 108, 105, 110, 101]) true (cond (s == [105, 110, 116]) true (cond (s == [108, 101, 110]) true (cond (s == [108, 116, 108]) true (cond (s == [109, 116, 121, 112, 101]) true (cond (s == [110, 101, 109, 112, 116, 121]) true (cond (s == [110, 101, 118, 101, 114]) true (cond (s == [110, 102, 117, 108, 108]) true (cond (s == [110, 112, 95]) true (cond (s == [111, 100]) true (cond (s == [111, 102]) true (cond (s == [112, 105, 100]) true (cond (s == [112, 114, 105, 110, 116, 102]) true (cond (s == [112, 114, 111, 99, 116, 121, 112, 101]) true (cond (s == [114, 117, 110]) true (cond (s == [115, 104, 111, 114, 116]) true (cond (s == [115, 107, 105, 112]) true (cond (s == [116, 105, 109, 101, 111, 117, 116]) true (cond (s == [116, 114, 117, 101]) true (cond (s == [116, 121, 112, 101, 100, 101, 102]) true (cond (s == [117, 110, 108, 101, 115, 115]) true (cond (s == [95]) true (cond (s == [95, 112, 105, 100]) true (cond (s == [95, 110, 114, 95, 112, 114]) true (false)))))))))))))))))))))))))))))))))))))))))))

def stopsP (p : PS) : Option Bool := (seesP p 0 [125]).bind fun b => cond b (some true) ((seesP p 0 [58, 58]).bind fun b => cond b (some true) ((seesP p 0 [102, 105]).bind fun b => cond b (some true) ((seesP p 0 [111, 100]).bind fun b => some b)))

theorem W11 (p : PS) : callW ip 10 [.c (.ptr 0 0)] [pBox p] = some (.ret [.c (.d (.bo (okP p)))], [pBox p]) := by
  refine callW_runs (fn := Tryd.f10) (L := long10) (nt := 9) (n0 := 1) (T := tab) (rw' := []) (kA := keepA) Tryd.func10 rfl rfl rfl rfl rfl rfl rfl rfl rfl ?_
  refine Runs.seq ?_
  refine Runs.reg (by simp only [go_sem, seval]; rfl) (by simp only [long10, go_sem, seval]; rfl) ?_
  refine Runs.seq ?_
  refine Runs.reg (by simp only [go_sem, seval]; rfl) (by simp only [long10, go_sem, seval]; rfl) ?_
  refine Runs.ret ?_
  rfl
theorem W55 (p : PS) (n k : Int) (h : kindP p n = some k) : callW ip 47 [.c (.ptr 0 0), .c (.d (.int .i64 n))] [pBox p] = some (.ret [.c (.d (.int .i64 k))], [pBox p]) := by
  have h0 : True := trivial
  have ht : True := trivial
  simp only [kindP, wadd] at h
  refine callW_runs (fn := Tryd.f47) (L := long47) (nt := 35) (n0 := 1) (T := tab) (rw' := []) (kA := keepA) Tryd.func47 rfl rfl rfl rfl rfl rfl rfl rfl rfl ?_
  refine Runs.seq ?_
  refine Runs.reg (by simp only [go_sem, seval, toks_get, toks_len, h0, ht, W11]; rfl) (by simp only [long47, go_sem, seval]; rfl) ?_
  refine Runs.seq ?_
  refine Runs.seq ?_
  cases hd1 : okP p
  · skip
    try simp only [toks_len, N3] at hd1
    try simp only [hd1, C5] at h
    refine Runs.drw rfl (by simp only [go_sem, seval, toks_get, toks_len, h0, ht, W11, hd1]; rfl) (by simp only [long47, go_sem, seval]; rfl) ?_
    refine Runs.cond (t := 21) rfl (fun hc2 => ?_) (fun hc2 => ?_)
    · first
      | exact absurd hc2 (by decide)
      | exact absurd hc2 (by simp only [hd1]; decide)
      | skip
        try simp only [toks_len, N3] at hc2
        try simp only [hc2, C5] at h
        refine Runs.seq ?_
        refine Runs.reg (by simp only [go_sem, seval, toks_get, toks_len, h0, ht, W11, hd1, hc2]; rfl) (by simp only [long47, go_sem, seval]; rfl) ?_
        refine Runs.ret ?_
        first | rfl | (cases h; rfl)
    · first
      | exact absurd hc2 (by decide)
      | exact absurd hc2 (by simp only [hd1]; decide)
      | skip
        try simp only [toks_len, N3] at hc2
        try simp only [hc2, C5] at h
        refine Runs.skip ?_
        refine Runs.seq ?_
        obtain ⟨t, ht, h⟩ := some_bind h
        obtain ⟨h0, ht⟩ := tokAt_some ht
        refine Runs.drw rfl (by simp only [go_sem, seval, toks_get, toks_len, h0, ht, W11, hd1, hc2]; rfl) (by simp only [long47, go_sem, seval]; rfl) ?_
        refine Runs.ret ?_
        first | rfl | (cases h; rfl)
  · skip
    try simp only [toks_len, N3] at hd1
    try simp only [hd1, C5] at h
    refine Runs.drw rfl (by simp only [go_sem, seval, toks_get, toks_len, h0, ht, W11, hd1]; rfl) (by simp only [long47, go_sem, seval]; rfl) ?_
    refine Runs.cond (t := 21) rfl (fun hc3 => ?_) (fun hc3 => ?_)
    · first
      | exact absurd hc3 (by decide)
      | exact absurd hc3 (by simp only [hd1]; decide)
      | skip
        try simp only [toks_len, N3] at hc3
        try simp only [hc3, C5] at h
        refine Runs.seq ?_
        refine Runs.reg (by simp only [go_sem, seval, toks_get, toks_len, h0, ht, W11, hd1, hc3]; rfl) (by simp only [long47, go_sem, seval]; rfl) ?_
        refine Runs.ret ?_
        first | rfl | (cases h; rfl)
    · first
      | exact absurd hc3 (by decide)
      | exact absurd hc3 (by simp only [hd1]; decide)
      | skip
        try simp only [toks_len, N3] at hc3
        try simp only [hc3, C5] at h
        refine Runs.skip ?_
        refine Runs.seq ?_
        obtain ⟨t, ht, h⟩ := some_bind h
        obtain ⟨h0, ht⟩ := tokAt_some ht
        refine Runs.drw rfl (by simp only [go_sem, seval, toks_get, toks_len, h0, ht, W11, hd1, hc3]; rfl) (by simp only [long47, go_sem, seval]; rfl) ?_
        refine Runs.ret ?_
        first | rfl | (cases h; rfl)
theorem W27 (p : PS) (n : Int) (s : List UInt8) (b : Bool) (h : seesP p n s = some b) : callW ip 22 [.c (.ptr 0 0), .c (.d (.int .i64 n)), .c (.d (.str s))] [pBox p] = some (.ret [.c (.d (.bo b))], [pBox p]) := by
  have h0 : True := trivial
  have ht : True := trivial
  simp only [seesP, wadd] at h
  refine callW_runs (fn := Tryd.f22) (L := long22) (nt := 30) (n0 := 1) (T := tab) (rw' := []) (kA := keepA) Tryd.func22 rfl rfl rfl rfl rfl rfl rfl rfl rfl ?_
  refine Runs.seq ?_
  refine Runs.reg (by simp only [go_sem, seval, toks_get, toks_len, h0, ht]; rfl) (by simp only [long22, go_sem, seval]; rfl) ?_
  refine Runs.seq ?_
  obtain ⟨k, hk, h⟩ := some_bind h
  refine Runs.reg (by simp only [go_sem, seval, toks_get, toks_len, h0, ht, W55 p n _ hk]; rfl) (by simp only [long22, go_sem, seval]; rfl) ?_
  refine Runs.seq ?_
  cases hd1 : (k == 4)
  · skip
    try simp only [toks_len, N3] at hd1
    try simp only [hd1, C5] at h
    refine Runs.drw rfl (by simp only [go_sem, seval, toks_get, toks_len, h0, ht, hd1]; rfl) (by simp only [long22, go_sem, seval]; rfl) ?_
    refine Runs.ret ?_
    first | rfl | (cases h; rfl)
  · skip
    try simp only [toks_len, N3] at hd1
    try simp only [hd1, C5] at h
    obtain ⟨t, ht, h⟩ := some_bind h
    obtain ⟨h0, ht⟩ := tokAt_some ht
    refine Runs.drw rfl (by simp only [go_sem, seval, toks_get, toks_len, h0, ht, hd1]; rfl) (by simp only [long22, go_sem, seval]; rfl) ?_
    refine Runs.ret ?_
    first | rfl | (cases h; rfl)
theorem W25 (p : PS) (s : List UInt8) (b : Bool) (h : seesP p 0 s = some b) : callW ip 20 [.c (.ptr 0 0), .c (.d (.str s))] [pBox p] = some (.ret [.c (.d (.bo b))], [pBox p]) := by
  have h0 : True := trivial
  have ht : True := trivial
  refine callW_runs (fn := Tryd.f20) (L := long20) (nt := 8) (n0 := 1) (T := tab) (rw' := []) (kA := keepA) Tryd.func20 rfl rfl rfl rfl rfl rfl rfl rfl rfl ?_
  refine Runs.seq ?_
  refine Runs.reg (by simp only [go_sem, seval, toks_get, toks_len, h0, ht, W27 p 0 s b h]; rfl) (by simp only [long20, go_sem, seval]; rfl) ?_
  refine Runs.seq ?_
  refine Runs.reg (by simp only [go_sem, seval, toks_get, toks_len, h0, ht, W27 p 0 s b h]; rfl) (by simp only [long20, go_sem, seval]; rfl) ?_
  refine Runs.ret ?_
  rfl
theorem W12 (p : PS) (s : List UInt8) (b : Bool) (q : PS) (h : takeP p s = some (b, q)) : callW ip 11 [.c (.ptr 0 0), .c (.d (.str s))] [pBox p] = some (.ret [.c (.d (.bo b))], [pBox q]) := by
  have h0 : True := trivial
  have ht : True := trivial
  simp only [takeP, wadd] at h
  refine callW_runs (fn := Tryd.f11) (L := long11) (nt := 18) (n0 := 1) (T := tab) (rw' := []) (kA := keepA) Tryd.func11 rfl rfl rfl rfl rfl rfl rfl rfl rfl ?_
  refine Runs.seq ?_
  refine Runs.reg (by simp only [go_sem, seval, toks_get, toks_len, h0, ht]; rfl) (by simp only [long11, go_sem, seval]; rfl) ?_
  refine Runs.seq ?_
  obtain ⟨b1, hb, h⟩ := some_bind h
  refine Runs.reg (by simp only [go_sem, seval, toks_get, toks_len, h0, ht, W25 p s _ hb]; rfl) (by simp only [long11, go_sem, seval]; rfl) ?_
  refine Runs.seq ?_
  refine Runs.seq ?_
  refine Runs.reg (by simp only [go_sem, seval, toks_get, toks_len, h0, ht]; rfl) (by simp only [long11, go_sem, seval]; rfl) ?_
  refine Runs.cond (t := 9) rfl (fun hc1 => ?_) (fun hc1 => ?_)
  · skip
    try simp only [toks_len, N3] at hc1
    try simp only [hc1, C5] at h
    refine Runs.reg (by simp only [go_sem, seval, toks_get, toks_len, h0, ht, hc1]; rfl) (by simp only [long11, go_sem, seval]; rfl) ?_
    refine Runs.seq ?_
    refine Runs.reg (by simp only [go_sem, seval, toks_get, toks_len, h0, ht, hc1]; rfl) (by simp only [long11, go_sem, seval]; rfl) ?_
    refine Runs.ret ?_
    first | rfl | (cases h; rfl)
  try simp only [toks_len, N3] at hc1
  try simp only [hc1, C5] at h
  refine Runs.skip ?_
  refine Runs.seq ?_
  refine Runs.reg (by simp only [go_sem, seval, toks_get, toks_len, h0, ht, hc1]; rfl) (by simp only [long11, go_sem, seval]; rfl) ?_
  refine Runs.ret ?_
  first | rfl | (cases h; rfl)
theorem W56 (p q : PS) (h : wrongP p = some q) : callW ip 48 [.c (.ptr 0 0)] [pBox p] = some (.ret [], [pBox q]) := by
  have h0 : True := trivial
  have ht : True := trivial
  simp only [wrongP] at h
  refine callW_runs (fn := Tryd.f48) (L := long48) (nt := 39) (n0 := 1) (T := tab) (rw' := []) (kA := keepA) Tryd.func48 rfl rfl rfl rfl rfl rfl rfl rfl rfl ?_
  refine Runs.seq ?_
  refine Runs.seq ?_
  refine Runs.reg (by simp only [go_sem, seval, toks_get, toks_len, h0, ht, W11]; rfl) (by simp only [long48, go_sem, seval]; rfl) ?_
  refine Runs.cond (t := 4) rfl (fun hc1 => ?_) (fun hc1 => ?_)
  · skip
    try simp only [toks_len, N3] at hc1
    try simp only [hc1, C5] at h
    refine Runs.ret ?_
    first | rfl | (cases h; rfl)
  try simp only [toks_len, N3] at hc1
  try simp only [hc1, C5] at h
  refine Runs.skip ?_
  refine Runs.seq ?_
  refine Runs.seq ?_
  refine Runs.drw rfl (by simp only [go_sem, seval, toks_get, toks_len, h0, ht, W11, hc1]; rfl) (by simp only [long48, go_sem, seval]; rfl) ?_
  refine Runs.cond (t := 14) rfl (fun hc2 => ?_) (fun hc2 => ?_)
  · skip
    try simp only [toks_len, N3] at hc2
    try simp only [hc2, C5] at h
    refine Runs.seq ?_
    refine Runs.reg (by simp only [go_sem, seval, toks_get, toks_len, h0, ht, W11, hc1, hc2]; rfl) (by simp only [long48, go_sem, seval]; rfl) ?_
    refine Runs.ret ?_
    first | rfl | (cases h; rfl)
  try simp only [toks_len, N3] at hc2
  try simp only [hc2, C5] at h
  refine Runs.skip ?_
  obtain ⟨t, ht, h⟩ := some_bind h
  obtain ⟨h0, ht⟩ := tokAt_some ht
  refine Runs.drw rfl (by simp only [go_sem, seval, toks_get, toks_len, h0, ht, W11, hc1, hc2]; rfl) (by simp only [long48, go_sem, seval]; rfl) ?_
  first | rfl | (cases h; rfl)
theorem W28 (p q : PS) (s : List UInt8) (h : needP p s = some q) : callW ip 23 [.c (.ptr 0 0), .c (.d (.str s))] [pBox p] = some (.ret [], [pBox q]) := by
  have h0 : True := trivial
  have ht : True := trivial
  simp only [needP] at h
  refine callW_runs (fn := Tryd.f23) (L := long23) (nt := 12) (n0 := 1) (T := tab) (rw' := []) (kA := keepA) Tryd.func23 rfl rfl rfl rfl rfl rfl rfl rfl rfl ?_
  refine Runs.seq ?_
  obtain ⟨⟨b1, q1⟩, hb, h⟩ := some_bind h
  refine Runs.reg (by simp only [go_sem, seval, toks_get, toks_len, h0, ht, W12 p s _ _ hb]; rfl) (by simp only [long23, go_sem, seval]; rfl) ?_
  refine Runs.seq ?_
  refine Runs.reg (by simp only [go_sem, seval, toks_get, toks_len, h0, ht]; rfl) (by simp only [long23, go_sem, seval]; rfl) ?_
  refine Runs.cond (t := 9) rfl (fun hc1 => ?_) (fun hc1 => ?_)
  · skip
    try simp only [toks_len, N3] at hc1
    try simp only [hc1, C5] at h
    refine Runs.reg (by simp only [go_sem, seval, toks_get, toks_len, h0, ht, W56 q1 q h, hc1]; rfl) (by simp only [long23, go_sem, seval]; rfl) ?_
    first | rfl | (cases h; rfl)
  try simp only [toks_len, N3] at hc1
  try simp only [hc1, C5] at h
  refine Runs.skip ?_
  first | rfl | (cases h; rfl)
theorem W26 (p : PS) (n : Int) (h : placeP p = some n) : callW ip 21 [.c (.ptr 0 0)] [pBox p] = some (.ret [.c (.d (.int .i64 n))], [pBox p]) := by
  have h0 : True := trivial
  have ht : True := trivial
  simp only [placeP] at h
  refine callW_runs (fn := Tryd.f21) (L := long21) (nt := 29) (n0 := 1) (T := tab) (rw' := []) (kA := keepA) Tryd.func21 rfl rfl rfl rfl rfl rfl rfl rfl rfl ?_
  refine Runs.seq ?_
  refine Runs.reg (by simp only [go_sem, seval, toks_get, toks_len, h0, ht]; rfl) (by simp only [long21, go_sem, seval]; rfl) ?_
  refine Runs.seq ?_
  refine Runs.seq ?_
  refine Runs.drw rfl (by simp only [go_sem, seval, toks_get, toks_len, h0, ht]; rfl) (by simp only [long21, go_sem, seval]; rfl) ?_
  refine Runs.cond (t := 12) rfl (fun hc1 => ?_) (fun hc1 => ?_)
  · skip
    try simp only [toks_len, N3] at hc1
    try simp only [hc1, C5] at h
    refine Runs.seq ?_
    obtain ⟨t, ht, h⟩ := some_bind h
    obtain ⟨h0, ht⟩ := tokAt_some ht
    refine Runs.drw rfl (by simp only [go_sem, seval, toks_get, toks_len, h0, ht, hc1]; rfl) (by simp only [long21, go_sem, seval]; rfl) ?_
    refine Runs.ret ?_
    first | rfl | (cases h; rfl)
  try simp only [toks_len, N3] at hc1
  try simp only [hc1, C5] at h
  refine Runs.skip ?_
  refine Runs.seq ?_
  refine Runs.reg (by simp only [go_sem, seval, toks_get, toks_len, h0, ht, hc1]; rfl) (by simp only [long21, go_sem, seval]; rfl) ?_
  refine Runs.ret ?_
  first | rfl | (cases h; rfl)
theorem W30 (p q : PS) (s : List UInt8) (h : idP p = some (s, q)) : callW ip 25 [.c (.ptr 0 0)] [pBox p] = some (.ret [.c (.d (.str s))], [pBox q]) := by
  have h0 : True := trivial
  have ht : True := trivial
  simp only [idP, wadd, wsub, incP] at h
  refine callW_runs (fn := Tryd.f25) (L := long25) (nt := 27) (n0 := 1) (T := tab) (rw' := []) (kA := keepA) Tryd.func25 rfl rfl rfl rfl rfl rfl rfl rfl rfl ?_
  refine Runs.seq ?_
  refine Runs.reg (by simp only [go_sem, seval, toks_get, toks_len, h0, ht]; rfl) (by simp only [long25, go_sem, seval]; rfl) ?_
  refine Runs.seq ?_
  refine Runs.seq ?_
  obtain ⟨k, hk, h⟩ := some_bind h
  refine Runs.reg (by simp only [go_sem, seval, toks_get, toks_len, h0, ht, W55 p 0 _ hk]; rfl) (by simp only [long25, go_sem, seval]; rfl) ?_
  refine Runs.cond (t := 5) rfl (fun hc1 => ?_) (fun hc1 => ?_)
  · skip
    try simp only [toks_len, N3] at hc1
    try simp only [hc1, C5] at h
    refine Runs.seq ?_
    obtain ⟨q1, hq, h⟩ := some_bind h
    refine Runs.reg (by simp only [go_sem, seval, toks_get, toks_len, h0, ht, W56 p _ hq, hc1]; rfl) (by simp only [long25, go_sem, seval]; rfl) ?_
    refine Runs.seq ?_
    refine Runs.reg (by simp only [go_sem, seval, toks_get, toks_len, h0, ht, hc1]; rfl) (by simp only [long25, go_sem, seval]; rfl) ?_
    refine Runs.ret ?_
    first | rfl | (cases h; rfl)
  try simp only [toks_len, N3] at hc1
  try simp only [hc1, C5] at h
  refine Runs.skip ?_
  refine Runs.seq ?_
  refine Runs.reg (by simp only [go_sem, seval, toks_get, toks_len, h0, ht, hc1]; rfl) (by simp only [long25, go_sem, seval]; rfl) ?_
  refine Runs.seq ?_
  obtain ⟨t, ht, h⟩ := some_bind h
  obtain ⟨h0, ht⟩ := tokAt_some ht
  refine Runs.drw rfl (by simp only [go_sem, seval, toks_get, toks_len, h0, ht, hc1]; rfl) (by simp only [long25, go_sem, seval]; rfl) ?_
  refine Runs.ret ?_
  first | rfl | (cases h; rfl)
theorem W54 (c : Int) (b : Bool) (h : oneP c = b) : callW ip 46 [.c (.d (.int .u8 c))] [] = some (.ret [.c (.d (.bo b))], []) := by
  simp only [oneP] at h
  refine callW_runs (fn := Tryd.f46) (L := long46) (nt := 30) (n0 := 0) (T := tab) (rw' := []) (kA := keepA) Tryd.func46 rfl rfl rfl rfl rfl rfl rfl rfl rfl ?_
  refine Runs.seq ?_
  refine Runs.reg (by simp only [go_sem, seval]; rfl) (by simp only [long46, go_sem, seval]; rfl) ?_
  refine Runs.seq ?_
  refine Runs.seq ?_
  refine Runs.reg (by simp only [go_sem, seval]; rfl) (by simp only [long46, go_sem, seval]; rfl) ?_
  refine Runs.block ?_
  refine Runs.seq ?_
  refine Runs.seq ?_
  refine Runs.reg (by simp only [go_sem, seval]; rfl) (by simp only [long46, go_sem, seval]; rfl) ?_
  refine Runs.cond (t := 4) rfl (fun hc1 => ?_) (fun hc1 => ?_)
  · skip
    try simp only [toks_len, N3] at hc1
    try simp only [hc1, C5] at h
    refine Runs.skip ?_
    refine Runs.cond (t := 4) rfl (fun hc2 => ?_) (fun hc2 => ?_)
    rotate_left
    · exact absurd hc2 (by first | decide | (simp only [hc1]; decide))
    try simp only [toks_len, N3] at hc2
    try simp only [hc2, C5] at h
    refine Runs.seq ?_
    refine Runs.reg (by simp only [go_sem, seval, hc1]; rfl) (by simp only [long46, go_sem, seval]; rfl) ?_
    refine Runs.ret ?_
    first | rfl | (cases h; rfl)
  try simp only [toks_len, N3] at hc1
  try simp only [hc1, C5] at h
  refine Runs.seq ?_
  refine Runs.reg (by simp only [go_sem, seval, hc1]; rfl) (by simp only [long46, go_sem, seval]; rfl) ?_
  refine Runs.cond (t := 4) rfl (fun hc3 => ?_) (fun hc3 => ?_)
  · skip
    try simp only [toks_len, N3] at hc3
    try simp only [hc3, C5] at h
    refine Runs.skip ?_
    refine Runs.cond (t := 4) rfl (fun hc4 => ?_) (fun hc4 => ?_)
    rotate_left
    · exact absurd hc4 (by first | decide | (simp only [hc1, hc3]; decide))
    try simp only [toks_len, N3] at hc4
    try simp only [hc4, C5] at h
    refine Runs.seq ?_
    refine Runs.reg (by simp only [go_sem, seval, hc1, hc3]; rfl) (by simp only [long46, go_sem, seval]; rfl) ?_
    refine Runs.ret ?_
    first | rfl | (cases h; rfl)
  try simp only [toks_len, N3] at hc3
  try simp only [hc3, C5] at h
  refine Runs.seq ?_
  refine Runs.reg (by simp only [go_sem, seval, hc1, hc3]; rfl) (by simp only [long46, go_sem, seval]; rfl) ?_
  refine Runs.cond (t := 4) rfl (fun hc5 => ?_) (fun hc5 => ?_)
  · skip
    try simp only [toks_len, N3] at hc5
    try simp only [hc5, C5] at h
    refine Runs.skip ?_
    refine Runs.cond (t := 4) rfl (fun hc6 => ?_) (fun hc6 => ?_)
    rotate_left
    · exact absurd hc6 (by first | decide | (simp only [hc1, hc3, hc5]; decide))
    try simp only [toks_len, N3] at hc6
    try simp only [hc6, C5] at h
    refine Runs.seq ?_
    refine Runs.reg (by simp only [go_sem, seval, hc1, hc3, hc5]; rfl) (by simp only [long46, go_sem, seval]; rfl) ?_
    refine Runs.ret ?_
    first | rfl | (cases h; rfl)
  try simp only [toks_len, N3] at hc5
  try simp only [hc5, C5] at h
  refine Runs.seq ?_
  refine Runs.reg (by simp only [go_sem, seval, hc1, hc3, hc5]; rfl) (by simp only [long46, go_sem, seval]; rfl) ?_
  refine Runs.cond (t := 4) rfl (fun hc7 => ?_) (fun hc7 => ?_)
  · skip
    try simp only [toks_len, N3] at hc7
    try simp only [hc7, C5] at h
    refine Runs.skip ?_
    refine Runs.cond (t := 4) rfl (fun hc8 => ?_) (fun hc8 => ?_)
    rotate_left
    · exact absurd hc8 (by first | decide | (simp only [hc1, hc3, hc5, hc7]; decide))
    try simp only [toks_len, N3] at hc8
    try simp only [hc8, C5] at h
    refine Runs.seq ?_
    refine Runs.reg (by simp only [go_sem, seval, hc1, hc3, hc5, hc7]; rfl) (by simp only [long46, go_sem, seval]; rfl) ?_
    refine Runs.ret ?_
    first | rfl | (cases h; rfl)
  try simp only [toks_len, N3] at hc7
  try simp only [hc7, C5] at h
  refine Runs.seq ?_
  refine Runs.reg (by simp only [go_sem, seval, hc1, hc3, hc5, hc7]; rfl) (by simp only [long46, go_sem, seval]; rfl) ?_
  refine Runs.cond (t := 4) rfl (fun hc9 => ?_) (fun hc9 => ?_)
  · skip
    try simp only [toks_len, N3] at hc9
    try simp only [hc9, C5] at h
    refine Runs.skip ?_
    refine Runs.cond (t := 4) rfl (fun hc10 => ?_) (fun hc10 => ?_)
    rotate_left
    · exact absurd hc10 (by first | decide | (simp only [hc1, hc3, hc5, hc7, hc9]; decide))
    try simp only [toks_len, N3] at hc10
    try simp only [hc10, C5] at h
    refine Runs.seq ?_
    refine Runs.reg (by simp only [go_sem, seval, hc1, hc3, hc5, hc7, hc9]; rfl) (by simp only [long46, go_sem, seval]; rfl) ?_
    refine Runs.ret ?_
    first | rfl | (cases h; rfl)
  try simp only [toks_len, N3] at hc9
  try simp only [hc9, C5] at h
  refine Runs.seq ?_
  refine Runs.reg (by simp only [go_sem, seval, hc1, hc3, hc5, hc7, hc9]; rfl) (by simp only [long46, go_sem, seval]; rfl) ?_
  refine Runs.cond (t := 4) rfl (fun hc11 => ?_) (fun hc11 => ?_)
  · skip
    try simp only [toks_len, N3] at hc11
    try simp only [hc11, C5] at h
    refine Runs.skip ?_
    refine Runs.cond (t := 4) rfl (fun hc12 => ?_) (fun hc12 => ?_)
    rotate_left
    · exact absurd hc12 (by first | decide | (simp only [hc1, hc3, hc5, hc7, hc9, hc11]; decide))
    try simp only [toks_len, N3] at hc12
    try simp only [hc12, C5] at h
    refine Runs.seq ?_
    refine Runs.reg (by simp only [go_sem, seval, hc1, hc3, hc5, hc7, hc9, hc11]; rfl) (by simp only [long46, go_sem, seval]; rfl) ?_
    refine Runs.ret ?_
    first | rfl | (cases h; rfl)
  try simp only [toks_len, N3] at hc11
  try simp only [hc11, C5] at h
  refine Runs.seq ?_
  refine Runs.reg (by simp only [go_sem, seval, hc1, hc3, hc5, hc7, hc9, hc11]; rfl) (by simp only [long46, go_sem, seval]; rfl) ?_
  refine Runs.cond (t := 4) rfl (fun hc13 => ?_) (fun hc13 => ?_)
  · skip
    try simp only [toks_len, N3] at hc13
    try simp only [hc13, C5] at h
    refine Runs.skip ?_
    refine Runs.cond (t := 4) rfl (fun hc14 => ?_) (fun hc14 => ?_)
    rotate_left
    · exact absurd hc14 (by first | decide | (simp only [hc1, hc3, hc5, hc7, hc9, hc11, hc13]; decide))
    try simp only [toks_len, N3] at hc14
    try simp only [hc14, C5] at h
    refine Runs.seq ?_
    refine Runs.reg (by simp only [go_sem, seval, hc1, hc3, hc5, hc7, hc9, hc11, hc13]; rfl) (by simp only [long46, go_sem, seval]; rfl) ?_
    refine Runs.ret ?_
    first | rfl | (cases h; rfl)
  try simp only [toks_len, N3] at hc13
  try simp only [hc13, C5] at h
  refine Runs.seq ?_
  refine Runs.reg (by simp only [go_sem, seval, hc1, hc3, hc5, hc7, hc9, hc11, hc13]; rfl) (by simp only [long46, go_sem, seval]; rfl) ?_
  refine Runs.cond (t := 4) rfl (fun hc15 => ?_) (fun hc15 => ?_)
  · skip
    try simp only [toks_len, N3] at hc15
    try simp only [hc15, C5] at h
    refine Runs.skip ?_
    refine Runs.cond (t := 4) rfl (fun hc16 => ?_) (fun hc16 => ?_)
    rotate_left
    · exact absurd hc16 (by first | decide | (simp only [hc1, hc3, hc5, hc7, hc9, hc11, hc13, hc15]; decide))
    try simp only [toks_len, N3] at hc16
    try simp only [hc16, C5] at h
    refine Runs.seq ?_
    refine Runs.reg (by simp only [go_sem, seval, hc1, hc3, hc5, hc7, hc9, hc11, hc13, hc15]; rfl) (by simp only [long46, go_sem, seval]; rfl) ?_
    refine Runs.ret ?_
    first | rfl | (cases h; rfl)
  try simp only [toks_len, N3] at hc15
  try simp only [hc15, C5] at h
  refine Runs.seq ?_
  refine Runs.reg (by simp only [go_sem, seval, hc1, hc3, hc5, hc7, hc9, hc11, hc13, hc15]; rfl) (by simp only [long46, go_sem, seval]; rfl) ?_
  refine Runs.cond (t := 4) rfl (fun hc17 => ?_) (fun hc17 => ?_)
  · skip
    try simp only [toks_len, N3] at hc17
    try simp only [hc17, C5] at h
    refine Runs.skip ?_
    refine Runs.cond (t := 4) rfl (fun hc18 => ?_) (fun hc18 => ?_)
    rotate_left
    · exact absurd hc18 (by first | decide | (simp only [hc1, hc3, hc5, hc7, hc9, hc11, hc13, hc15, hc17]; decide))
    try simp only [toks_len, N3] at hc18
    try simp only [hc18, C5] at h
    refine Runs.seq ?_
    refine Runs.reg (by simp only [go_sem, seval, hc1, hc3, hc5, hc7, hc9, hc11, hc13, hc15, hc17]; rfl) (by simp only [long46, go_sem, seval]; rfl) ?_
    refine Runs.ret ?_
    first | rfl | (cases h; rfl)
  try simp only [toks_len, N3] at hc17
  try simp only [hc17, C5] at h
  refine Runs.seq ?_
  refine Runs.reg (by simp only [go_sem, seval, hc1, hc3, hc5, hc7, hc9, hc11, hc13, hc15, hc17]; rfl) (by simp only [long46, go_sem, seval]; rfl) ?_
  refine Runs.cond (t := 4) rfl (fun hc19 => ?_) (fun hc19 => ?_)
  · skip
    try simp only [toks_len, N3] at hc19
    try simp only [hc19, C5] at h
    refine Runs.skip ?_
    refine Runs.cond (t := 4) rfl (fun hc20 => ?_) (fun hc20 => ?_)
    rotate_left
    · exact absurd hc20 (by first | decide | (simp only [hc1, hc3, hc5, hc7, hc9, hc11, hc13, hc15, hc17, hc19]; decide))
    try simp only [toks_len, N3] at hc20
    try simp only [hc20, C5] at h
    refine Runs.seq ?_
    refine Runs.reg (by simp only [go_sem, seval, hc1, hc3, hc5, hc7, hc9, hc11, hc13, hc15, hc17, hc19]; rfl) (by simp only [long46, go_sem, seval]; rfl) ?_
    refine Runs.ret ?_
    first | rfl | (cases h; rfl)
  try simp only [toks_len, N3] at hc19
  try simp only [hc19, C5] at h
  refine Runs.seq ?_
  refine Runs.reg (by simp only [go_sem, seval, hc1, hc3, hc5, hc7, hc9, hc11, hc13, hc15, hc17, hc19]; rfl) (by simp only [long46, go_sem, seval]; rfl) ?_
  refine Runs.cond (t := 4) rfl (fun hc21 => ?_) (fun hc21 => ?_)
  · skip
    try simp only [toks_len, N3] at hc21
    try simp only [hc21, C5] at h
    refine Runs.skip ?_
    refine Runs.cond (t := 4) rfl (fun hc22 => ?_) (fun hc22 => ?_)
    rotate_left
    · exact absurd hc22 (by first | decide | (simp only [hc1, hc3, hc5, hc7, hc9, hc11, hc13, hc15, hc17, hc19, hc21]; decide))
    try simp only [toks_len, N3] at hc22
    try simp only [hc22, C5] at h
    refine Runs.seq ?_
    refine Runs.reg (by simp only [go_sem, seval, hc1, hc3, hc5, hc7, hc9, hc11, hc13, hc15, hc17, hc19, hc21]; rfl) (by simp only [long46, go_sem, seval]; rfl) ?_
    refine Runs.ret ?_
    first | rfl | (cases h; rfl)
  try simp only [toks_len, N3] at hc21
  try simp only [hc21, C5] at h
  refine Runs.seq ?_
  refine Runs.reg (by simp only [go_sem, seval, hc1, hc3, hc5, hc7, hc9, hc11, hc13, hc15, hc17, hc19, hc21]; rfl) (by simp only [long46, go_sem, seval]; rfl) ?_
  refine Runs.cond (t := 4) rfl (fun hc23 => ?_) (fun hc23 => ?_)
  · skip
    try simp only [toks_len, N3] at hc23
    try simp only [hc23, C5] at h
    refine Runs.skip ?_
    refine Runs.cond (t := 4) rfl (fun hc24 => ?_) (fun hc24 => ?_)
    rotate_left
    · exact absurd hc24 (by first | decide | (simp only [hc1, hc3, hc5, hc7, hc9, hc11, hc13, hc15, hc17, hc19, hc21, hc23]; decide))
    try simp only [toks_len, N3] at hc24
    try simp only [hc24, C5] at h
    refine Runs.seq ?_
    refine Runs.reg (by simp only [go_sem, seval, hc1, hc3, hc5, hc7, hc9, hc11, hc13, hc15, hc17, hc19, hc21, hc23]; rfl) (by simp only [long46, go_sem, seval]; rfl) ?_
    refine Runs.ret ?_
    first | rfl | (cases h; rfl)
  try simp only [toks_len, N3] at hc23
  try simp only [hc23, C5] at h
  refine Runs.seq ?_
  refine Runs.reg (by simp only [go_sem, seval, hc1, hc3, hc5, hc7, hc9, hc11, hc13, hc15, hc17, hc19, hc21, hc23]; rfl) (by simp only [long46, go_sem, seval]; rfl) ?_
  refine Runs.cond (t := 4) rfl (fun hc25 => ?_) (fun hc25 => ?_)
  · skip
    try simp only [toks_len, N3] at hc25
    try simp only [hc25, C5] at h
    refine Runs.skip ?_
    refine Runs.cond (t := 4) rfl (fun hc26 => ?_) (fun hc26 => ?_)
    rotate_left
    · exact absurd hc26 (by first | decide | (simp only [hc3, hc5, hc7, hc9, hc11, hc13, hc15, hc17, hc19, hc21, hc23, hc25]; decide))
    try simp only [toks_len, N3] at hc26
    try simp only [hc26, C5] at h
    refine Runs.seq ?_
    refine Runs.reg (by simp only [go_sem, seval, hc1, hc3, hc5, hc7, hc9, hc11, hc13, hc15, hc17, hc19, hc21, hc23, hc25]; rfl) (by simp only [long46, go_sem, seval]; rfl) ?_
    refine Runs.ret ?_
    first | rfl | (cases h; rfl)
  try simp only [toks_len, N3] at hc25
  try simp only [hc25, C5] at h
  refine Runs.seq ?_
  refine Runs.reg (by simp only [go_sem, seval, hc1, hc3, hc5, hc7, hc9, hc11, hc13, hc15, hc17, hc19, hc21, hc23, hc25]; rfl) (by simp only [long46, go_sem, seval]; rfl) ?_
  refine Runs.cond (t := 4) rfl (fun hc27 => ?_) (fun hc27 => ?_)
  · skip
    try simp only [toks_len, N3] at hc27
    try simp only [hc27, C5] at h
    refine Runs.skip ?_
    refine Runs.cond (t := 4) rfl (fun hc28 => ?_) (fun hc28 => ?_)
    rotate_left
    · exact absurd hc28 (by first | decide | (simp only [hc5, hc7, hc9, hc11, hc13, hc15, hc17, hc19, hc21, hc23, hc25, hc27]; decide))
    try simp only [toks_len, N3] at hc28
    try simp only [hc28, C5] at h
    refine Runs.seq ?_
    refine Runs.reg (by simp only [go_sem, seval, hc1, hc3, hc5, hc7, hc9, hc11, hc13, hc15, hc17, hc19, hc21, hc23, hc25, hc27]; rfl) (by simp only [long46, go_sem, seval]; rfl) ?_
    refine Runs.ret ?_
    first | rfl | (cases h; rfl)
  try simp only [toks_len, N3] at hc27
  try simp only [hc27, C5] at h
  refine Runs.seq ?_
  refine Runs.reg (by simp only [go_sem, seval, hc1, hc3, hc5, hc7, hc9, hc11, hc13, hc15, hc17, hc19, hc21, hc23, hc25, hc27]; rfl) (by simp only [long46, go_sem, seval]; rfl) ?_
  refine Runs.cond (t := 4) rfl (fun hc29 => ?_) (fun hc29 => ?_)
  · skip
    try simp only [toks_len, N3] at hc29
    try simp only [hc29, C5] at h
    refine Runs.skip ?_
    refine Runs.cond (t := 4) rfl (fun hc30 => ?_) (fun hc30 => ?_)
    rotate_left
    · exact absurd hc30 (by first | decide | (simp only [hc7, hc9, hc11, hc13, hc15, hc17, hc19, hc21, hc23, hc25, hc27, hc29]; decide))
    try simp only [toks_len, N3] at hc30
    try simp only [hc30, C5] at h
    refine Runs.seq ?_
    refine Runs.reg (by simp only [go_sem, seval, hc1, hc3, hc5, hc7, hc9, hc11, hc13, hc15, hc17, hc19, hc21, hc23, hc25, hc27, hc29]; rfl) (by simp only [long46, go_sem, seval]; rfl) ?_
    refine Runs.ret ?_
    first | rfl | (cases h; rfl)
  try simp only [toks_len, N3] at hc29
  try simp only [hc29, C5] at h
  refine Runs.seq ?_
  refine Runs.reg (by simp only [go_sem, seval, hc1, hc3, hc5, hc7, hc9, hc11, hc13, hc15, hc17, hc19, hc21, hc23, hc25, hc27, hc29]; rfl) (by simp only [long46, go_sem, seval]; rfl) ?_
  refine Runs.cond (t := 4) rfl (fun hc31 => ?_) (fun hc31 => ?_)
  · skip
    try simp only [toks_len, N3] at hc31
    try simp only [hc31, C5] at h
    refine Runs.skip ?_
    refine Runs.cond (t := 4) rfl (fun hc32 => ?_) (fun hc32 => ?_)
    rotate_left
    · exact absurd hc32 (by first | decide | (simp only [hc9, hc11, hc13, hc15, hc17, hc19, hc21, hc23, hc25, hc27, hc29, hc31]; decide))
    try simp only [toks_len, N3] at hc32
    try simp only [hc32, C5] at h
    refine Runs.seq ?_
    refine Runs.reg (by simp only [go_sem, seval, hc1, hc3, hc5, hc7, hc9, hc11, hc13, hc15, hc17, hc19, hc21, hc23, hc25, hc27, hc29, hc31]; rfl) (by simp only [long46, go_sem, seval]; rfl) ?_
    refine Runs.ret ?_
    first | rfl | (cases h; rfl)
  try simp only [toks_len, N3] at hc31
  try simp only [hc31, C5] at h
  refine Runs.seq ?_
  refine Runs.reg (by simp only [go_sem, seval, hc1, hc3, hc5, hc7, hc9, hc11, hc13, hc15, hc17, hc19, hc21, hc23, hc25, hc27, hc29, hc31]; rfl) (by simp only [long46, go_sem, seval]; rfl) ?_
  refine Runs.cond (t := 4) rfl (fun hc33 => ?_) (fun hc33 => ?_)
  · skip
    try simp only [toks_len, N3] at hc33
    try simp only [hc33, C5] at h
    refine Runs.skip ?_
    refine Runs.cond (t := 4) rfl (fun hc34 => ?_) (fun hc34 => ?_)
    rotate_left
    · exact absurd hc34 (by first | decide | (simp only [hc11, hc13, hc15, hc17, hc19, hc21, hc23, hc25, hc27, hc29, hc31, hc33]; decide))
    try simp only [toks_len, N3] at hc34
    try simp only [hc34, C5] at h
    refine Runs.seq ?_
    refine Runs.reg (by simp only [go_sem, seval, hc1, hc3, hc5, hc7, hc9, hc11, hc13, hc15, hc17, hc19, hc21, hc23, hc25, hc27, hc29, hc31, hc33]; rfl) (by simp only [long46, go_sem, seval]; rfl) ?_
    refine Runs.ret ?_
    first | rfl | (cases h; rfl)
  try simp only [toks_len, N3] at hc33
  try simp only [hc33, C5] at h
  refine Runs.seq ?_
  refine Runs.reg (by simp only [go_sem, seval, hc1, hc3, hc5, hc7, hc9, hc11, hc13, hc15, hc17, hc19, hc21, hc23, hc25, hc27, hc29, hc31, hc33]; rfl) (by simp only [long46, go_sem, seval]; rfl) ?_
  refine Runs.cond (t := 4) rfl (fun hc35 => ?_) (fun hc35 => ?_)
  · skip
    try simp only [toks_len, N3] at hc35
    try simp only [hc35, C5] at h
    refine Runs.skip ?_
    refine Runs.cond (t := 4) rfl (fun hc36 => ?_) (fun hc36 => ?_)
    rotate_left
    · exact absurd hc36 (by first | decide | (simp only [hc13, hc15, hc17, hc19, hc21, hc23, hc25, hc27, hc29, hc31, hc33, hc35]; decide))
    try simp only [toks_len, N3] at hc36
    try simp only [hc36, C5] at h
    refine Runs.seq ?_
    refine Runs.reg (by simp only [go_sem, seval, hc1, hc3, hc5, hc7, hc9, hc11, hc13, hc15, hc17, hc19, hc21, hc23, hc25, hc27, hc29, hc31, hc33, hc35]; rfl) (by simp only [long46, go_sem, seval]; rfl) ?_
    refine Runs.ret ?_
    first | rfl | (cases h; rfl)
  try simp only [toks_len, N3] at hc35
  try simp only [hc35, C5] at h
  refine Runs.seq ?_
  refine Runs.reg (by simp only [go_sem, seval, hc1, hc3, hc5, hc7, hc9, hc11, hc13, hc15, hc17, hc19, hc21, hc23, hc25, hc27, hc29, hc31, hc33, hc35]; rfl) (by simp only [long46, go_sem, seval]; rfl) ?_
  refine Runs.cond (t := 4) rfl (fun hc37 => ?_) (fun hc37 => ?_)
  · skip
    try simp only [toks_len, N3] at hc37
    try simp only [hc37, C5] at h
    refine Runs.skip ?_
    refine Runs.cond (t := 4) rfl (fun hc38 => ?_) (fun hc38 => ?_)
    rotate_left
    · exact absurd hc38 (by first | decide | (simp only [hc15, hc17, hc19, hc21, hc23, hc25, hc27, hc29, hc31, hc33, hc35, hc37]; decide))
    try simp only [toks_len, N3] at hc38
    try simp only [hc38, C5] at h
    refine Runs.seq ?_
    refine Runs.reg (by simp only [go_sem, seval, hc1, hc3, hc5, hc7, hc9, hc11, hc13, hc15, hc17, hc19, hc21, hc23, hc25, hc27, hc29, hc31, hc33, hc35, hc37]; rfl) (by simp only [long46, go_sem, seval]; rfl) ?_
    refine Runs.ret ?_
    first | rfl | (cases h; rfl)
  try simp only [toks_len, N3] at hc37
  try simp only [hc37, C5] at h
  refine Runs.seq ?_
  refine Runs.reg (by simp only [go_sem, seval, hc1, hc3, hc5, hc7, hc9, hc11, hc13, hc15, hc17, hc19, hc21, hc23, hc25, hc27, hc29, hc31, hc33, hc35, hc37]; rfl) (by simp only [long46, go_sem, seval]; rfl) ?_
  refine Runs.cond (t := 4) rfl (fun hc39 => ?_) (fun hc39 => ?_)
  · skip
    try simp only [toks_len, N3] at hc39
    try simp only [hc39, C5] at h
    refine Runs.skip ?_
    refine Runs.cond (t := 4) rfl (fun hc40 => ?_) (fun hc40 => ?_)
    rotate_left
    · exact absurd hc40 (by first | decide | (simp only [hc17, hc19, hc21, hc23, hc25, hc27, hc29, hc31, hc33, hc35, hc37, hc39]; decide))
    try simp only [toks_len, N3] at hc40
    try simp only [hc40, C5] at h
    refine Runs.seq ?_
    refine Runs.reg (by simp only [go_sem, seval, hc1, hc3, hc5, hc7, hc9, hc11, hc13, hc15, hc17, hc19, hc21, hc23, hc25, hc27, hc29, hc31, hc33, hc35, hc37, hc39]; rfl) (by simp only [long46, go_sem, seval]; rfl) ?_
    refine Runs.ret ?_
    first | rfl | (cases h; rfl)
  try simp only [toks_len, N3] at hc39
  try simp only [hc39, C5] at h
  refine Runs.seq ?_
  refine Runs.reg (by simp only [go_sem, seval, hc1, hc3, hc5, hc7, hc9, hc11, hc13, hc15, hc17, hc19, hc21, hc23, hc25, hc27, hc29, hc31, hc33, hc35, hc37, hc39]; rfl) (by simp only [long46, go_sem, seval]; rfl) ?_
  refine Runs.cond (t := 4) rfl (fun hc41 => ?_) (fun hc41 => ?_)
  · skip
    try simp only [toks_len, N3] at hc41
    try simp only [hc41, C5] at h
    refine Runs.skip ?_
    refine Runs.cond (t := 4) rfl (fun hc42 => ?_) (fun hc42 => ?_)
    rotate_left
    · exact absurd hc42 (by first | decide | (simp only [hc19, hc21, hc23, hc25, hc27, hc29, hc31, hc33, hc35, hc37, hc39, hc41]; decide))
    try simp only [toks_len, N3] at hc42
    try simp only [hc42, C5] at h
    refine Runs.seq ?_
    refine Runs.reg (by simp only [go_sem, seval, hc1, hc3, hc5, hc7, hc9, hc11, hc13, hc15, hc17, hc19, hc21, hc23, hc25, hc27, hc29, hc31, hc33, hc35, hc37, hc39, hc41]; rfl) (by simp only [long46, go_sem, seval]; rfl) ?_
    refine Runs.ret ?_
    first | rfl | (cases h; rfl)
  try simp only [toks_len, N3] at hc41
  try simp only [hc41, C5] at h
  refine Runs.seq ?_
  refine Runs.reg (by simp only [go_sem, seval, hc1, hc3, hc5, hc7, hc9, hc11, hc13, hc15, hc17, hc19, hc21, hc23, hc25, hc27, hc29, hc31, hc33, hc35, hc37, hc39, hc41]; rfl) (by simp only [long46, go_sem, seval]; rfl) ?_
  refine Runs.cond (t := 4) rfl (fun hc43 => ?_) (fun hc43 => ?_)
  · skip
    try simp only [toks_len, N3] at hc43
    try simp only [hc43, C5] at h
    refine Runs.skip ?_
    refine Runs.cond (t := 4) rfl (fun hc44 => ?_) (fun hc44 => ?_)
    rotate_left
    · exact absurd hc44 (by first | decide | (simp only [hc21, hc23, hc25, hc27, hc29, hc31, hc33, hc35, hc37, hc39, hc41, hc43]; decide))
    try simp only [toks_len, N3] at hc44
    try simp only [hc44, C5] at h
    refine Runs.seq ?_
    refine Runs.reg (by simp only [go_sem, seval, hc1, hc3, hc5, hc7, hc9, hc11, hc13, hc15, hc17, hc19, hc21, hc23, hc25, hc27, hc29, hc31, hc33, hc35, hc37, hc39, hc41, hc43]; rfl) (by simp only [long46, go_sem, seval]; rfl) ?_
    refine Runs.ret ?_
    first | rfl | (cases h; rfl)
  try simp only [toks_len, N3] at hc43
  try simp only [hc43, C5] at h
  refine Runs.seq ?_
  refine Runs.reg (by simp only [go_sem, seval, hc1, hc3, hc5, hc7, hc9, hc11, hc13, hc15, hc17, hc19, hc21, hc23, hc25, hc27, hc29, hc31, hc33, hc35, hc37, hc39, hc41, hc43]; rfl) (by simp only [long46, go_sem, seval]; rfl) ?_
  refine Runs.cond (t := 4) rfl (fun hc45 => ?_) (fun hc45 => ?_)
  · skip
    try simp only [toks_len, N3] at hc45
    try simp only [hc45, C5] at h
    refine Runs.skip ?_
    refine Runs.cond (t := 4) rfl (fun hc46 => ?_) (fun hc46 => ?_)
    rotate_left
    · exact absurd hc46 (by first | decide | (simp only [hc23, hc25, hc27, hc29, hc31, hc33, hc35, hc37, hc39, hc41, hc43, hc45]; decide))
    try simp only [toks_len, N3] at hc46
    try simp only [hc46, C5] at h
    refine Runs.seq ?_
    refine Runs.reg (by simp only [go_sem, seval, hc1, hc3, hc5, hc7, hc9, hc11, hc13, hc15, hc17, hc19, hc21, hc23, hc25, hc27, hc29, hc31, hc33, hc35, hc37, hc39, hc41, hc43, hc45]; rfl) (by simp only [long46, go_sem, seval]; rfl) ?_
    refine Runs.ret ?_
    first | rfl | (cases h; rfl)
  try simp only [toks_len, N3] at hc45
  try simp only [hc45, C5] at h
  refine Runs.seq ?_
  refine Runs.reg (by simp only [go_sem, seval, hc1, hc3, hc5, hc7, hc9, hc11, hc13, hc15, hc17, hc19, hc21, hc23, hc25, hc27, hc29, hc31, hc33, hc35, hc37, hc39, hc41, hc43, hc45]; rfl) (by simp only [long46, go_sem, seval]; rfl) ?_
  refine Runs.cond (t := 4) rfl (fun hc47 => ?_) (fun hc47 => ?_)
  · skip
    try simp only [toks_len, N3] at hc47
    try simp only [hc47, C5] at h
    refine Runs.skip ?_
    refine Runs.cond (t := 4) rfl (fun hc48 => ?_) (fun hc48 => ?_)
    rotate_left
    · exact absurd hc48 (by first | decide | (simp only [hc25, hc27, hc29, hc31, hc33, hc35, hc37, hc39, hc41, hc43, hc45, hc47]; decide))
    try simp only [toks_len, N3] at hc48
    try simp only [hc48, C5] at h
    refine Runs.seq ?_
    refine Runs.reg (by simp only [go_sem, seval, hc1, hc3, hc5, hc7, hc9, hc11, hc13, hc15, hc17, hc19, hc21, hc23, hc25, hc27, hc29, hc31, hc33, hc35, hc37, hc39, hc41, hc43, hc45, hc47]; rfl) (by simp only [long46, go_sem, seval]; rfl) ?_
    refine Runs.ret ?_
    first | rfl | (cases h; rfl)
  try simp only [toks_len, N3] at hc47
  try simp only [hc47, C5] at h
  refine Runs.reg (by simp only [go_sem, seval, hc1, hc3, hc5, hc7, hc9, hc11, hc13, hc15, hc17, hc19, hc21, hc23, hc25, hc27, hc29, hc31, hc33, hc35, hc37, hc39, hc41, hc43, hc45, hc47]; rfl) (by simp only [long46, go_sem, seval]; rfl) ?_
  refine Runs.cond (t := 4) rfl (fun hc49 => ?_) (fun hc49 => ?_)
  · skip
    try simp only [toks_len, N3] at hc49
    try simp only [hc49, C5] at h
    refine Runs.seq ?_
    refine Runs.reg (by simp only [go_sem, seval, hc1, hc3, hc5, hc7, hc9, hc11, hc13, hc15, hc17, hc19, hc21, hc23, hc25, hc27, hc29, hc31, hc33, hc35, hc37, hc39, hc41, hc43, hc45, hc47, hc49]; rfl) (by simp only [long46, go_sem, seval]; rfl) ?_
    refine Runs.ret ?_
    first | rfl | (cases h; rfl)
  try simp only [toks_len, N3] at hc49
  try simp only [hc49, C5] at h
  refine Runs.skip ?_
  refine Runs.seq ?_
  refine Runs.reg (by simp only [go_sem, seval, hc1, hc3, hc5, hc7, hc9, hc11, hc13, hc15, hc17, hc19, hc21, hc23, hc25, hc27, hc29, hc31, hc33, hc35, hc37, hc39, hc41, hc43, hc45, hc47, hc49]; rfl) (by simp only [long46, go_sem, seval]; rfl) ?_
  refine Runs.ret ?_
  first | rfl | (cases h; rfl)
theorem W53 (s : List UInt8) (b : Bool) (h : twoP s = b) : callW ip 45 [.c (.d (.str s))] [] = some (.ret [.c (.d (.bo b))], []) := by
  simp only [twoP] at h
  refine callW_runs (fn := Tryd.f45) (L := long45) (nt := 19) (n0 := 0) (T := tab) (rw' := []) (kA := keepA) Tryd.func45 rfl rfl rfl rfl rfl rfl rfl rfl rfl ?_
  refine Runs.seq ?_
  refine Runs.reg (by simp only [go_sem, seval]; rfl) (by simp only [long45, go_sem, seval]; rfl) ?_
  refine Runs.seq ?_
  refine Runs.seq ?_
  refine Runs.reg (by simp only [go_sem, seval]; rfl) (by simp only [long45, go_sem, seval]; rfl) ?_
  refine Runs.block ?_
  refine Runs.seq ?_
  refine Runs.seq ?_
  refine Runs.reg (by simp only [go_sem, seval]; rfl) (by simp only [long45, go_sem, seval]; rfl) ?_
  refine Runs.cond (t := 4) rfl (fun hc1 => ?_) (fun hc1 => ?_)
  · skip
    try simp only [toks_len, N3] at hc1
    try simp only [hc1, C5] at h
    refine Runs.skip ?_
    refine Runs.cond (t := 4) rfl (fun hc2 => ?_) (fun hc2 => ?_)
    rotate_left
    · exact absurd hc2 (by first | decide | (simp only [hc1]; decide))
    try simp only [toks_len, N3] at hc2
    try simp only [hc2, C5] at h
    refine Runs.seq ?_
    refine Runs.reg (by simp only [go_sem, seval, hc1]; rfl) (by simp only [long45, go_sem, seval]; rfl) ?_
    refine Runs.ret ?_
    first | rfl | (cases h; rfl)
  try simp only [toks_len, N3] at hc1
  try simp only [hc1, C5] at h
  refine Runs.seq ?_
  refine Runs.reg (by simp only [go_sem, seval, hc1]; rfl) (by simp only [long45, go_sem, seval]; rfl) ?_
  refine Runs.cond (t := 4) rfl (fun hc3 => ?_) (fun hc3 => ?_)
  · skip
    try simp only [toks_len, N3] at hc3
    try simp only [hc3, C5] at h
    refine Runs.skip ?_
    refine Runs.cond (t := 4) rfl (fun hc4 => ?_) (fun hc4 => ?_)
    rotate_left
    · exact absurd hc4 (by first | decide | (simp only [hc1, hc3]; decide))
    try simp only [toks_len, N3] at hc4
    try simp only [hc4, C5] at h
    refine Runs.seq ?_
    refine Runs.reg (by simp only [go_sem, seval, hc1, hc3]; rfl) (by simp only [long45, go_sem, seval]; rfl) ?_
    refine Runs.ret ?_
    first | rfl | (cases h; rfl)
  try simp only [toks_len, N3] at hc3
  try simp only [hc3, C5] at h
  refine Runs.seq ?_
  refine Runs.reg (by simp only [go_sem, seval, hc1, hc3]; rfl) (by simp only [long45, go_sem, seval]; rfl) ?_
  refine Runs.cond (t := 4) rfl (fun hc5 => ?_) (fun hc5 => ?_)
  · skip
    try simp only [toks_len, N3] at hc5
    try simp only [hc5, C5] at h
    refine Runs.skip ?_
    refine Runs.cond (t := 4) rfl (fun hc6 => ?_) (fun hc6 => ?_)
    rotate_left
    · exact absurd hc6 (by first | decide | (simp only [hc1, hc3, hc5]; decide))
    try simp only [toks_len, N3] at hc6
    try simp only [hc6, C5] at h
    refine Runs.seq ?_
    refine Runs.reg (by simp only [go_sem, seval, hc1, hc3, hc5]; rfl) (by simp only [long45, go_sem, seval]; rfl) ?_
    refine Runs.ret ?_
    first | rfl | (cases h; rfl)
  try simp only [toks_len, N3] at hc5
  try simp only [hc5, C5] at h
  refine Runs.seq ?_
  refine Runs.reg (by simp only [go_sem, seval, hc1, hc3, hc5]; rfl) (by simp only [long45, go_sem, seval]; rfl) ?_
  refine Runs.cond (t := 4) rfl (fun hc7 => ?_) (fun hc7 => ?_)
  · skip
    try simp only [toks_len, N3] at hc7
    try simp only [hc7, C5] at h
    refine Runs.skip ?_
    refine Runs.cond (t := 4) rfl (fun hc8 => ?_) (fun hc8 => ?_)
    rotate_left
    · exact absurd hc8 (by first | decide | (simp only [hc1, hc3, hc5, hc7]; decide))
    try simp only [toks_len, N3] at hc8
    try simp only [hc8, C5] at h
    refine Runs.seq ?_
    refine Runs.reg (by simp only [go_sem, seval, hc1, hc3, hc5, hc7]; rfl) (by simp only [long45, go_sem, seval]; rfl) ?_
    refine Runs.ret ?_
    first | rfl | (cases h; rfl)
  try simp only [toks_len, N3] at hc7
  try simp only [hc7, C5] at h
  refine Runs.seq ?_
  refine Runs.reg (by simp only [go_sem, seval, hc1, hc3, hc5, hc7]; rfl) (by simp only [long45, go_sem, seval]; rfl) ?_
  refine Runs.cond (t := 4) rfl (fun hc9 => ?_) (fun hc9 => ?_)
  · skip
    try simp only [toks_len, N3] at hc9
    try simp only [hc9, C5] at h
    refine Runs.skip ?_
    refine Runs.cond (t := 4) rfl (fun hc10 => ?_) (fun hc10 => ?_)
    rotate_left
    · exact absurd hc10 (by first | decide | (simp only [hc1, hc3, hc5, hc7, hc9]; decide))
    try simp only [toks_len, N3] at hc10
    try simp only [hc10, C5] at h
    refine Runs.seq ?_
    refine Runs.reg (by simp only [go_sem, seval, hc1, hc3, hc5, hc7, hc9]; rfl) (by simp only [long45, go_sem, seval]; rfl) ?_
    refine Runs.ret ?_
    first | rfl | (cases h; rfl)
  try simp only [toks_len, N3] at hc9
  try simp only [hc9, C5] at h
  refine Runs.seq ?_
  refine Runs.reg (by simp only [go_sem, seval, hc1, hc3, hc5, hc7, hc9]; rfl) (by simp only [long45, go_sem, seval]; rfl) ?_
  refine Runs.cond (t := 4) rfl (fun hc11 => ?_) (fun hc11 => ?_)
  · skip
    try simp only [toks_len, N3] at hc11
    try simp only [hc11, C5] at h
    refine Runs.skip ?_
    refine Runs.cond (t := 4) rfl (fun hc12 => ?_) (fun hc12 => ?_)
    rotate_left
    · exact absurd hc12 (by first | decide | (simp only [hc1, hc3, hc5, hc7, hc9, hc11]; decide))
    try simp only [toks_len, N3] at hc12
    try simp only [hc12, C5] at h
    refine Runs.seq ?_
    refine Runs.reg (by simp only [go_sem, seval, hc1, hc3, hc5, hc7, hc9, hc11]; rfl) (by simp only [long45, go_sem, seval]; rfl) ?_
    refine Runs.ret ?_
    first | rfl | (cases h; rfl)
  try simp only [toks_len, N3] at hc11
  try simp only [hc11, C5] at h
  refine Runs.seq ?_
  refine Runs.reg (by simp only [go_sem, seval, hc1, hc3, hc5, hc7, hc9, hc11]; rfl) (by simp only [long45, go_sem, seval]; rfl) ?_
  refine Runs.cond (t := 4) rfl (fun hc13 => ?_) (fun hc13 => ?_)
  · skip
    try simp only [toks_len, N3] at hc13
    try simp only [hc13, C5] at h
    refine Runs.skip ?_
    refine Runs.cond (t := 4) rfl (fun hc14 => ?_) (fun hc14 => ?_)
    rotate_left
    · exact absurd hc14 (by first | decide | (simp only [hc1, hc3, hc5, hc7, hc9, hc11, hc13]; decide))
    try simp only [toks_len, N3] at hc14
    try simp only [hc14, C5] at h
    refine Runs.seq ?_
    refine Runs.reg (by simp only [go_sem, seval, hc1, hc3, hc5, hc7, hc9, hc11, hc13]; rfl) (by simp only [long45, go_sem, seval]; rfl) ?_
    refine Runs.ret ?_
    first | rfl | (cases h; rfl)
  try simp only [toks_len, N3] at hc13
  try simp only [hc13, C5] at h
  refine Runs.seq ?_
  refine Runs.reg (by simp only [go_sem, seval, hc1, hc3, hc5, hc7, hc9, hc11, hc13]; rfl) (by simp only [long45, go_sem, seval]; rfl) ?_
  refine Runs.cond (t := 4) rfl (fun hc15 => ?_) (fun hc15 => ?_)
  · skip
    try simp only [toks_len, N3] at hc15
    try simp only [hc15, C5] at h
    refine Runs.skip ?_
    refine Runs.cond (t := 4) rfl (fun hc16 => ?_) (fun hc16 => ?_)
    rotate_left
    · exact absurd hc16 (by first | decide | (simp only [hc1, hc3, hc5, hc7, hc9, hc11, hc13, hc15]; decide))
    try simp only [toks_len, N3] at hc16
    try simp only [hc16, C5] at h
    refine Runs.seq ?_
    refine Runs.reg (by simp only [go_sem, seval, hc1, hc3, hc5, hc7, hc9, hc11, hc13, hc15]; rfl) (by simp only [long45, go_sem, seval]; rfl) ?_
    refine Runs.ret ?_
    first | rfl | (cases h; rfl)
  try simp only [toks_len, N3] at hc15
  try simp only [hc15, C5] at h
  refine Runs.seq ?_
  refine Runs.reg (by simp only [go_sem, seval, hc1, hc3, hc5, hc7, hc9, hc11, hc13, hc15]; rfl) (by simp only [long45, go_sem, seval]; rfl) ?_
  refine Runs.cond (t := 4) rfl (fun hc17 => ?_) (fun hc17 => ?_)
  · skip
    try simp only [toks_len, N3] at hc17
    try simp only [hc17, C5] at h
    refine Runs.skip ?_
    refine Runs.cond (t := 4) rfl (fun hc18 => ?_) (fun hc18 => ?_)
    rotate_left
    · exact absurd hc18 (by first | decide | (simp only [hc1, hc3, hc5, hc7, hc9, hc11, hc13, hc15, hc17]; decide))
    try simp only [toks_len, N3] at hc18
    try simp only [hc18, C5] at h
    refine Runs.seq ?_
    refine Runs.reg (by simp only [go_sem, seval, hc1, hc3, hc5, hc7, hc9, hc11, hc13, hc15, hc17]; rfl) (by simp only [long45, go_sem, seval]; rfl) ?_
    refine Runs.ret ?_
    first | rfl | (cases h; rfl)
  try simp only [toks_len, N3] at hc17
  try simp only [hc17, C5] at h
  refine Runs.seq ?_
  refine Runs.reg (by simp only [go_sem, seval, hc1, hc3, hc5, hc7, hc9, hc11, hc13, hc15, hc17]; rfl) (by simp only [long45, go_sem, seval]; rfl) ?_
  refine Runs.cond (t := 4) rfl (fun hc19 => ?_) (fun hc19 => ?_)
  · skip
    try simp only [toks_len, N3] at hc19
    try simp only [hc19, C5] at h
    refine Runs.skip ?_
    refine Runs.cond (t := 4) rfl (fun hc20 => ?_) (fun hc20 => ?_)
    rotate_left
    · exact absurd hc20 (by first | decide | (simp only [hc1, hc3, hc5, hc7, hc9, hc11, hc13, hc15, hc17, hc19]; decide))
    try simp only [toks_len, N3] at hc20
    try simp only [hc20, C5] at h
    refine Runs.seq ?_
    refine Runs.reg (by simp only [go_sem, seval, hc1, hc3, hc5, hc7, hc9, hc11, hc13, hc15, hc17, hc19]; rfl) (by simp only [long45, go_sem, seval]; rfl) ?_
    refine Runs.ret ?_
    first | rfl | (cases h; rfl)
  try simp only [toks_len, N3] at hc19
  try simp only [hc19, C5] at h
  refine Runs.seq ?_
  refine Runs.reg (by simp only [go_sem, seval, hc1, hc3, hc5, hc7, hc9, hc11, hc13, hc15, hc17, hc19]; rfl) (by simp only [long45, go_sem, seval]; rfl) ?_
  refine Runs.cond (t := 4) rfl (fun hc21 => ?_) (fun hc21 => ?_)
  · skip
    try simp only [toks_len, N3] at hc21
    try simp only [hc21, C5] at h
    refine Runs.skip ?_
    refine Runs.cond (t := 4) rfl (fun hc22 => ?_) (fun hc22 => ?_)
    rotate_left
    · exact absurd hc22 (by first | decide | (simp only [hc1, hc3, hc5, hc7, hc9, hc11, hc13, hc15, hc17, hc19, hc21]; decide))
    try simp only [toks_len, N3] at hc22
    try simp only [hc22, C5] at h
    refine Runs.seq ?_
    refine Runs.reg (by simp only [go_sem, seval, hc1, hc3, hc5, hc7, hc9, hc11, hc13, hc15, hc17, hc19, hc21]; rfl) (by simp only [long45, go_sem, seval]; rfl) ?_
    refine Runs.ret ?_
    first | rfl | (cases h; rfl)
  try simp only [toks_len, N3] at hc21
  try simp only [hc21, C5] at h
  refine Runs.seq ?_
  refine Runs.reg (by simp only [go_sem, seval, hc1, hc3, hc5, hc7, hc9, hc11, hc13, hc15, hc17, hc19, hc21]; rfl) (by simp only [long45, go_sem, seval]; rfl) ?_
  refine Runs.cond (t := 4) rfl (fun hc23 => ?_) (fun hc23 => ?_)
  · skip
    try simp only [toks_len, N3] at hc23
    try simp only [hc23, C5] at h
    refine Runs.skip ?_
    refine Runs.cond (t := 4) rfl (fun hc24 => ?_) (fun hc24 => ?_)
    rotate_left
    · exact absurd hc24 (by first | decide | (simp only [hc1, hc3, hc5, hc7, hc9, hc11, hc13, hc15, hc17, hc19, hc21, hc23]; decide))
    try simp only [toks_len, N3] at hc24
    try simp only [hc24, C5] at h
    refine Runs.seq ?_
    refine Runs.reg (by simp only [go_sem, seval, hc1, hc3, hc5, hc7, hc9, hc11, hc13, hc15, hc17, hc19, hc21, hc23]; rfl) (by simp only [long45, go_sem, seval]; rfl) ?_
    refine Runs.ret ?_
    first | rfl | (cases h; rfl)
  try simp only [toks_len, N3] at hc23
  try simp only [hc23, C5] at h
  refine Runs.seq ?_
  refine Runs.reg (by simp only [go_sem, seval, hc1, hc3, hc5, hc7, hc9, hc11, hc13, hc15, hc17, hc19, hc21, hc23]; rfl) (by simp only [long45, go_sem, seval]; rfl) ?_
  refine Runs.cond (t := 4) rfl (fun hc25 => ?_) (fun hc25 => ?_)
  · skip
    try simp only [toks_len, N3] at hc25
    try simp only [hc25, C5] at h
    refine Runs.skip ?_
    refine Runs.cond (t := 4) rfl (fun hc26 => ?_) (fun hc26 => ?_)
    rotate_left
    · exact absurd hc26 (by first | decide | (simp only [hc3, hc5, hc7, hc9, hc11, hc13, hc15, hc17, hc19, hc21, hc23, hc25]; decide))
    try simp only [toks_len, N3] at hc26
    try simp only [hc26, C5] at h
    refine Runs.seq ?_
    refine Runs.reg (by simp only [go_sem, seval, hc1, hc3, hc5, hc7, hc9, hc11, hc13, hc15, hc17, hc19, hc21, hc23, hc25]; rfl) (by simp only [long45, go_sem, seval]; rfl) ?_
    refine Runs.ret ?_
    first | rfl | (cases h; rfl)
  try simp only [toks_len, N3] at hc25
  try simp only [hc25, C5] at h
  refine Runs.reg (by simp only [go_sem, seval, hc1, hc3, hc5, hc7, hc9, hc11, hc13, hc15, hc17, hc19, hc21, hc23, hc25]; rfl) (by simp only [long45, go_sem, seval]; rfl) ?_
  refine Runs.cond (t := 4) rfl (fun hc27 => ?_) (fun hc27 => ?_)
  · skip
    try simp only [toks_len, N3] at hc27
    try simp only [hc27, C5] at h
    refine Runs.seq ?_
    refine Runs.reg (by simp only [go_sem, seval, hc1, hc3, hc5, hc7, hc9, hc11, hc13, hc15, hc17, hc19, hc21, hc23, hc25, hc27]; rfl) (by simp only [long45, go_sem, seval]; rfl) ?_
    refine Runs.ret ?_
    first | rfl | (cases h; rfl)
  try simp only [toks_len, N3] at hc27
  try simp only [hc27, C5] at h
  refine Runs.skip ?_
  refine Runs.seq ?_
  refine Runs.reg (by simp only [go_sem, seval, hc1, hc3, hc5, hc7, hc9, hc11, hc13, hc15, hc17, hc19, hc21, hc23, hc25, hc27]; rfl) (by simp only [long45, go_sem, seval]; rfl) ?_
  refine Runs.ret ?_
  first | rfl | (cases h; rfl)
theorem W59 (s : List UInt8) (b : Int) (h : kindOfP s = b) : callW ip 51 [.c (.d (.str s))] [] = some (.ret [.c (.d (.int .i64 b))], []) := by
  simp only [kindOfP] at h
  refine callW_runs (fn := Tryd.f51) (L := long51) (nt := 20) (n0 := 0) (T := tab) (rw' := []) (kA := keepA) Tryd.func51 rfl rfl rfl rfl rfl rfl rfl rfl rfl ?_
  refine Runs.seq ?_
  refine Runs.reg (by simp only [go_sem, seval]; rfl) (by simp only [long51, go_sem, seval]; rfl) ?_
  refine Runs.seq ?_
  refine Runs.seq ?_
  refine Runs.reg (by simp only [go_sem, seval]; rfl) (by simp only [long51, go_sem, seval]; rfl) ?_
  refine Runs.block ?_
  refine Runs.seq ?_
  refine Runs.reg (by simp only [go_sem, seval]; rfl) (by simp only [long51, go_sem, seval]; rfl) ?_
  refine Runs.cond (t := 4) rfl (fun hc1 => ?_) (fun hc1 => ?_)
  · skip
    try simp only [toks_len, N3] at hc1
    try simp only [hc1, C5] at h
    refine Runs.seq ?_
    refine Runs.reg (by simp only [go_sem, seval, hc1]; rfl) (by simp only [long51, go_sem, seval]; rfl) ?_
    refine Runs.ret ?_
    first | rfl | (cases h; rfl)
  try simp only [toks_len, N3] at hc1
  try simp only [hc1, C5] at h
  refine Runs.seq ?_
  refine Runs.reg (by simp only [go_sem, seval, hc1]; rfl) (by simp only [long51, go_sem, seval]; rfl) ?_
  refine Runs.cond (t := 6) rfl (fun hc2 => ?_) (fun hc2 => ?_)
  · skip
    try simp only [toks_len, N3] at hc2
    try simp only [hc2, C5] at h
    refine Runs.seq ?_
    refine Runs.reg (by simp only [go_sem, seval, hc1, hc2]; rfl) (by simp only [long51, go_sem, seval]; rfl) ?_
    refine Runs.ret ?_
    first | rfl | (cases h; rfl)
  try simp only [toks_len, N3] at hc2
  try simp only [hc2, C5] at h
  refine Runs.seq ?_
  refine Runs.reg (by simp only [go_sem, seval, hc1, hc2]; rfl) (by simp only [long51, go_sem, seval]; rfl) ?_
  refine Runs.cond (t := 8) rfl (fun hc3 => ?_) (fun hc3 => ?_)
  · skip
    try simp only [toks_len, N3] at hc3
    try simp only [hc3, C5] at h
    refine Runs.seq ?_
    refine Runs.reg (by simp only [go_sem, seval, hc1, hc2, hc3]; rfl) (by simp only [long51, go_sem, seval]; rfl) ?_
    refine Runs.ret ?_
    first | rfl | (cases h; rfl)
  try simp only [toks_len, N3] at hc3
  try simp only [hc3, C5] at h
  refine Runs.seq ?_
  refine Runs.reg (by simp only [go_sem, seval, hc1, hc2, hc3]; rfl) (by simp only [long51, go_sem, seval]; rfl) ?_
  refine Runs.cond (t := 10) rfl (fun hc4 => ?_) (fun hc4 => ?_)
  · skip
    try simp only [toks_len, N3] at hc4
    try simp only [hc4, C5] at h
    refine Runs.seq ?_
    refine Runs.reg (by simp only [go_sem, seval, hc1, hc2, hc3, hc4]; rfl) (by simp only [long51, go_sem, seval]; rfl) ?_
    refine Runs.ret ?_
    first | rfl | (cases h; rfl)
  try simp only [toks_len, N3] at hc4
  try simp only [hc4, C5] at h
  refine Runs.seq ?_
  refine Runs.reg (by simp only [go_sem, seval, hc1, hc2, hc3, hc4]; rfl) (by simp only [long51, go_sem, seval]; rfl) ?_
  refine Runs.cond (t := 12) rfl (fun hc5 => ?_) (fun hc5 => ?_)
  · skip
    try simp only [toks_len, N3] at hc5
    try simp only [hc5, C5] at h
    refine Runs.seq ?_
    refine Runs.reg (by simp only [go_sem, seval, hc1, hc2, hc3, hc4, hc5]; rfl) (by simp only [long51, go_sem, seval]; rfl) ?_
    refine Runs.ret ?_
    first | rfl | (cases h; rfl)
  try simp only [toks_len, N3] at hc5
  try simp only [hc5, C5] at h
  refine Runs.seq ?_
  refine Runs.reg (by simp only [go_sem, seval, hc1, hc2, hc3, hc4, hc5]; rfl) (by simp only [long51, go_sem, seval]; rfl) ?_
  refine Runs.cond (t := 14) rfl (fun hc6 => ?_) (fun hc6 => ?_)
  · skip
    try simp only [toks_len, N3] at hc6
    try simp only [hc6, C5] at h
    refine Runs.seq ?_
    refine Runs.reg (by simp only [go_sem, seval, hc1, hc2, hc3, hc4, hc5, hc6]; rfl) (by simp only [long51, go_sem, seval]; rfl) ?_
    refine Runs.ret ?_
    first | rfl | (cases h; rfl)
  try simp only [toks_len, N3] at hc6
  try simp only [hc6, C5] at h
  refine Runs.seq ?_
  refine Runs.reg (by simp only [go_sem, seval, hc1, hc2, hc3, hc4, hc5, hc6]; rfl) (by simp only [long51, go_sem, seval]; rfl) ?_
  refine Runs.cond (t := 16) rfl (fun hc7 => ?_) (fun hc7 => ?_)
  · skip
    try simp only [toks_len, N3] at hc7
    try simp only [hc7, C5] at h
    refine Runs.seq ?_
    refine Runs.reg (by simp only [go_sem, seval, hc1, hc2, hc3, hc4, hc5, hc6, hc7]; rfl) (by simp only [long51, go_sem, seval]; rfl) ?_
    refine Runs.ret ?_
    first | rfl | (cases h; rfl)
  try simp only [toks_len, N3] at hc7
  try simp only [hc7, C5] at h
  refine Runs.seq ?_
  refine Runs.reg (by simp only [go_sem, seval, hc1, hc2, hc3, hc4, hc5, hc6, hc7]; rfl) (by simp only [long51, go_sem, seval]; rfl) ?_
  refine Runs.cond (t := 18) rfl (fun hc8 => ?_) (fun hc8 => ?_)
  · skip
    try simp only [toks_len, N3] at hc8
    try simp only [hc8, C5] at h
    refine Runs.seq ?_
    refine Runs.reg (by simp only [go_sem, seval, hc1, hc2, hc3, hc4, hc5, hc6, hc7, hc8]; rfl) (by simp only [long51, go_sem, seval]; rfl) ?_
    refine Runs.ret ?_
    first | rfl | (cases h; rfl)
  try simp only [toks_len, N3] at hc8
  try simp only [hc8, C5] at h
  refine Runs.skip ?_
  refine Runs.seq ?_
  refine Runs.reg (by simp only [go_sem, seval, hc1, hc2, hc3, hc4, hc5, hc6, hc7, hc8]; rfl) (by simp only [long51, go_sem, seval]; rfl) ?_
  refine Runs.ret ?_
  first | rfl | (cases h; rfl)
theorem W49 (c : Int) (b : Bool) (h : letterP c = b) : callW ip 41 [.c (.d (.int .u8 c))] [] = some (.ret [.c (.d (.bo b))], []) := by
  simp only [letterP, letterR] at h
  refine callW_runs (fn := Tryd.f41) (L := long41) (nt := 21) (n0 := 0) (T := tab) (rw' := []) (kA := keepA) Tryd.func41 rfl rfl rfl rfl rfl rfl rfl rfl rfl ?_
  refine Runs.seq ?_
  refine Runs.reg (by simp only [go_sem, seval]; rfl) (by simp only [long41, go_sem, seval]; rfl) ?_
  refine Runs.seq ?_
  refine Runs.row ?_
  refine Row.run 3 (by simp only [go_sem, seval]; rfl) ?_
  refine Row.guard (t := 5) (by simp only [go_sem, seval]; rfl) (fun hg1 => ?_) (fun hg1 => ?_)
  · first
    | exact absurd hg1 (by decide)
    | skip
      try simp only [toks_len, N3] at hg1
      try simp only [hg1, C5] at h
      refine Row.run 4 (by simp only [go_sem, seval, hg1]; rfl) ?_
      refine Row.guard (t := 9) (by simp only [go_sem, seval]; rfl) (fun hg2 => ?_) (fun hg2 => ?_)
      · first
        | exact absurd hg2 (by decide)
        | exact absurd hg2 (by simp only [hg1]; decide)
        | skip
          try simp only [toks_len, N3] at hg2
          try simp only [hg2, C5] at h
          refine Row.run 8 (by simp only [go_sem, seval, hg1, hg2]; rfl) ?_
          refine Row.guard (t := 17) (by simp only [go_sem, seval]; rfl) (fun hg3 => ?_) (fun hg3 => ?_)
          · first
            | exact absurd hg3 (by decide)
            | exact absurd hg3 (by simp only [hg1, hg2]; decide)
            | skip
              try simp only [toks_len, N3] at hg3
              try simp only [hg3, C5] at h
              refine Row.run 4 (by simp only [go_sem, seval, hg1, hg2, hg3]; rfl) ?_
              refine Row.end_ (by simp only [long41, go_sem, seval]; rfl) ?_
              refine Runs.ret ?_
              first | rfl | (cases h; rfl)
          · first
            | exact absurd hg3 (by decide)
            | exact absurd hg3 (by simp only [hg1, hg2]; decide)
            | skip
              try simp only [toks_len, N3] at hg3
              try simp only [hg3, C5] at h
              refine Row.run 4 (by simp only [go_sem, seval, hg1, hg2, hg3]; rfl) ?_
              refine Row.end_ (by simp only [long41, go_sem, seval]; rfl) ?_
              refine Runs.ret ?_
              first | rfl | (cases h; rfl)
      · first
        | exact absurd hg2 (by decide)
        | exact absurd hg2 (by simp only [hg1]; decide)
        | skip
          try simp only [toks_len, N3] at hg2
          try simp only [hg2, C5] at h
          refine Row.run 3 (by simp only [go_sem, seval, hg1, hg2]; rfl) ?_
          refine Row.guard (t := 12) (by simp only [go_sem, seval]; rfl) (fun hg4 => ?_) (fun hg4 => ?_)
          · first
            | exact absurd hg4 (by decide)
            | exact absurd hg4 (by simp only [hg1, hg2]; decide)
            | skip
              try simp only [toks_len, N3] at hg4
              try simp only [hg4, C5] at h
              refine Row.run 5 (by simp only [go_sem, seval, hg1, hg2, hg4]; rfl) ?_
              refine Row.guard (t := 17) (by simp only [go_sem, seval]; rfl) (fun hg5 => ?_) (fun hg5 => ?_)
              · first
                | exact absurd hg5 (by decide)
                | exact absurd hg5 (by simp only [hg1, hg2, hg4]; decide)
                | skip
                  try simp only [toks_len, N3] at hg5
                  try simp only [hg5, C5] at h
                  refine Row.run 4 (by simp only [go_sem, seval, hg1, hg2, hg4, hg5]; rfl) ?_
                  refine Row.end_ (by simp only [long41, go_sem, seval]; rfl) ?_
                  refine Runs.ret ?_
                  first | rfl | (cases h; rfl)
              · first
                | exact absurd hg5 (by decide)
                | exact absurd hg5 (by simp only [hg1, hg2, hg4]; decide)
                | skip
                  try simp only [toks_len, N3] at hg5
                  try simp only [hg5, C5] at h
                  refine Row.run 4 (by simp only [go_sem, seval, hg1, hg2, hg4, hg5]; rfl) ?_
                  refine Row.end_ (by simp only [long41, go_sem, seval]; rfl) ?_
                  refine Runs.ret ?_
                  first | rfl | (cases h; rfl)
          · first
            | exact absurd hg4 (by decide)
            | exact absurd hg4 (by simp only [hg1, hg2]; decide)
            | skip
              try simp only [toks_len, N3] at hg4
              try simp only [hg4, C5] at h
              refine Row.run 5 (by simp only [go_sem, seval, hg1, hg2, hg4]; rfl) ?_
              refine Row.guard (t := 17) (by simp only [go_sem, seval]; rfl) (fun hg6 => ?_) (fun hg6 => ?_)
              · first
                | exact absurd hg6 (by decide)
                | exact absurd hg6 (by simp only [hg1, hg2, hg4]; decide)
                | skip
                  try simp only [toks_len, N3] at hg6
                  try simp only [hg6, C5] at h
                  refine Row.run 4 (by simp only [go_sem, seval, hg1, hg2, hg4, hg6]; rfl) ?_
                  refine Row.end_ (by simp only [long41, go_sem, seval]; rfl) ?_
                  refine Runs.ret ?_
                  first | rfl | (cases h; rfl)
              · first
                | exact absurd hg6 (by decide)
                | exact absurd hg6 (by simp only [hg1, hg2, hg4]; decide)
                | skip
                  try simp only [toks_len, N3] at hg6
                  try simp only [hg6, C5] at h
                  refine Row.run 4 (by simp only [go_sem, seval, hg1, hg2, hg4, hg6]; rfl) ?_
                  refine Row.end_ (by simp only [long41, go_sem, seval]; rfl) ?_
                  refine Runs.ret ?_
                  first | rfl | (cases h; rfl)
  · first
    | exact absurd hg1 (by decide)
    | skip
      try simp only [toks_len, N3] at hg1
      try simp only [hg1, C5] at h
      refine Row.run 4 (by simp only [go_sem, seval, hg1]; rfl) ?_
      refine Row.guard (t := 9) (by simp only [go_sem, seval]; rfl) (fun hg7 => ?_) (fun hg7 => ?_)
      · first
        | exact absurd hg7 (by decide)
        | exact absurd hg7 (by simp only [hg1]; decide)
        | skip
          try simp only [toks_len, N3] at hg7
          try simp only [hg7, C5] at h
          refine Row.run 8 (by simp only [go_sem, seval, hg1, hg7]; rfl) ?_
          refine Row.guard (t := 17) (by simp only [go_sem, seval]; rfl) (fun hg8 => ?_) (fun hg8 => ?_)
          · first
            | exact absurd hg8 (by decide)
            | exact absurd hg8 (by simp only [hg1, hg7]; decide)
            | skip
              try simp only [toks_len, N3] at hg8
              try simp only [hg8, C5] at h
              refine Row.run 4 (by simp only [go_sem, seval, hg1, hg7, hg8]; rfl) ?_
              refine Row.end_ (by simp only [long41, go_sem, seval]; rfl) ?_
              refine Runs.ret ?_
              first | rfl | (cases h; rfl)
          · first
            | exact absurd hg8 (by decide)
            | exact absurd hg8 (by simp only [hg1, hg7]; decide)
            | skip
              try simp only [toks_len, N3] at hg8
              try simp only [hg8, C5] at h
              refine Row.run 4 (by simp only [go_sem, seval, hg1, hg7, hg8]; rfl) ?_
              refine Row.end_ (by simp only [long41, go_sem, seval]; rfl) ?_
              refine Runs.ret ?_
              first | rfl | (cases h; rfl)
      · first
        | exact absurd hg7 (by decide)
        | exact absurd hg7 (by simp only [hg1]; decide)
        | skip
          try simp only [toks_len, N3] at hg7
          try simp only [hg7, C5] at h
          refine Row.run 3 (by simp only [go_sem, seval, hg1, hg7]; rfl) ?_
          refine Row.guard (t := 12) (by simp only [go_sem, seval]; rfl) (fun hg9 => ?_) (fun hg9 => ?_)
          · first
            | exact absurd hg9 (by decide)
            | exact absurd hg9 (by simp only [hg1, hg7]; decide)
            | skip
              try simp only [toks_len, N3] at hg9
              try simp only [hg9, C5] at h
              refine Row.run 5 (by simp only [go_sem, seval, hg1, hg7, hg9]; rfl) ?_
              refine Row.guard (t := 17) (by simp only [go_sem, seval]; rfl) (fun hg10 => ?_) (fun hg10 => ?_)
              · first
                | exact absurd hg10 (by decide)
                | exact absurd hg10 (by simp only [hg1, hg7, hg9]; decide)
                | skip
                  try simp only [toks_len, N3] at hg10
                  try simp only [hg10, C5] at h
                  refine Row.run 4 (by simp only [go_sem, seval, hg1, hg7, hg9, hg10]; rfl) ?_
                  refine Row.end_ (by simp only [long41, go_sem, seval]; rfl) ?_
                  refine Runs.ret ?_
                  first | rfl | (cases h; rfl)
              · first
                | exact absurd hg10 (by decide)
                | exact absurd hg10 (by simp only [hg1, hg7, hg9]; decide)
                | skip
                  try simp only [toks_len, N3] at hg10
                  try simp only [hg10, C5] at h
                  refine Row.run 4 (by simp only [go_sem, seval, hg1, hg7, hg9, hg10]; rfl) ?_
                  refine Row.end_ (by simp only [long41, go_sem, seval]; rfl) ?_
                  refine Runs.ret ?_
                  first | rfl | (cases h; rfl)
          · first
            | exact absurd hg9 (by decide)
            | exact absurd hg9 (by simp only [hg1, hg7]; decide)
            | skip
              try simp only [toks_len, N3] at hg9
              try simp only [hg9, C5] at h
              refine Row.run 5 (by simp only [go_sem, seval, hg1, hg7, hg9]; rfl) ?_
              refine Row.guard (t := 17) (by simp only [go_sem, seval]; rfl) (fun hg11 => ?_) (fun hg11 => ?_)
              · first
                | exact absurd hg11 (by decide)
                | exact absurd hg11 (by simp only [hg1, hg7, hg9]; decide)
                | skip
                  try simp only [toks_len, N3] at hg11
                  try simp only [hg11, C5] at h
                  refine Row.run 4 (by simp only [go_sem, seval, hg1, hg7, hg9, hg11]; rfl) ?_
                  refine Row.end_ (by simp only [long41, go_sem, seval]; rfl) ?_
                  refine Runs.ret ?_
                  first | rfl | (cases h; rfl)
              · first
                | exact absurd hg11 (by decide)
                | exact absurd hg11 (by simp only [hg1, hg7, hg9]; decide)
                | skip
                  try simp only [toks_len, N3] at hg11
                  try simp only [hg11, C5] at h
                  refine Row.run 4 (by simp only [go_sem, seval, hg1, hg7, hg9, hg11]; rfl) ?_
                  refine Row.end_ (by simp only [long41, go_sem, seval]; rfl) ?_
                  refine Runs.ret ?_
                  first | rfl | (cases h; rfl)
theorem W50 (c : Int) (b : Bool) (h : digitP c = b) : callW ip 42 [.c (.d (.int .u8 c))] [] = some (.ret [.c (.d (.bo b))], []) := by
  simp only [digitP] at h
  refine callW_runs (fn := Tryd.f42) (L := long42) (nt := 9) (n0 := 0) (T := tab) (rw' := []) (kA := keepA) Tryd.func42 rfl rfl rfl rfl rfl rfl rfl rfl rfl ?_
  refine Runs.seq ?_
  refine Runs.reg (by simp only [go_sem, seval]; rfl) (by simp only [long42, go_sem, seval]; rfl) ?_
  refine Runs.seq ?_
  refine Runs.row ?_
  refine Row.run 3 (by simp only [go_sem, seval]; rfl) ?_
  refine Row.guard (t := 5) (by simp only [go_sem, seval]; rfl) (fun hg1 => ?_) (fun hg1 => ?_)
  · first
    | exact absurd hg1 (by decide)
    | skip
      try simp only [toks_len, N3] at hg1
      try simp only [hg1, C5] at h
      refine Row.run 4 (by simp only [go_sem, seval, hg1]; rfl) ?_
      refine Row.end_ (by simp only [long42, go_sem, seval]; rfl) ?_
      refine Runs.ret ?_
      first | rfl | (cases h; rfl)
  · first
    | exact absurd hg1 (by decide)
    | skip
      try simp only [toks_len, N3] at hg1
      try simp only [hg1, C5] at h
      refine Row.run 4 (by simp only [go_sem, seval, hg1]; rfl) ?_
      refine Row.end_ (by simp only [long42, go_sem, seval]; rfl) ?_
      refine Runs.ret ?_
      first | rfl | (cases h; rfl)
theorem W22 (e i : Int) : callW ip 17 [.c (.d (.int .i64 e)), .c (.d (.int .i64 i))] [] = some (.ret [.agg [.d (.int .i64 e), .d (.int .i64 i)]], []) := by
  refine callW_runs (fn := Tryd.f17) (L := long17) (nt := 8) (n0 := 0) (T := tab) (rw' := []) (kA := keepA) Tryd.func17 rfl rfl rfl rfl rfl rfl rfl rfl rfl ?_
  refine Runs.seq ?_
  refine Runs.reg (by simp only [go_sem, seval]; rfl) (by simp only [long17, go_sem, seval]; rfl) ?_
  refine Runs.seq ?_
  refine Runs.reg (by simp only [go_sem, seval]; rfl) (by simp only [long17, go_sem, seval]; rfl) ?_
  refine Runs.ret ?_
  rfl
theorem W73 (s : List UInt8) (b : Int) (h : levelP s = b) : callW ip 65 [.c (.d (.str s))] [] = some (.ret [.c (.d (.int .i64 b))], []) := by
  simp only [levelP] at h
  refine callW_runs (fn := Tryd.f65) (L := long65) (nt := 32) (n0 := 0) (T := tab) (rw' := []) (kA := keepA) Tryd.func65 rfl rfl rfl rfl rfl rfl rfl rfl rfl ?_
  refine Runs.seq ?_
  refine Runs.reg (by simp only [go_sem, seval]; rfl) (by simp only [long65, go_sem, seval]; rfl) ?_
  refine Runs.seq ?_
  refine Runs.seq ?_
  refine Runs.reg (by simp only [go_sem, seval]; rfl) (by simp only [long65, go_sem, seval]; rfl) ?_
  refine Runs.block ?_
  refine Runs.seq ?_
  refine Runs.reg (by simp only [go_sem, seval]; rfl) (by simp only [long65, go_sem, seval]; rfl) ?_
  refine Runs.cond (t := 4) rfl (fun hc1 => ?_) (fun hc1 => ?_)
  · skip
    try simp only [toks_len, N3] at hc1
    try simp only [hc1, C5] at h
    refine Runs.seq ?_
    refine Runs.reg (by simp only [go_sem, seval, hc1]; rfl) (by simp only [long65, go_sem, seval]; rfl) ?_
    refine Runs.ret ?_
    first | rfl | (cases h; rfl)
  try simp only [toks_len, N3] at hc1
  try simp only [hc1, C5] at h
  refine Runs.seq ?_
  refine Runs.reg (by simp only [go_sem, seval, hc1]; rfl) (by simp only [long65, go_sem, seval]; rfl) ?_
  refine Runs.cond (t := 6) rfl (fun hc2 => ?_) (fun hc2 => ?_)
  · skip
    try simp only [toks_len, N3] at hc2
    try simp only [hc2, C5] at h
    refine Runs.seq ?_
    refine Runs.reg (by simp only [go_sem, seval, hc1, hc2]; rfl) (by simp only [long65, go_sem, seval]; rfl) ?_
    refine Runs.ret ?_
    first | rfl | (cases h; rfl)
  try simp only [toks_len, N3] at hc2
  try simp only [hc2, C5] at h
  refine Runs.seq ?_
  refine Runs.reg (by simp only [go_sem, seval, hc1, hc2]; rfl) (by simp only [long65, go_sem, seval]; rfl) ?_
  refine Runs.cond (t := 8) rfl (fun hc3 => ?_) (fun hc3 => ?_)
  · skip
    try simp only [toks_len, N3] at hc3
    try simp only [hc3, C5] at h
    refine Runs.seq ?_
    refine Runs.reg (by simp only [go_sem, seval, hc1, hc2, hc3]; rfl) (by simp only [long65, go_sem, seval]; rfl) ?_
    refine Runs.ret ?_
    first | rfl | (cases h; rfl)
  try simp only [toks_len, N3] at hc3
  try simp only [hc3, C5] at h
  refine Runs.seq ?_
  refine Runs.reg (by simp only [go_sem, seval, hc1, hc2, hc3]; rfl) (by simp only [long65, go_sem, seval]; rfl) ?_
  refine Runs.cond (t := 10) rfl (fun hc4 => ?_) (fun hc4 => ?_)
  · skip
    try simp only [toks_len, N3] at hc4
    try simp only [hc4, C5] at h
    refine Runs.seq ?_
    refine Runs.reg (by simp only [go_sem, seval, hc1, hc2, hc3, hc4]; rfl) (by simp only [long65, go_sem, seval]; rfl) ?_
    refine Runs.ret ?_
    first | rfl | (cases h; rfl)
  try simp only [toks_len, N3] at hc4
  try simp only [hc4, C5] at h
  refine Runs.seq ?_
  refine Runs.reg (by simp only [go_sem, seval, hc1, hc2, hc3, hc4]; rfl) (by simp only [long65, go_sem, seval]; rfl) ?_
  refine Runs.cond (t := 12) rfl (fun hc5 => ?_) (fun hc5 => ?_)
  · skip
    try simp only [toks_len, N3] at hc5
    try simp only [hc5, C5] at h
    refine Runs.seq ?_
    refine Runs.reg (by simp only [go_sem, seval, hc1, hc2, hc3, hc4, hc5]; rfl) (by simp only [long65, go_sem, seval]; rfl) ?_
    refine Runs.ret ?_
    first | rfl | (cases h; rfl)
  try simp only [toks_len, N3] at hc5
  try simp only [hc5, C5] at h
  refine Runs.seq ?_
  refine Runs.seq ?_
  refine Runs.reg (by simp only [go_sem, seval, hc1, hc2, hc3, hc4, hc5]; rfl) (by simp only [long65, go_sem, seval]; rfl) ?_
  refine Runs.cond (t := 14) rfl (fun hc6 => ?_) (fun hc6 => ?_)
  · skip
    try simp only [toks_len, N3] at hc6
    try simp only [hc6, C5] at h
    refine Runs.skip ?_
    refine Runs.cond (t := 14) rfl (fun hc7 => ?_) (fun hc7 => ?_)
    rotate_left
    · exact absurd hc7 (by first | decide | (simp only [hc1, hc2, hc3, hc4, hc5, hc6]; decide))
    try simp only [toks_len, N3] at hc7
    try simp only [hc7, C5] at h
    refine Runs.seq ?_
    refine Runs.reg (by simp only [go_sem, seval, hc1, hc2, hc3, hc4, hc5, hc6]; rfl) (by simp only [long65, go_sem, seval]; rfl) ?_
    refine Runs.ret ?_
    first | rfl | (cases h; rfl)
  try simp only [toks_len, N3] at hc6
  try simp only [hc6, C5] at h
  refine Runs.reg (by simp only [go_sem, seval, hc1, hc2, hc3, hc4, hc5, hc6]; rfl) (by simp only [long65, go_sem, seval]; rfl) ?_
  refine Runs.cond (t := 14) rfl (fun hc8 => ?_) (fun hc8 => ?_)
  · skip
    try simp only [toks_len, N3] at hc8
    try simp only [hc8, C5] at h
    refine Runs.seq ?_
    refine Runs.reg (by simp only [go_sem, seval, hc1, hc2, hc3, hc4, hc5, hc6, hc8]; rfl) (by simp only [long65, go_sem, seval]; rfl) ?_
    refine Runs.ret ?_
    first | rfl | (cases h; rfl)
  try simp only [toks_len, N3] at hc8
  try simp only [hc8, C5] at h
  refine Runs.seq ?_
  refine Runs.seq ?_
  refine Runs.reg (by simp only [go_sem, seval, hc1, hc2, hc3, hc4, hc5, hc6, hc8]; rfl) (by simp only [long65, go_sem, seval]; rfl) ?_
  refine Runs.cond (t := 17) rfl (fun hc9 => ?_) (fun hc9 => ?_)
  · skip
    try simp only [toks_len, N3] at hc9
    try simp only [hc9, C5] at h
    refine Runs.skip ?_
    refine Runs.cond (t := 17) rfl (fun hc10 => ?_) (fun hc10 => ?_)
    rotate_left
    · exact absurd hc10 (by first | decide | (simp only [hc1, hc2, hc3, hc4, hc5, hc6, hc8, hc9]; decide))
    try simp only [toks_len, N3] at hc10
    try simp only [hc10, C5] at h
    refine Runs.seq ?_
    refine Runs.reg (by simp only [go_sem, seval, hc1, hc2, hc3, hc4, hc5, hc6, hc8, hc9]; rfl) (by simp only [long65, go_sem, seval]; rfl) ?_
    refine Runs.ret ?_
    first | rfl | (cases h; rfl)
  try simp only [toks_len, N3] at hc9
  try simp only [hc9, C5] at h
  refine Runs.seq ?_
  refine Runs.reg (by simp only [go_sem, seval, hc1, hc2, hc3, hc4, hc5, hc6, hc8, hc9]; rfl) (by simp only [long65, go_sem, seval]; rfl) ?_
  refine Runs.cond (t := 17) rfl (fun hc11 => ?_) (fun hc11 => ?_)
  · skip
    try simp only [toks_len, N3] at hc11
    try simp only [hc11, C5] at h
    refine Runs.skip ?_
    refine Runs.cond (t := 17) rfl (fun hc12 => ?_) (fun hc12 => ?_)
    rotate_left
    · exact absurd hc12 (by first | decide | (simp only [hc1, hc2, hc3, hc4, hc5, hc6, hc8, hc9, hc11]; decide))
    try simp only [toks_len, N3] at hc12
    try simp only [hc12, C5] at h
    refine Runs.seq ?_
    refine Runs.reg (by simp only [go_sem, seval, hc1, hc2, hc3, hc4, hc5, hc6, hc8, hc9, hc11]; rfl) (by simp only [long65, go_sem, seval]; rfl) ?_
    refine Runs.ret ?_
    first | rfl | (cases h; rfl)
  try simp only [toks_len, N3] at hc11
  try simp only [hc11, C5] at h
  refine Runs.seq ?_
  refine Runs.reg (by simp only [go_sem, seval, hc1, hc2, hc3, hc4, hc5, hc6, hc8, hc9, hc11]; rfl) (by simp only [long65, go_sem, seval]; rfl) ?_
  refine Runs.cond (t := 17) rfl (fun hc13 => ?_) (fun hc13 => ?_)
  · skip
    try simp only [toks_len, N3] at hc13
    try simp only [hc13, C5] at h
    refine Runs.skip ?_
    refine Runs.cond (t := 17) rfl (fun hc14 => ?_) (fun hc14 => ?_)
    rotate_left
    · exact absurd hc14 (by first | decide | (simp only [hc1, hc2, hc3, hc4, hc5, hc6, hc8, hc9, hc11, hc13]; decide))
    try simp only [toks_len, N3] at hc14
    try simp only [hc14, C5] at h
    refine Runs.seq ?_
    refine Runs.reg (by simp only [go_sem, seval, hc1, hc2, hc3, hc4, hc5, hc6, hc8, hc9, hc11, hc13]; rfl) (by simp only [long65, go_sem, seval]; rfl) ?_
    refine Runs.ret ?_
    first | rfl | (cases h; rfl)
  try simp only [toks_len, N3] at hc13
  try simp only [hc13, C5] at h
  refine Runs.reg (by simp only [go_sem, seval, hc1, hc2, hc3, hc4, hc5, hc6, hc8, hc9, hc11, hc13]; rfl) (by simp only [long65, go_sem, seval]; rfl) ?_
  refine Runs.cond (t := 17) rfl (fun hc15 => ?_) (fun hc15 => ?_)
  · skip
    try simp only [toks_len, N3] at hc15
    try simp only [hc15, C5] at h
    refine Runs.seq ?_
    refine Runs.reg (by simp only [go_sem, seval, hc1, hc2, hc3, hc4, hc5, hc6, hc8, hc9, hc11, hc13, hc15]; rfl) (by simp only [long65, go_sem, seval]; rfl) ?_
    refine Runs.ret ?_
    first | rfl | (cases h; rfl)
  try simp only [toks_len, N3] at hc15
  try simp only [hc15, C5] at h
  refine Runs.seq ?_
  refine Runs.seq ?_
  refine Runs.reg (by simp only [go_sem, seval, hc1, hc2, hc3, hc4, hc5, hc6, hc8, hc9, hc11, hc13, hc15]; rfl) (by simp only [long65, go_sem, seval]; rfl) ?_
  refine Runs.cond (t := 22) rfl (fun hc16 => ?_) (fun hc16 => ?_)
  · skip
    try simp only [toks_len, N3] at hc16
    try simp only [hc16, C5] at h
    refine Runs.skip ?_
    refine Runs.cond (t := 22) rfl (fun hc17 => ?_) (fun hc17 => ?_)
    rotate_left
    · exact absurd hc17 (by first | decide | (simp only [hc1, hc2, hc3, hc4, hc5, hc6, hc8, hc9, hc11, hc13, hc15, hc16]; decide))
    try simp only [toks_len, N3] at hc17
    try simp only [hc17, C5] at h
    refine Runs.seq ?_
    refine Runs.reg (by simp only [go_sem, seval, hc1, hc2, hc3, hc4, hc5, hc6, hc8, hc9, hc11, hc13, hc15, hc16]; rfl) (by simp only [long65, go_sem, seval]; rfl) ?_
    refine Runs.ret ?_
    first | rfl | (cases h; rfl)
  try simp only [toks_len, N3] at hc16
  try simp only [hc16, C5] at h
  refine Runs.reg (by simp only [go_sem, seval, hc1, hc2, hc3, hc4, hc5, hc6, hc8, hc9, hc11, hc13, hc15, hc16]; rfl) (by simp only [long65, go_sem, seval]; rfl) ?_
  refine Runs.cond (t := 22) rfl (fun hc18 => ?_) (fun hc18 => ?_)
  · skip
    try simp only [toks_len, N3] at hc18
    try simp only [hc18, C5] at h
    refine Runs.seq ?_
    refine Runs.reg (by simp only [go_sem, seval, hc1, hc2, hc3, hc4, hc5, hc6, hc8, hc9, hc11, hc13, hc15, hc16, hc18]; rfl) (by simp only [long65, go_sem, seval]; rfl) ?_
    refine Runs.ret ?_
    first | rfl | (cases h; rfl)
  try simp only [toks_len, N3] at hc18
  try simp only [hc18, C5] at h
  refine Runs.seq ?_
  refine Runs.seq ?_
  refine Runs.reg (by simp only [go_sem, seval, hc1, hc2, hc3, hc4, hc5, hc6, hc8, hc9, hc11, hc13, hc15, hc16, hc18]; rfl) (by simp only [long65, go_sem, seval]; rfl) ?_
  refine Runs.cond (t := 25) rfl (fun hc19 => ?_) (fun hc19 => ?_)
  · skip
    try simp only [toks_len, N3] at hc19
    try simp only [hc19, C5] at h
    refine Runs.skip ?_
    refine Runs.cond (t := 25) rfl (fun hc20 => ?_) (fun hc20 => ?_)
    rotate_left
    · exact absurd hc20 (by first | decide | (simp only [hc3, hc4, hc5, hc6, hc8, hc9, hc11, hc13, hc15, hc16, hc18, hc19]; decide))
    try simp only [toks_len, N3] at hc20
    try simp only [hc20, C5] at h
    refine Runs.seq ?_
    refine Runs.reg (by simp only [go_sem, seval, hc1, hc2, hc3, hc4, hc5, hc6, hc8, hc9, hc11, hc13, hc15, hc16, hc18, hc19]; rfl) (by simp only [long65, go_sem, seval]; rfl) ?_
    refine Runs.ret ?_
    first | rfl | (cases h; rfl)
  try simp only [toks_len, N3] at hc19
  try simp only [hc19, C5] at h
  refine Runs.reg (by simp only [go_sem, seval, hc1, hc2, hc3, hc4, hc5, hc6, hc8, hc9, hc11, hc13, hc15, hc16, hc18, hc19]; rfl) (by simp only [long65, go_sem, seval]; rfl) ?_
  refine Runs.cond (t := 25) rfl (fun hc21 => ?_) (fun hc21 => ?_)
  · skip
    try simp only [toks_len, N3] at hc21
    try simp only [hc21, C5] at h
    refine Runs.seq ?_
    refine Runs.reg (by simp only [go_sem, seval, hc1, hc2, hc3, hc4, hc5, hc6, hc8, hc9, hc11, hc13, hc15, hc16, hc18, hc19, hc21]; rfl) (by simp only [long65, go_sem, seval]; rfl) ?_
    refine Runs.ret ?_
    first | rfl | (cases h; rfl)
  try simp only [toks_len, N3] at hc21
  try simp only [hc21, C5] at h
  refine Runs.seq ?_
  refine Runs.seq ?_
  refine Runs.reg (by simp only [go_sem, seval, hc1, hc2, hc3, hc4, hc5, hc6, hc8, hc9, hc11, hc13, hc15, hc16, hc18, hc19, hc21]; rfl) (by simp only [long65, go_sem, seval]; rfl) ?_
  refine Runs.cond (t := 28) rfl (fun hc22 => ?_) (fun hc22 => ?_)
  · skip
    try simp only [toks_len, N3] at hc22
    try simp only [hc22, C5] at h
    refine Runs.skip ?_
    refine Runs.cond (t := 28) rfl (fun hc23 => ?_) (fun hc23 => ?_)
    rotate_left
    · exact absurd hc23 (by first | decide | (simp only [hc5, hc6, hc8, hc9, hc11, hc13, hc15, hc16, hc18, hc19, hc21, hc22]; decide))
    try simp only [toks_len, N3] at hc23
    try simp only [hc23, C5] at h
    refine Runs.seq ?_
    refine Runs.reg (by simp only [go_sem, seval, hc1, hc2, hc3, hc4, hc5, hc6, hc8, hc9, hc11, hc13, hc15, hc16, hc18, hc19, hc21, hc22]; rfl) (by simp only [long65, go_sem, seval]; rfl) ?_
    refine Runs.ret ?_
    first | rfl | (cases h; rfl)
  try simp only [toks_len, N3] at hc22
  try simp only [hc22, C5] at h
  refine Runs.seq ?_
  refine Runs.reg (by simp only [go_sem, seval, hc1, hc2, hc3, hc4, hc5, hc6, hc8, hc9, hc11, hc13, hc15, hc16, hc18, hc19, hc21, hc22]; rfl) (by simp only [long65, go_sem, seval]; rfl) ?_
  refine Runs.cond (t := 28) rfl (fun hc24 => ?_) (fun hc24 => ?_)
  · skip
    try simp only [toks_len, N3] at hc24
    try simp only [hc24, C5] at h
    refine Runs.skip ?_
    refine Runs.cond (t := 28) rfl (fun hc25 => ?_) (fun hc25 => ?_)
    rotate_left
    · exact absurd hc25 (by first | decide | (simp only [hc6, hc8, hc9, hc11, hc13, hc15, hc16, hc18, hc19, hc21, hc22, hc24]; decide))
    try simp only [toks_len, N3] at hc25
    try simp only [hc25, C5] at h
    refine Runs.seq ?_
    refine Runs.reg (by simp only [go_sem, seval, hc1, hc2, hc3, hc4, hc5, hc6, hc8, hc9, hc11, hc13, hc15, hc16, hc18, hc19, hc21, hc22, hc24]; rfl) (by simp only [long65, go_sem, seval]; rfl) ?_
    refine Runs.ret ?_
    first | rfl | (cases h; rfl)
  try simp only [toks_len, N3] at hc24
  try simp only [hc24, C5] at h
  refine Runs.reg (by simp only [go_sem, seval, hc1, hc2, hc3, hc4, hc5, hc6, hc8, hc9, hc11, hc13, hc15, hc16, hc18, hc19, hc21, hc22, hc24]; rfl) (by simp only [long65, go_sem, seval]; rfl) ?_
  refine Runs.cond (t := 28) rfl (fun hc26 => ?_) (fun hc26 => ?_)
  · skip
    try simp only [toks_len, N3] at hc26
    try simp only [hc26, C5] at h
    refine Runs.seq ?_
    refine Runs.reg (by simp only [go_sem, seval, hc1, hc2, hc3, hc4, hc5, hc6, hc8, hc9, hc11, hc13, hc15, hc16, hc18, hc19, hc21, hc22, hc24, hc26]; rfl) (by simp only [long65, go_sem, seval]; rfl) ?_
    refine Runs.ret ?_
    first | rfl | (cases h; rfl)
  try simp only [toks_len, N3] at hc26
  try simp only [hc26, C5] at h
  refine Runs.skip ?_
  refine Runs.seq ?_
  refine Runs.reg (by simp only [go_sem, seval, hc1, hc2, hc3, hc4, hc5, hc6, hc8, hc9, hc11, hc13, hc15, hc16, hc18, hc19, hc21, hc22, hc24, hc26]; rfl) (by simp only [long65, go_sem, seval]; rfl) ?_
  refine Runs.ret ?_
  first | rfl | (cases h; rfl)
theorem W51 (s : List UInt8) (b : Bool) (h : nameP s = b) : callW ip 43 [.c (.d (.str s))] [] = some (.ret [.c (.d (.bo b))], []) := by
  simp only [nameP] at h
  refine callW_runs (fn := Tryd.f43) (L := long43) (nt := 48) (n0 := 0) (T := tab) (rw' := []) (kA := keepA) Tryd.func43 rfl rfl rfl rfl rfl rfl rfl rfl rfl ?_
  refine Runs.seq ?_
  refine Runs.reg (by simp only [go_sem, seval]; rfl) (by simp only [long43, go_sem, seval]; rfl) ?_
  refine Runs.seq ?_
  refine Runs.seq ?_
  refine Runs.reg (by simp only [go_sem, seval]; rfl) (by simp only [long43, go_sem, seval]; rfl) ?_
  refine Runs.block ?_
  refine Runs.seq ?_
  refine Runs.seq ?_
  refine Runs.reg (by simp only [go_sem, seval]; rfl) (by simp only [long43, go_sem, seval]; rfl) ?_
  refine Runs.cond (t := 4) rfl (fun hc1 => ?_) (fun hc1 => ?_)
  · skip
    try simp only [toks_len, N3] at hc1
    try simp only [hc1, C5] at h
    refine Runs.skip ?_
    refine Runs.cond (t := 4) rfl (fun hc2 => ?_) (fun hc2 => ?_)
    rotate_left
    · exact absurd hc2 (by first | decide | (simp only [hc1]; decide))
    try simp only [toks_len, N3] at hc2
    try simp only [hc2, C5] at h
    refine Runs.seq ?_
    refine Runs.reg (by simp only [go_sem, seval, hc1]; rfl) (by simp only [long43, go_sem, seval]; rfl) ?_
    refine Runs.ret ?_
    first | rfl | (cases h; rfl)
  try simp only [toks_len, N3] at hc1
  try simp only [hc1, C5] at h
  refine Runs.seq ?_
  refine Runs.reg (by simp only [go_sem, seval, hc1]; rfl) (by simp only [long43, go_sem, seval]; rfl) ?_
  refine Runs.cond (t := 4) rfl (fun hc3 => ?_) (fun hc3 => ?_)
  · skip
    try simp only [toks_len, N3] at hc3
    try simp only [hc3, C5] at h
    refine Runs.skip ?_
    refine Runs.cond (t := 4) rfl (fun hc4 => ?_) (fun hc4 => ?_)
    rotate_left
    · exact absurd hc4 (by first | decide | (simp only [hc1, hc3]; decide))
    try simp only [toks_len, N3] at hc4
    try simp only [hc4, C5] at h
    refine Runs.seq ?_
    refine Runs.reg (by simp only [go_sem, seval, hc1, hc3]; rfl) (by simp only [long43, go_sem, seval]; rfl) ?_
    refine Runs.ret ?_
    first | rfl | (cases h; rfl)
  try simp only [toks_len, N3] at hc3
  try simp only [hc3, C5] at h
  refine Runs.seq ?_
  refine Runs.reg (by simp only [go_sem, seval, hc1, hc3]; rfl) (by simp only [long43, go_sem, seval]; rfl) ?_
  refine Runs.cond (t := 4) rfl (fun hc5 => ?_) (fun hc5 => ?_)
  · skip
    try simp only [toks_len, N3] at hc5
    try simp only [hc5, C5] at h
    refine Runs.skip ?_
    refine Runs.cond (t := 4) rfl (fun hc6 => ?_) (fun hc6 => ?_)
    rotate_left
    · exact absurd hc6 (by first | decide | (simp only [hc1, hc3, hc5]; decide))
    try simp only [toks_len, N3] at hc6
    try simp only [hc6, C5] at h
    refine Runs.seq ?_
    refine Runs.reg (by simp only [go_sem, seval, hc1, hc3, hc5]; rfl) (by simp only [long43, go_sem, seval]; rfl) ?_
    refine Runs.ret ?_
    first | rfl | (cases h; rfl)
  try simp only [toks_len, N3] at hc5
  try simp only [hc5, C5] at h
  refine Runs.seq ?_
  refine Runs.reg (by simp only [go_sem, seval, hc1, hc3, hc5]; rfl) (by simp only [long43, go_sem, seval]; rfl) ?_
  refine Runs.cond (t := 4) rfl (fun hc7 => ?_) (fun hc7 => ?_)
  · skip
    try simp only [toks_len, N3] at hc7
    try simp only [hc7, C5] at h
    refine Runs.skip ?_
    refine Runs.cond (t := 4) rfl (fun hc8 => ?_) (fun hc8 => ?_)
    rotate_left
    · exact absurd hc8 (by first | decide | (simp only [hc1, hc3, hc5, hc7]; decide))
    try simp only [toks_len, N3] at hc8
    try simp only [hc8, C5] at h
    refine Runs.seq ?_
    refine Runs.reg (by simp only [go_sem, seval, hc1, hc3, hc5, hc7]; rfl) (by simp only [long43, go_sem, seval]; rfl) ?_
    refine Runs.ret ?_
    first | rfl | (cases h; rfl)
  try simp only [toks_len, N3] at hc7
  try simp only [hc7, C5] at h
  refine Runs.seq ?_
  refine Runs.reg (by simp only [go_sem, seval, hc1, hc3, hc5, hc7]; rfl) (by simp only [long43, go_sem, seval]; rfl) ?_
  refine Runs.cond (t := 4) rfl (fun hc9 => ?_) (fun hc9 => ?_)
  · skip
    try simp only [toks_len, N3] at hc9
    try simp only [hc9, C5] at h
    refine Runs.skip ?_
    refine Runs.cond (t := 4) rfl (fun hc10 => ?_) (fun hc10 => ?_)
    rotate_left
    · exact absurd hc10 (by first | decide | (simp only [hc1, hc3, hc5, hc7, hc9]; decide))
    try simp only [toks_len, N3] at hc10
    try simp only [hc10, C5] at h
    refine Runs.seq ?_
    refine Runs.reg (by simp only [go_sem, seval, hc1, hc3, hc5, hc7, hc9]; rfl) (by simp only [long43, go_sem, seval]; rfl) ?_
    refine Runs.ret ?_
    first | rfl | (cases h; rfl)
  try simp only [toks_len, N3] at hc9
  try simp only [hc9, C5] at h
  refine Runs.seq ?_
  refine Runs.reg (by simp only [go_sem, seval, hc1, hc3, hc5, hc7, hc9]; rfl) (by simp only [long43, go_sem, seval]; rfl) ?_
  refine Runs.cond (t := 4) rfl (fun hc11 => ?_) (fun hc11 => ?_)
  · skip
    try simp only [toks_len, N3] at hc11
    try simp only [hc11, C5] at h
    refine Runs.skip ?_
    refine Runs.cond (t := 4) rfl (fun hc12 => ?_) (fun hc12 => ?_)
    rotate_left
    · exact absurd hc12 (by first | decide | (simp only [hc1, hc3, hc5, hc7, hc9, hc11]; decide))
    try simp only [toks_len, N3] at hc12
    try simp only [hc12, C5] at h
    refine Runs.seq ?_
    refine Runs.reg (by simp only [go_sem, seval, hc1, hc3, hc5, hc7, hc9, hc11]; rfl) (by simp only [long43, go_sem, seval]; rfl) ?_
    refine Runs.ret ?_
    first | rfl | (cases h; rfl)
  try simp only [toks_len, N3] at hc11
  try simp only [hc11, C5] at h
  refine Runs.seq ?_
  refine Runs.reg (by simp only [go_sem, seval, hc1, hc3, hc5, hc7, hc9, hc11]; rfl) (by simp only [long43, go_sem, seval]; rfl) ?_
  refine Runs.cond (t := 4) rfl (fun hc13 => ?_) (fun hc13 => ?_)
  · skip
    try simp only [toks_len, N3] at hc13
    try simp only [hc13, C5] at h
    refine Runs.skip ?_
    refine Runs.cond (t := 4) rfl (fun hc14 => ?_) (fun hc14 => ?_)
    rotate_left
    · exact absurd hc14 (by first | decide | (simp only [hc1, hc3, hc5, hc7, hc9, hc11, hc13]; decide))
    try simp only [toks_len, N3] at hc14
    try simp only [hc14, C5] at h
    refine Runs.seq ?_
    refine Runs.reg (by simp only [go_sem, seval, hc1, hc3, hc5, hc7, hc9, hc11, hc13]; rfl) (by simp only [long43, go_sem, seval]; rfl) ?_
    refine Runs.ret ?_
    first | rfl | (cases h; rfl)
  try simp only [toks_len, N3] at hc13
  try simp only [hc13, C5] at h
  refine Runs.seq ?_
  refine Runs.reg (by simp only [go_sem, seval, hc1, hc3, hc5, hc7, hc9, hc11, hc13]; rfl) (by simp only [long43, go_sem, seval]; rfl) ?_
  refine Runs.cond (t := 4) rfl (fun hc15 => ?_) (fun hc15 => ?_)
  · skip
    try simp only [toks_len, N3] at hc15
    try simp only [hc15, C5] at h
    refine Runs.skip ?_
    refine Runs.cond (t := 4) rfl (fun hc16 => ?_) (fun hc16 => ?_)
    rotate_left
    · exact absurd hc16 (by first | decide | (simp only [hc1, hc3, hc5, hc7, hc9, hc11, hc13, hc15]; decide))
    try simp only [toks_len, N3] at hc16
    try simp only [hc16, C5] at h
    refine Runs.seq ?_
    refine Runs.reg (by simp only [go_sem, seval, hc1, hc3, hc5, hc7, hc9, hc11, hc13, hc15]; rfl) (by simp only [long43, go_sem, seval]; rfl) ?_
    refine Runs.ret ?_
    first | rfl | (cases h; rfl)
  try simp only [toks_len, N3] at hc15
  try simp only [hc15, C5] at h
  refine Runs.seq ?_
  refine Runs.reg (by simp only [go_sem, seval, hc1, hc3, hc5, hc7, hc9, hc11, hc13, hc15]; rfl) (by simp only [long43, go_sem, seval]; rfl) ?_
  refine Runs.cond (t := 4) rfl (fun hc17 => ?_) (fun hc17 => ?_)
  · skip
    try simp only [toks_len, N3] at hc17
    try simp only [hc17, C5] at h
    refine Runs.skip ?_
    refine Runs.cond (t := 4) rfl (fun hc18 => ?_) (fun hc18 => ?_)
    rotate_left
    · exact absurd hc18 (by first | decide | (simp only [hc1, hc3, hc5, hc7, hc9, hc11, hc13, hc15, hc17]; decide))
    try simp only [toks_len, N3] at hc18
    try simp only [hc18, C5] at h
    refine Runs.seq ?_
    refine Runs.reg (by simp only [go_sem, seval, hc1, hc3, hc5, hc7, hc9, hc11, hc13, hc15, hc17]; rfl) (by simp only [long43, go_sem, seval]; rfl) ?_
    refine Runs.ret ?_
    first | rfl | (cases h; rfl)
  try simp only [toks_len, N3] at hc17
  try simp only [hc17, C5] at h
  refine Runs.seq ?_
  refine Runs.reg (by simp only [go_sem, seval, hc1, hc3, hc5, hc7, hc9, hc11, hc13, hc15, hc17]; rfl) (by simp only [long43, go_sem, seval]; rfl) ?_
  refine Runs.cond (t := 4) rfl (fun hc19 => ?_) (fun hc19 => ?_)
  · skip
    try simp only [toks_len, N3] at hc19
    try simp only [hc19, C5] at h
    refine Runs.skip ?_
    refine Runs.cond (t := 4) rfl (fun hc20 => ?_) (fun hc20 => ?_)
    rotate_left
    · exact absurd hc20 (by first | decide | (simp only [hc1, hc3, hc5, hc7, hc9, hc11, hc13, hc15, hc17, hc19]; decide))
    try simp only [toks_len, N3] at hc20
    try simp only [hc20, C5] at h
    refine Runs.seq ?_
    refine Runs.reg (by simp only [go_sem, seval, hc1, hc3, hc5, hc7, hc9, hc11, hc13, hc15, hc17, hc19]; rfl) (by simp only [long43, go_sem, seval]; rfl) ?_
    refine Runs.ret ?_
    first | rfl | (cases h; rfl)
  try simp only [toks_len, N3] at hc19
  try simp only [hc19, C5] at h
  refine Runs.seq ?_
  refine Runs.reg (by simp only [go_sem, seval, hc1, hc3, hc5, hc7, hc9, hc11, hc13, hc15, hc17, hc19]; rfl) (by simp only [long43, go_sem, seval]; rfl) ?_
  refine Runs.cond (t := 4) rfl (fun hc21 => ?_) (fun hc21 => ?_)
  · skip
    try simp only [toks_len, N3] at hc21
    try simp only [hc21, C5] at h
    refine Runs.skip ?_
    refine Runs.cond (t := 4) rfl (fun hc22 => ?_) (fun hc22 => ?_)
    rotate_left
    · exact absurd hc22 (by first | decide | (simp only [hc1, hc3, hc5, hc7, hc9, hc11, hc13, hc15, hc17, hc19, hc21]; decide))
    try simp only [toks_len, N3] at hc22
    try simp only [hc22, C5] at h
    refine Runs.seq ?_
    refine Runs.reg (by simp only [go_sem, seval, hc1, hc3, hc5, hc7, hc9, hc11, hc13, hc15, hc17, hc19, hc21]; rfl) (by simp only [long43, go_sem, seval]; rfl) ?_
    refine Runs.ret ?_
    first | rfl | (cases h; rfl)
  try simp only [toks_len, N3] at hc21
  try simp only [hc21, C5] at h
  refine Runs.seq ?_
  refine Runs.reg (by simp only [go_sem, seval, hc1, hc3, hc5, hc7, hc9, hc11, hc13, hc15, hc17, hc19, hc21]; rfl) (by simp only [long43, go_sem, seval]; rfl) ?_
  refine Runs.cond (t := 4) rfl (fun hc23 => ?_) (fun hc23 => ?_)
  · skip
    try simp only [toks_len, N3] at hc23
    try simp only [hc23, C5] at h
    refine Runs.skip ?_
    refine Runs.cond (t := 4) rfl (fun hc24 => ?_) (fun hc24 => ?_)
    rotate_left
    · exact absurd hc24 (by first | decide | (simp only [hc1, hc3, hc5, hc7, hc9, hc11, hc13, hc15, hc17, hc19, hc21, hc23]; decide))
    try simp only [toks_len, N3] at hc24
    try simp only [hc24, C5] at h
    refine Runs.seq ?_
    refine Runs.reg (by simp only [go_sem, seval, hc1, hc3, hc5, hc7, hc9, hc11, hc13, hc15, hc17, hc19, hc21, hc23]; rfl) (by simp only [long43, go_sem, seval]; rfl) ?_
    refine Runs.ret ?_
    first | rfl | (cases h; rfl)
  try simp only [toks_len, N3] at hc23
  try simp only [hc23, C5] at h
  refine Runs.seq ?_
  refine Runs.reg (by simp only [go_sem, seval, hc1, hc3, hc5, hc7, hc9, hc11, hc13, hc15, hc17, hc19, hc21, hc23]; rfl) (by simp only [long43, go_sem, seval]; rfl) ?_
  refine Runs.cond (t := 4) rfl (fun hc25 => ?_) (fun hc25 => ?_)
  · skip
    try simp only [toks_len, N3] at hc25
    try simp only [hc25, C5] at h
    refine Runs.skip ?_
    refine Runs.cond (t := 4) rfl (fun hc26 => ?_) (fun hc26 => ?_)
    rotate_left
    · exact absurd hc26 (by first | decide | (simp only [hc3, hc5, hc7, hc9, hc11, hc13, hc15, hc17, hc19, hc21, hc23, hc25]; decide))
    try simp only [toks_len, N3] at hc26
    try simp only [hc26, C5] at h
    refine Runs.seq ?_
    refine Runs.reg (by simp only [go_sem, seval, hc1, hc3, hc5, hc7, hc9, hc11, hc13, hc15, hc17, hc19, hc21, hc23, hc25]; rfl) (by simp only [long43, go_sem, seval]; rfl) ?_
    refine Runs.ret ?_
    first | rfl | (cases h; rfl)
  try simp only [toks_len, N3] at hc25
  try simp only [hc25, C5] at h
  refine Runs.seq ?_
  refine Runs.reg (by simp only [go_sem, seval, hc1, hc3, hc5, hc7, hc9, hc11, hc13, hc15, hc17, hc19, hc21, hc23, hc25]; rfl) (by simp only [long43, go_sem, seval]; rfl) ?_
  refine Runs.cond (t := 4) rfl (fun hc27 => ?_) (fun hc27 => ?_)
  · skip
    try simp only [toks_len, N3] at hc27
    try simp only [hc27, C5] at h
    refine Runs.skip ?_
    refine Runs.cond (t := 4) rfl (fun hc28 => ?_) (fun hc28 => ?_)
    rotate_left
    · exact absurd hc28 (by first | decide | (simp only [hc5, hc7, hc9, hc11, hc13, hc15, hc17, hc19, hc21, hc23, hc25, hc27]; decide))
    try simp only [toks_len, N3] at hc28
    try simp only [hc28, C5] at h
    refine Runs.seq ?_
    refine Runs.reg (by simp only [go_sem, seval, hc1, hc3, hc5, hc7, hc9, hc11, hc13, hc15, hc17, hc19, hc21, hc23, hc25, hc27]; rfl) (by simp only [long43, go_sem, seval]; rfl) ?_
    refine Runs.ret ?_
    first | rfl | (cases h; rfl)
  try simp only [toks_len, N3] at hc27
  try simp only [hc27, C5] at h
  refine Runs.seq ?_
  refine Runs.reg (by simp only [go_sem, seval, hc1, hc3, hc5, hc7, hc9, hc11, hc13, hc15, hc17, hc19, hc21, hc23, hc25, hc27]; rfl) (by simp only [long43, go_sem, seval]; rfl) ?_
  refine Runs.cond (t := 4) rfl (fun hc29 => ?_) (fun hc29 => ?_)
  · skip
    try simp only [toks_len, N3] at hc29
    try simp only [hc29, C5] at h
    refine Runs.skip ?_
    refine Runs.cond (t := 4) rfl (fun hc30 => ?_) (fun hc30 => ?_)
    rotate_left
    · exact absurd hc30 (by first | decide | (simp only [hc7, hc9, hc11, hc13, hc15, hc17, hc19, hc21, hc23, hc25, hc27, hc29]; decide))
    try simp only [toks_len, N3] at hc30
    try simp only [hc30, C5] at h
    refine Runs.seq ?_
    refine Runs.reg (by simp only [go_sem, seval, hc1, hc3, hc5, hc7, hc9, hc11, hc13, hc15, hc17, hc19, hc21, hc23, hc25, hc27, hc29]; rfl) (by simp only [long43, go_sem, seval]; rfl) ?_
    refine Runs.ret ?_
    first | rfl | (cases h; rfl)
  try simp only [toks_len, N3] at hc29
  try simp only [hc29, C5] at h
  refine Runs.seq ?_
  refine Runs.reg (by simp only [go_sem, seval, hc1, hc3, hc5, hc7, hc9, hc11, hc13, hc15, hc17, hc19, hc21, hc23, hc25, hc27, hc29]; rfl) (by simp only [long43, go_sem, seval]; rfl) ?_
  refine Runs.cond (t := 4) rfl (fun hc31 => ?_) (fun hc31 => ?_)
  · skip
    try simp only [toks_len, N3] at hc31
    try simp only [hc31, C5] at h
    refine Runs.skip ?_
    refine Runs.cond (t := 4) rfl (fun hc32 => ?_) (fun hc32 => ?_)
    rotate_left
    · exact absurd hc32 (by first | decide | (simp only [hc9, hc11, hc13, hc15, hc17, hc19, hc21, hc23, hc25, hc27, hc29, hc31]; decide))
    try simp only [toks_len, N3] at hc32
    try simp only [hc32, C5] at h
    refine Runs.seq ?_
    refine Runs.reg (by simp only [go_sem, seval, hc1, hc3, hc5, hc7, hc9, hc11, hc13, hc15, hc17, hc19, hc21, hc23, hc25, hc27, hc29, hc31]; rfl) (by simp only [long43, go_sem, seval]; rfl) ?_
    refine Runs.ret ?_
    first | rfl | (cases h; rfl)
  try simp only [toks_len, N3] at hc31
  try simp only [hc31, C5] at h
  refine Runs.seq ?_
  refine Runs.reg (by simp only [go_sem, seval, hc1, hc3, hc5, hc7, hc9, hc11, hc13, hc15, hc17, hc19, hc21, hc23, hc25, hc27, hc29, hc31]; rfl) (by simp only [long43, go_sem, seval]; rfl) ?_
  refine Runs.cond (t := 4) rfl (fun hc33 => ?_) (fun hc33 => ?_)
  · skip
    try simp only [toks_len, N3] at hc33
    try simp only [hc33, C5] at h
    refine Runs.skip ?_
    refine Runs.cond (t := 4) rfl (fun hc34 => ?_) (fun hc34 => ?_)
    rotate_left
    · exact absurd hc34 (by first | decide | (simp only [hc11, hc13, hc15, hc17, hc19, hc21, hc23, hc25, hc27, hc29, hc31, hc33]; decide))
    try simp only [toks_len, N3] at hc34
    try simp only [hc34, C5] at h
    refine Runs.seq ?_
    refine Runs.reg (by simp only [go_sem, seval, hc1, hc3, hc5, hc7, hc9, hc11, hc13, hc15, hc17, hc19, hc21, hc23, hc25, hc27, hc29, hc31, hc33]; rfl) (by simp only [long43, go_sem, seval]; rfl) ?_
    refine Runs.ret ?_
    first | rfl | (cases h; rfl)
  try simp only [toks_len, N3] at hc33
  try simp only [hc33, C5] at h
  refine Runs.seq ?_
  refine Runs.reg (by simp only [go_sem, seval, hc1, hc3, hc5, hc7, hc9, hc11, hc13, hc15, hc17, hc19, hc21, hc23, hc25, hc27, hc29, hc31, hc33]; rfl) (by simp only [long43, go_sem, seval]; rfl) ?_
  refine Runs.cond (t := 4) rfl (fun hc35 => ?_) (fun hc35 => ?_)
  · skip
    try simp only [toks_len, N3] at hc35
    try simp only [hc35, C5] at h
    refine Runs.skip ?_
    refine Runs.cond (t := 4) rfl (fun hc36 => ?_) (fun hc36 => ?_)
    rotate_left
    · exact absurd hc36 (by first | decide | (simp only [hc13, hc15, hc17, hc19, hc21, hc23, hc25, hc27, hc29, hc31, hc33, hc35]; decide))
    try simp only [toks_len, N3] at hc36
    try simp only [hc36, C5] at h
    refine Runs.seq ?_
    refine Runs.reg (by simp only [go_sem, seval, hc1, hc3, hc5, hc7, hc9, hc11, hc13, hc15, hc17, hc19, hc21, hc23, hc25, hc27, hc29, hc31, hc33, hc35]; rfl) (by simp only [long43, go_sem, seval]; rfl) ?_
    refine Runs.ret ?_
    first | rfl | (cases h; rfl)
  try simp only [toks_len, N3] at hc35
  try simp only [hc35, C5] at h
  refine Runs.seq ?_
  refine Runs.reg (by simp only [go_sem, seval, hc1, hc3, hc5, hc7, hc9, hc11, hc13, hc15, hc17, hc19, hc21, hc23, hc25, hc27, hc29, hc31, hc33, hc35]; rfl) (by simp only [long43, go_sem, seval]; rfl) ?_
  refine Runs.cond (t := 4) rfl (fun hc37 => ?_) (fun hc37 => ?_)
  · skip
    try simp only [toks_len, N3] at hc37
    try simp only [hc37, C5] at h
    refine Runs.skip ?_
    refine Runs.cond (t := 4) rfl (fun hc38 => ?_) (fun hc38 => ?_)
    rotate_left
    · exact absurd hc38 (by first | decide | (simp only [hc15, hc17, hc19, hc21, hc23, hc25, hc27, hc29, hc31, hc33, hc35, hc37]; decide))
    try simp only [toks_len, N3] at hc38
    try simp only [hc38, C5] at h
    refine Runs.seq ?_
    refine Runs.reg (by simp only [go_sem, seval, hc1, hc3, hc5, hc7, hc9, hc11, hc13, hc15, hc17, hc19, hc21, hc23, hc25, hc27, hc29, hc31, hc33, hc35, hc37]; rfl) (by simp only [long43, go_sem, seval]; rfl) ?_
    refine Runs.ret ?_
    first | rfl | (cases h; rfl)
  try simp only [toks_len, N3] at hc37
  try simp only [hc37, C5] at h
  refine Runs.seq ?_
  refine Runs.reg (by simp only [go_sem, seval, hc1, hc3, hc5, hc7, hc9, hc11, hc13, hc15, hc17, hc19, hc21, hc23, hc25, hc27, hc29, hc31, hc33, hc35, hc37]; rfl) (by simp only [long43, go_sem, seval]; rfl) ?_
  refine Runs.cond (t := 4) rfl (fun hc39 => ?_) (fun hc39 => ?_)
  · skip
    try simp only [toks_len, N3] at hc39
    try simp only [hc39, C5] at h
    refine Runs.skip ?_
    refine Runs.cond (t := 4) rfl (fun hc40 => ?_) (fun hc40 => ?_)
    rotate_left
    · exact absurd hc40 (by first | decide | (simp only [hc17, hc19, hc21, hc23, hc25, hc27, hc29, hc31, hc33, hc35, hc37, hc39]; decide))
    try simp only [toks_len, N3] at hc40
    try simp only [hc40, C5] at h
    refine Runs.seq ?_
    refine Runs.reg (by simp only [go_sem, seval, hc1, hc3, hc5, hc7, hc9, hc11, hc13, hc15, hc17, hc19, hc21, hc23, hc25, hc27, hc29, hc31, hc33, hc35, hc37, hc39]; rfl) (by simp only [long43, go_sem, seval]; rfl) ?_
    refine Runs.ret ?_
    first | rfl | (cases h; rfl)
  try simp only [toks_len, N3] at hc39
  try simp only [hc39, C5] at h
  refine Runs.seq ?_
  refine Runs.reg (by simp only [go_sem, seval, hc1, hc3, hc5, hc7, hc9, hc11, hc13, hc15, hc17, hc19, hc21, hc23, hc25, hc27, hc29, hc31, hc33, hc35, hc37, hc39]; rfl) (by simp only [long43, go_sem, seval]; rfl) ?_
  refine Runs.cond (t := 4) rfl (fun hc41 => ?_) (fun hc41 => ?_)
  · skip
    try simp only [toks_len, N3] at hc41
    try simp only [hc41, C5] at h
    refine Runs.skip ?_
    refine Runs.cond (t := 4) rfl (fun hc42 => ?_) (fun hc42 => ?_)
    rotate_left
    · exact absurd hc42 (by first | decide | (simp only [hc19, hc21, hc23, hc25, hc27, hc29, hc31, hc33, hc35, hc37, hc39, hc41]; decide))
    try simp only [toks_len, N3] at hc42
    try simp only [hc42, C5] at h
    refine Runs.seq ?_
    refine Runs.reg (by simp only [go_sem, seval, hc1, hc3, hc5, hc7, hc9, hc11, hc13, hc15, hc17, hc19, hc21, hc23, hc25, hc27, hc29, hc31, hc33, hc35, hc37, hc39, hc41]; rfl) (by simp only [long43, go_sem, seval]; rfl) ?_
    refine Runs.ret ?_
    first | rfl | (cases h; rfl)
  try simp only [toks_len, N3] at hc41
  try simp only [hc41, C5] at h
  refine Runs.seq ?_
  refine Runs.reg (by simp only [go_sem, seval, hc1, hc3, hc5, hc7, hc9, hc11, hc13, hc15, hc17, hc19, hc21, hc23, hc25, hc27, hc29, hc31, hc33, hc35, hc37, hc39, hc41]; rfl) (by simp only [long43, go_sem, seval]; rfl) ?_
  refine Runs.cond (t := 4) rfl (fun hc43 => ?_) (fun hc43 => ?_)
  · skip
    try simp only [toks_len, N3] at hc43
    try simp only [hc43, C5] at h
    refine Runs.skip ?_
    refine Runs.cond (t := 4) rfl (fun hc44 => ?_) (fun hc44 => ?_)
    rotate_left
    · exact absurd hc44 (by first | decide | (simp only [hc21, hc23, hc25, hc27, hc29, hc31, hc33, hc35, hc37, hc39, hc41, hc43]; decide))
    try simp only [toks_len, N3] at hc44
    try simp only [hc44, C5] at h
    refine Runs.seq ?_
    refine Runs.reg (by simp only [go_sem, seval, hc1, hc3, hc5, hc7, hc9, hc11, hc13, hc15, hc17, hc19, hc21, hc23, hc25, hc27, hc29, hc31, hc33, hc35, hc37, hc39, hc41, hc43]; rfl) (by simp only [long43, go_sem, seval]; rfl) ?_
    refine Runs.ret ?_
    first | rfl | (cases h; rfl)
  try simp only [toks_len, N3] at hc43
  try simp only [hc43, C5] at h
  refine Runs.seq ?_
  refine Runs.reg (by simp only [go_sem, seval, hc1, hc3, hc5, hc7, hc9, hc11, hc13, hc15, hc17, hc19, hc21, hc23, hc25, hc27, hc29, hc31, hc33, hc35, hc37, hc39, hc41, hc43]; rfl) (by simp only [long43, go_sem, seval]; rfl) ?_
  refine Runs.cond (t := 4) rfl (fun hc45 => ?_) (fun hc45 => ?_)
  · skip
    try simp only [toks_len, N3] at hc45
    try simp only [hc45, C5] at h
    refine Runs.skip ?_
    refine Runs.cond (t := 4) rfl (fun hc46 => ?_) (fun hc46 => ?_)
    rotate_left
    · exact absurd hc46 (by first | decide | (simp only [hc23, hc25, hc27, hc29, hc31, hc33, hc35, hc37, hc39, hc41, hc43, hc45]; decide))
    try simp only [toks_len, N3] at hc46
    try simp only [hc46, C5] at h
    refine Runs.seq ?_
    refine Runs.reg (by simp only [go_sem, seval, hc1, hc3, hc5, hc7, hc9, hc11, hc13, hc15, hc17, hc19, hc21, hc23, hc25, hc27, hc29, hc31, hc33, hc35, hc37, hc39, hc41, hc43, hc45]; rfl) (by simp only [long43, go_sem, seval]; rfl) ?_
    refine Runs.ret ?_
    first | rfl | (cases h; rfl)
  try simp only [toks_len, N3] at hc45
  try simp only [hc45, C5] at h
  refine Runs.seq ?_
  refine Runs.reg (by simp only [go_sem, seval, hc1, hc3, hc5, hc7, hc9, hc11, hc13, hc15, hc17, hc19, hc21, hc23, hc25, hc27, hc29, hc31, hc33, hc35, hc37, hc39, hc41, hc43, hc45]; rfl) (by simp only [long43, go_sem, seval]; rfl) ?_
  refine Runs.cond (t := 4) rfl (fun hc47 => ?_) (fun hc47 => ?_)
  · skip
    try simp only [toks_len, N3] at hc47
    try simp only [hc47, C5] at h
    refine Runs.skip ?_
    refine Runs.cond (t := 4) rfl (fun hc48 => ?_) (fun hc48 => ?_)
    rotate_left
    · exact absurd hc48 (by first | decide | (simp only [hc25, hc27, hc29, hc31, hc33, hc35, hc37, hc39, hc41, hc43, hc45, hc47]; decide))
    try simp only [toks_len, N3] at hc48
    try simp only [hc48, C5] at h
    refine Runs.seq ?_
    refine Runs.reg (by simp only [go_sem, seval, hc1, hc3, hc5, hc7, hc9, hc11, hc13, hc15, hc17, hc19, hc21, hc23, hc25, hc27, hc29, hc31, hc33, hc35, hc37, hc39, hc41, hc43, hc45, hc47]; rfl) (by simp only [long43, go_sem, seval]; rfl) ?_
    refine Runs.ret ?_
    first | rfl | (cases h; rfl)
  try simp only [toks_len, N3] at hc47
  try simp only [hc47, C5] at h
  refine Runs.seq ?_
  refine Runs.reg (by simp only [go_sem, seval, hc1, hc3, hc5, hc7, hc9, hc11, hc13, hc15, hc17, hc19, hc21, hc23, hc25, hc27, hc29, hc31, hc33, hc35, hc37, hc39, hc41, hc43, hc45, hc47]; rfl) (by simp only [long43, go_sem, seval]; rfl) ?_
  refine Runs.cond (t := 4) rfl (fun hc49 => ?_) (fun hc49 => ?_)
  · skip
    try simp only [toks_len, N3] at hc49
    try simp only [hc49, C5] at h
    refine Runs.skip ?_
    refine Runs.cond (t := 4) rfl (fun hc50 => ?_) (fun hc50 => ?_)
    rotate_left
    · exact absurd hc50 (by first | decide | (simp only [hc27, hc29, hc31, hc33, hc35, hc37, hc39, hc41, hc43, hc45, hc47, hc49]; decide))
    try simp only [toks_len, N3] at hc50
    try simp only [hc50, C5] at h
    refine Runs.seq ?_
    refine Runs.reg (by simp only [go_sem, seval, hc1, hc3, hc5, hc7, hc9, hc11, hc13, hc15, hc17, hc19, hc21, hc23, hc25, hc27, hc29, hc31, hc33, hc35, hc37, hc39, hc41, hc43, hc45, hc47, hc49]; rfl) (by simp only [long43, go_sem, seval]; rfl) ?_
    refine Runs.ret ?_
    first | rfl | (cases h; rfl)
  try simp only [toks_len, N3] at hc49
  try simp only [hc49, C5] at h
  refine Runs.seq ?_
  refine Runs.reg (by simp only [go_sem, seval, hc1, hc3, hc5, hc7, hc9, hc11, hc13, hc15, hc17, hc19, hc21, hc23, hc25, hc27, hc29, hc31, hc33, hc35, hc37, hc39, hc41, hc43, hc45, hc47, hc49]; rfl) (by simp only [long43, go_sem, seval]; rfl) ?_
  refine Runs.cond (t := 4) rfl (fun hc51 => ?_) (fun hc51 => ?_)
  · skip
    try simp only [toks_len, N3] at hc51
    try simp only [hc51, C5] at h
    refine Runs.skip ?_
    refine Runs.cond (t := 4) rfl (fun hc52 => ?_) (fun hc52 => ?_)
    rotate_left
    · exact absurd hc52 (by first | decide | (simp only [hc29, hc31, hc33, hc35, hc37, hc39, hc41, hc43, hc45, hc47, hc49, hc51]; decide))
    try simp only [toks_len, N3] at hc52
    try simp only [hc52, C5] at h
    refine Runs.seq ?_
    refine Runs.reg (by simp only [go_sem, seval, hc1, hc3, hc5, hc7, hc9, hc11, hc13, hc15, hc17, hc19, hc21, hc23, hc25, hc27, hc29, hc31, hc33, hc35, hc37, hc39, hc41, hc43, hc45, hc47, hc49, hc51]; rfl) (by simp only [long43, go_sem, seval]; rfl) ?_
    refine Runs.ret ?_
    first | rfl | (cases h; rfl)
  try simp only [toks_len, N3] at hc51
  try simp only [hc51, C5] at h
  refine Runs.seq ?_
  refine Runs.reg (by simp only [go_sem, seval, hc1, hc3, hc5, hc7, hc9, hc11, hc13, hc15, hc17, hc19, hc21, hc23, hc25, hc27, hc29, hc31, hc33, hc35, hc37, hc39, hc41, hc43, hc45, hc47, hc49, hc51]; rfl) (by simp only [long43, go_sem, seval]; rfl) ?_
  refine Runs.cond (t := 4) rfl (fun hc53 => ?_) (fun hc53 => ?_)
  · skip
    try simp only [toks_len, N3] at hc53
    try simp only [hc53, C5] at h
    refine Runs.skip ?_
    refine Runs.cond (t := 4) rfl (fun hc54 => ?_) (fun hc54 => ?_)
    rotate_left
    · exact absurd hc54 (by first | decide | (simp only [hc31, hc33, hc35, hc37, hc39, hc41, hc43, hc45, hc47, hc49, hc51, hc53]; decide))
    try simp only [toks_len, N3] at hc54
    try simp only [hc54, C5] at h
    refine Runs.seq ?_
    refine Runs.reg (by simp only [go_sem, seval, hc1, hc3, hc5, hc7, hc9, hc11, hc13, hc15, hc17, hc19, hc21, hc23, hc25, hc27, hc29, hc31, hc33, hc35, hc37, hc39, hc41, hc43, hc45, hc47, hc49, hc51, hc53]; rfl) (by simp only [long43, go_sem, seval]; rfl) ?_
    refine Runs.ret ?_
    first | rfl | (cases h; rfl)
  try simp only [toks_len, N3] at hc53
  try simp only [hc53, C5] at h
  refine Runs.seq ?_
  refine Runs.reg (by simp only [go_sem, seval, hc1, hc3, hc5, hc7, hc9, hc11, hc13, hc15, hc17, hc19, hc21, hc23, hc25, hc27, hc29, hc31, hc33, hc35, hc37, hc39, hc41, hc43, hc45, hc47, hc49, hc51, hc53]; rfl) (by simp only [long43, go_sem, seval]; rfl) ?_
  refine Runs.cond (t := 4) rfl (fun hc55 => ?_) (fun hc55 => ?_)
  · skip
    try simp only [toks_len, N3] at hc55
    try simp only [hc55, C5] at h
    refine Runs.skip ?_
    refine Runs.cond (t := 4) rfl (fun hc56 => ?_) (fun hc56 => ?_)
    rotate_left
    · exact absurd hc56 (by first | decide | (simp only [hc33, hc35, hc37, hc39, hc41, hc43, hc45, hc47, hc49, hc51, hc53, hc55]; decide))
    try simp only [toks_len, N3] at hc56
    try simp only [hc56, C5] at h
    refine Runs.seq ?_
    refine Runs.reg (by simp only [go_sem, seval, hc1, hc3, hc5, hc7, hc9, hc11, hc13, hc15, hc17, hc19, hc21, hc23, hc25, hc27, hc29, hc31, hc33, hc35, hc37, hc39, hc41, hc43, hc45, hc47, hc49, hc51, hc53, hc55]; rfl) (by simp only [long43, go_sem, seval]; rfl) ?_
    refine Runs.ret ?_
    first | rfl | (cases h; rfl)
  try simp only [toks_len, N3] at hc55
  try simp only [hc55, C5] at h
  refine Runs.seq ?_
  refine Runs.reg (by simp only [go_sem, seval, hc1, hc3, hc5, hc7, hc9, hc11, hc13, hc15, hc17, hc19, hc21, hc23, hc25, hc27, hc29, hc31, hc33, hc35, hc37, hc39, hc41, hc43, hc45, hc47, hc49, hc51, hc53, hc55]; rfl) (by simp only [long43, go_sem, seval]; rfl) ?_
  refine Runs.cond (t := 4) rfl (fun hc57 => ?_) (fun hc57 => ?_)
  · skip
    try simp only [toks_len, N3] at hc57
    try simp only [hc57, C5] at h
    refine Runs.skip ?_
    refine Runs.cond (t := 4) rfl (fun hc58 => ?_) (fun hc58 => ?_)
    rotate_left
    · exact absurd hc58 (by first | decide | (simp only [hc35, hc37, hc39, hc41, hc43, hc45, hc47, hc49, hc51, hc53, hc55, hc57]; decide))
    try simp only [toks_len, N3] at hc58
    try simp only [hc58, C5] at h
    refine Runs.seq ?_
    refine Runs.reg (by simp only [go_sem, seval, hc1, hc3, hc5, hc7, hc9, hc11, hc13, hc15, hc17, hc19, hc21, hc23, hc25, hc27, hc29, hc31, hc33, hc35, hc37, hc39, hc41, hc43, hc45, hc47, hc49, hc51, hc53, hc55, hc57]; rfl) (by simp only [long43, go_sem, seval]; rfl) ?_
    refine Runs.ret ?_
    first | rfl | (cases h; rfl)
  try simp only [toks_len, N3] at hc57
  try simp only [hc57, C5] at h
  refine Runs.seq ?_
  refine Runs.reg (by simp only [go_sem, seval, hc1, hc3, hc5, hc7, hc9, hc11, hc13, hc15, hc17, hc19, hc21, hc23, hc25, hc27, hc29, hc31, hc33, hc35, hc37, hc39, hc41, hc43, hc45, hc47, hc49, hc51, hc53, hc55, hc57]; rfl) (by simp only [long43, go_sem, seval]; rfl) ?_
  refine Runs.cond (t := 4) rfl (fun hc59 => ?_) (fun hc59 => ?_)
  · skip
    try simp only [toks_len, N3] at hc59
    try simp only [hc59, C5] at h
    refine Runs.skip ?_
    refine Runs.cond (t := 4) rfl (fun hc60 => ?_) (fun hc60 => ?_)
    rotate_left
    · exact absurd hc60 (by first | decide | (simp only [hc37, hc39, hc41, hc43, hc45, hc47, hc49, hc51, hc53, hc55, hc57, hc59]; decide))
    try simp only [toks_len, N3] at hc60
    try simp only [hc60, C5] at h
    refine Runs.seq ?_
    refine Runs.reg (by simp only [go_sem, seval, hc1, hc3, hc5, hc7, hc9, hc11, hc13, hc15, hc17, hc19, hc21, hc23, hc25, hc27, hc29, hc31, hc33, hc35, hc37, hc39, hc41, hc43, hc45, hc47, hc49, hc51, hc53, hc55, hc57, hc59]; rfl) (by simp only [long43, go_sem, seval]; rfl) ?_
    refine Runs.ret ?_
    first | rfl | (cases h; rfl)
  try simp only [toks_len, N3] at hc59
  try simp only [hc59, C5] at h
  refine Runs.seq ?_
  refine Runs.reg (by simp only [go_sem, seval, hc1, hc3, hc5, hc7, hc9, hc11, hc13, hc15, hc17, hc19, hc21, hc23, hc25, hc27, hc29, hc31, hc33, hc35, hc37, hc39, hc41, hc43, hc45, hc47, hc49, hc51, hc53, hc55, hc57, hc59]; rfl) (by simp only [long43, go_sem, seval]; rfl) ?_
  refine Runs.cond (t := 4) rfl (fun hc61 => ?_) (fun hc61 => ?_)
  · skip
    try simp only [toks_len, N3] at hc61
    try simp only [hc61, C5] at h
    refine Runs.skip ?_
    refine Runs.cond (t := 4) rfl (fun hc62 => ?_) (fun hc62 => ?_)
    rotate_left
    · exact absurd hc62 (by first | decide | (simp only [hc39, hc41, hc43, hc45, hc47, hc49, hc51, hc53, hc55, hc57, hc59, hc61]; decide))
    try simp only [toks_len, N3] at hc62
    try simp only [hc62, C5] at h
    refine Runs.seq ?_
    refine Runs.reg (by simp only [go_sem, seval, hc1, hc3, hc5, hc7, hc9, hc11, hc13, hc15, hc17, hc19, hc21, hc23, hc25, hc27, hc29, hc31, hc33, hc35, hc37, hc39, hc41, hc43, hc45, hc47, hc49, hc51, hc53, hc55, hc57, hc59, hc61]; rfl) (by simp only [long43, go_sem, seval]; rfl) ?_
    refine Runs.ret ?_
    first | rfl | (cases h; rfl)
  try simp only [toks_len, N3] at hc61
  try simp only [hc61, C5] at h
  refine Runs.seq ?_
  refine Runs.reg (by simp only [go_sem, seval, hc1, hc3, hc5, hc7, hc9, hc11, hc13, hc15, hc17, hc19, hc21, hc23, hc25, hc27, hc29, hc31, hc33, hc35, hc37, hc39, hc41, hc43, hc45, hc47, hc49, hc51, hc53, hc55, hc57, hc59, hc61]; rfl) (by simp only [long43, go_sem, seval]; rfl) ?_
  refine Runs.cond (t := 4) rfl (fun hc63 => ?_) (fun hc63 => ?_)
  · skip
    try simp only [toks_len, N3] at hc63
    try simp only [hc63, C5] at h
    refine Runs.skip ?_
    refine Runs.cond (t := 4) rfl (fun hc64 => ?_) (fun hc64 => ?_)
    rotate_left
    · exact absurd hc64 (by first | decide | (simp only [hc41, hc43, hc45, hc47, hc49, hc51, hc53, hc55, hc57, hc59, hc61, hc63]; decide))
    try simp only [toks_len, N3] at hc64
    try simp only [hc64, C5] at h
    refine Runs.seq ?_
    refine Runs.reg (by simp only [go_sem, seval, hc1, hc3, hc5, hc7, hc9, hc11, hc13, hc15, hc17, hc19, hc21, hc23, hc25, hc27, hc29, hc31, hc33, hc35, hc37, hc39, hc41, hc43, hc45, hc47, hc49, hc51, hc53, hc55, hc57, hc59, hc61, hc63]; rfl) (by simp only [long43, go_sem, seval]; rfl) ?_
    refine Runs.ret ?_
    first | rfl | (cases h; rfl)
  try simp only [toks_len, N3] at hc63
  try simp only [hc63, C5] at h
  refine Runs.seq ?_
  refine Runs.reg (by simp only [go_sem, seval, hc1, hc3, hc5, hc7, hc9, hc11, hc13, hc15, hc17, hc19, hc21, hc23, hc25, hc27, hc29, hc31, hc33, hc35, hc37, hc39, hc41, hc43, hc45, hc47, hc49, hc51, hc53, hc55, hc57, hc59, hc61, hc63]; rfl) (by simp only [long43, go_sem, seval]; rfl) ?_
  refine Runs.cond (t := 4) rfl (fun hc65 => ?_) (fun hc65 => ?_)
  · skip
    try simp only [toks_len, N3] at hc65
    try simp only [hc65, C5] at h
    refine Runs.skip ?_
    refine Runs.cond (t := 4) rfl (fun hc66 => ?_) (fun hc66 => ?_)
    rotate_left
    · exact absurd hc66 (by first | decide | (simp only [hc43, hc45, hc47, hc49, hc51, hc53, hc55, hc57, hc59, hc61, hc63, hc65]; decide))
    try simp only [toks_len, N3] at hc66
    try simp only [hc66, C5] at h
    refine Runs.seq ?_
    refine Runs.reg (by simp only [go_sem, seval, hc1, hc3, hc5, hc7, hc9, hc11, hc13, hc15, hc17, hc19, hc21, hc23, hc25, hc27, hc29, hc31, hc33, hc35, hc37, hc39, hc41, hc43, hc45, hc47, hc49, hc51, hc53, hc55, hc57, hc59, hc61, hc63, hc65]; rfl) (by simp only [long43, go_sem, seval]; rfl) ?_
    refine Runs.ret ?_
    first | rfl | (cases h; rfl)
  try simp only [toks_len, N3] at hc65
  try simp only [hc65, C5] at h
  refine Runs.seq ?_
  refine Runs.reg (by simp only [go_sem, seval, hc1, hc3, hc5, hc7, hc9, hc11, hc13, hc15, hc17, hc19, hc21, hc23, hc25, hc27, hc29, hc31, hc33, hc35, hc37, hc39, hc41, hc43, hc45, hc47, hc49, hc51, hc53, hc55, hc57, hc59, hc61, hc63, hc65]; rfl) (by simp only [long43, go_sem, seval]; rfl) ?_
  refine Runs.cond (t := 4) rfl (fun hc67 => ?_) (fun hc67 => ?_)
  · skip
    try simp only [toks_len, N3] at hc67
    try simp only [hc67, C5] at h
    refine Runs.skip ?_
    refine Runs.cond (t := 4) rfl (fun hc68 => ?_) (fun hc68 => ?_)
    rotate_left
    · exact absurd hc68 (by first | decide | (simp only [hc45, hc47, hc49, hc51, hc53, hc55, hc57, hc59, hc61, hc63, hc65, hc67]; decide))
    try simp only [toks_len, N3] at hc68
    try simp only [hc68, C5] at h
    refine Runs.seq ?_
    refine Runs.reg (by simp only [go_sem, seval, hc1, hc3, hc5, hc7, hc9, hc11, hc13, hc15, hc17, hc19, hc21, hc23, hc25, hc27, hc29, hc31, hc33, hc35, hc37, hc39, hc41, hc43, hc45, hc47, hc49, hc51, hc53, hc55, hc57, hc59, hc61, hc63, hc65, hc67]; rfl) (by simp only [long43, go_sem, seval]; rfl) ?_
    refine Runs.ret ?_
    first | rfl | (cases h; rfl)
  try simp only [toks_len, N3] at hc67
  try simp only [hc67, C5] at h
  refine Runs.seq ?_
  refine Runs.reg (by simp only [go_sem, seval, hc1, hc3, hc5, hc7, hc9, hc11, hc13, hc15, hc17, hc19, hc21, hc23, hc25, hc27, hc29, hc31, hc33, hc35, hc37, hc39, hc41, hc43, hc45, hc47, hc49, hc51, hc53, hc55, hc57, hc59, hc61, hc63, hc65, hc67]; rfl) (by simp only [long43, go_sem, seval]; rfl) ?_
  refine Runs.cond (t := 4) rfl (fun hc69 => ?_) (fun hc69 => ?_)
  · skip
    try simp only [toks_len, N3] at hc69
    try simp only [hc69, C5] at h
    refine Runs.skip ?_
    refine Runs.cond (t := 4) rfl (fun hc70 => ?_) (fun hc70 => ?_)
    rotate_left
    · exact absurd hc70 (by first | decide | (simp only [hc47, hc49, hc51, hc53, hc55, hc57, hc59, hc61, hc63, hc65, hc67, hc69]; decide))
    try simp only [toks_len, N3] at hc70
    try simp only [hc70, C5] at h
    refine Runs.seq ?_
    refine Runs.reg (by simp only [go_sem, seval, hc1, hc3, hc5, hc7, hc9, hc11, hc13, hc15, hc17, hc19, hc21, hc23, hc25, hc27, hc29, hc31, hc33, hc35, hc37, hc39, hc41, hc43, hc45, hc47, hc49, hc51, hc53, hc55, hc57, hc59, hc61, hc63, hc65, hc67, hc69]; rfl) (by simp only [long43, go_sem, seval]; rfl) ?_
    refine Runs.ret ?_
    first | rfl | (cases h; rfl)
  try simp only [toks_len, N3] at hc69
  try simp only [hc69, C5] at h
  refine Runs.seq ?_
  refine Runs.reg (by simp only [go_sem, seval, hc1, hc3, hc5, hc7, hc9, hc11, hc13, hc15, hc17, hc19, hc21, hc23, hc25, hc27, hc29, hc31, hc33, hc35, hc37, hc39, hc41, hc43, hc45, hc47, hc49, hc51, hc53, hc55, hc57, hc59, hc61, hc63, hc65, hc67, hc69]; rfl) (by simp only [long43, go_sem, seval]; rfl) ?_
  refine Runs.cond (t := 4) rfl (fun hc71 => ?_) (fun hc71 => ?_)
  · skip
    try simp only [toks_len, N3] at hc71
    try simp only [hc71, C5] at h
    refine Runs.skip ?_
    refine Runs.cond (t := 4) rfl (fun hc72 => ?_) (fun hc72 => ?_)
    rotate_left
    · exact absurd hc72 (by first | decide | (simp only [hc49, hc51, hc53, hc55, hc57, hc59, hc61, hc63, hc65, hc67, hc69, hc71]; decide))
    try simp only [toks_len, N3] at hc72
    try simp only [hc72, C5] at h
    refine Runs.seq ?_
    refine Runs.reg (by simp only [go_sem, seval, hc1, hc3, hc5, hc7, hc9, hc11, hc13, hc15, hc17, hc19, hc21, hc23, hc25, hc27, hc29, hc31, hc33, hc35, hc37, hc39, hc41, hc43, hc45, hc47, hc49, hc51, hc53, hc55, hc57, hc59, hc61, hc63, hc65, hc67, hc69, hc71]; rfl) (by simp only [long43, go_sem, seval]; rfl) ?_
    refine Runs.ret ?_
    first | rfl | (cases h; rfl)
  try simp only [toks_len, N3] at hc71
  try simp only [hc71, C5] at h
  refine Runs.seq ?_
  refine Runs.reg (by simp only [go_sem, seval, hc1, hc3, hc5, hc7, hc9, hc11, hc13, hc15, hc17, hc19, hc21, hc23, hc25, hc27, hc29, hc31, hc33, hc35, hc37, hc39, hc41, hc43, hc45, hc47, hc49, hc51, hc53, hc55, hc57, hc59, hc61, hc63, hc65, hc67, hc69, hc71]; rfl) (by simp only [long43, go_sem, seval]; rfl) ?_
  refine Runs.cond (t := 4) rfl (fun hc73 => ?_) (fun hc73 => ?_)
  · skip
    try simp only [toks_len, N3] at hc73
    try simp only [hc73, C5] at h
    refine Runs.skip ?_
    refine Runs.cond (t := 4) rfl (fun hc74 => ?_) (fun hc74 => ?_)
    rotate_left
    · exact absurd hc74 (by first | decide | (simp only [hc51, hc53, hc55, hc57, hc59, hc61, hc63, hc65, hc67, hc69, hc71, hc73]; decide))
    try simp only [toks_len, N3] at hc74
    try simp only [hc74, C5] at h
    refine Runs.seq ?_
    refine Runs.reg (by simp only [go_sem, seval, hc1, hc3, hc5, hc7, hc9, hc11, hc13, hc15, hc17, hc19, hc21, hc23, hc25, hc27, hc29, hc31, hc33, hc35, hc37, hc39, hc41, hc43, hc45, hc47, hc49, hc51, hc53, hc55, hc57, hc59, hc61, hc63, hc65, hc67, hc69, hc71, hc73]; rfl) (by simp only [long43, go_sem, seval]; rfl) ?_
    refine Runs.ret ?_
    first | rfl | (cases h; rfl)
  try simp only [toks_len, N3] at hc73
  try simp only [hc73, C5] at h
  refine Runs.seq ?_
  refine Runs.reg (by simp only [go_sem, seval, hc1, hc3, hc5, hc7, hc9, hc11, hc13, hc15, hc17, hc19, hc21, hc23, hc25, hc27, hc29, hc31, hc33, hc35, hc37, hc39, hc41, hc43, hc45, hc47, hc49, hc51, hc53, hc55, hc57, hc59, hc61, hc63, hc65, hc67, hc69, hc71, hc73]; rfl) (by simp only [long43, go_sem, seval]; rfl) ?_
  refine Runs.cond (t := 4) rfl (fun hc75 => ?_) (fun hc75 => ?_)
  · skip
    try simp only [toks_len, N3] at hc75
    try simp only [hc75, C5] at h
    refine Runs.skip ?_
    refine Runs.cond (t := 4) rfl (fun hc76 => ?_) (fun hc76 => ?_)
    rotate_left
    · exact absurd hc76 (by first | decide | (simp only [hc53, hc55, hc57, hc59, hc61, hc63, hc65, hc67, hc69, hc71, hc73, hc75]; decide))
    try simp only [toks_len, N3] at hc76
    try simp only [hc76, C5] at h
    refine Runs.seq ?_
    refine Runs.reg (by simp only [go_sem, seval, hc1, hc3, hc5, hc7, hc9, hc11, hc13, hc15, hc17, hc19, hc21, hc23, hc25, hc27, hc29, hc31, hc33, hc35, hc37, hc39, hc41, hc43, hc45, hc47, hc49, hc51, hc53, hc55, hc57, hc59, hc61, hc63, hc65, hc67, hc69, hc71, hc73, hc75]; rfl) (by simp only [long43, go_sem, seval]; rfl) ?_
    refine Runs.ret ?_
    first | rfl | (cases h; rfl)
  try simp only [toks_len, N3] at hc75
  try simp only [hc75, C5] at h
  refine Runs.seq ?_
  refine Runs.reg (by simp only [go_sem, seval, hc1, hc3, hc5, hc7, hc9, hc11, hc13, hc15, hc17, hc19, hc21, hc23, hc25, hc27, hc29, hc31, hc33, hc35, hc37, hc39, hc41, hc43, hc45, hc47, hc49, hc51, hc53, hc55, hc57, hc59, hc61, hc63, hc65, hc67, hc69, hc71, hc73, hc75]; rfl) (by simp only [long43, go_sem, seval]; rfl) ?_
  refine Runs.cond (t := 4) rfl (fun hc77 => ?_) (fun hc77 => ?_)
  · skip
    try simp only [toks_len, N3] at hc77
    try simp only [hc77, C5] at h
    refine Runs.skip ?_
    refine Runs.cond (t := 4) rfl (fun hc78 => ?_) (fun hc78 => ?_)
    rotate_left
    · exact absurd hc78 (by first | decide | (simp only [hc55, hc57, hc59, hc61, hc63, hc65, hc67, hc69, hc71, hc73, hc75, hc77]; decide))
    try simp only [toks_len, N3] at hc78
    try simp only [hc78, C5] at h
    refine Runs.seq ?_
    refine Runs.reg (by simp only [go_sem, seval, hc1, hc3, hc5, hc7, hc9, hc11, hc13, hc15, hc17, hc19, hc21, hc23, hc25, hc27, hc29, hc31, hc33, hc35, hc37, hc39, hc41, hc43, hc45, hc47, hc49, hc51, hc53, hc55, hc57, hc59, hc61, hc63, hc65, hc67, hc69, hc71, hc73, hc75, hc77]; rfl) (by simp only [long43, go_sem, seval]; rfl) ?_
    refine Runs.ret ?_
    first | rfl | (cases h; rfl)
  try simp only [toks_len, N3] at hc77
  try simp only [hc77, C5] at h
  refine Runs.seq ?_
  refine Runs.reg (by simp only [go_sem, seval, hc1, hc3, hc5, hc7, hc9, hc11, hc13, hc15, hc17, hc19, hc21, hc23, hc25, hc27, hc29, hc31, hc33, hc35, hc37, hc39, hc41, hc43, hc45, hc47, hc49, hc51, hc53, hc55, hc57, hc59, hc61, hc63, hc65, hc67, hc69, hc71, hc73, hc75, hc77]; rfl) (by simp only [long43, go_sem, seval]; rfl) ?_
  refine Runs.cond (t := 4) rfl (fun hc79 => ?_) (fun hc79 => ?_)
  · skip
    try simp only [toks_len, N3] at hc79
    try simp only [hc79, C5] at h
    refine Runs.skip ?_
    refine Runs.cond (t := 4) rfl (fun hc80 => ?_) (fun hc80 => ?_)
    rotate_left
    · exact absurd hc80 (by first | decide | (simp only [hc57, hc59, hc61, hc63, hc65, hc67, hc69, hc71, hc73, hc75, hc77, hc79]; decide))
    try simp only [toks_len, N3] at hc80
    try simp only [hc80, C5] at h
    refine Runs.seq ?_
    refine Runs.reg (by simp only [go_sem, seval, hc1, hc3, hc5, hc7, hc9, hc11, hc13, hc15, hc17, hc19, hc21, hc23, hc25, hc27, hc29, hc31, hc33, hc35, hc37, hc39, hc41, hc43, hc45, hc47, hc49, hc51, hc53, hc55, hc57, hc59, hc61, hc63, hc65, hc67, hc69, hc71, hc73, hc75, hc77, hc79]; rfl) (by simp only [long43, go_sem, seval]; rfl) ?_
    refine Runs.ret ?_
    first | rfl | (cases h; rfl)
  try simp only [toks_len, N3] at hc79
  try simp only [hc79, C5] at h
  refine Runs.seq ?_
  refine Runs.reg (by simp only [go_sem, seval, hc1, hc3, hc5, hc7, hc9, hc11, hc13, hc15, hc17, hc19, hc21, hc23, hc25, hc27, hc29, hc31, hc33, hc35, hc37, hc39, hc41, hc43, hc45, hc47, hc49, hc51, hc53, hc55, hc57, hc59, hc61, hc63, hc65, hc67, hc69, hc71, hc73, hc75, hc77, hc79]; rfl) (by simp only [long43, go_sem, seval]; rfl) ?_
  refine Runs.cond (t := 4) rfl (fun hc81 => ?_) (fun hc81 => ?_)
  · skip
    try simp only [toks_len, N3] at hc81
    try simp only [hc81, C5] at h
    refine Runs.skip ?_
    refine Runs.cond (t := 4) rfl (fun hc82 => ?_) (fun hc82 => ?_)
    rotate_left
    · exact absurd hc82 (by first | decide | (simp only [hc59, hc61, hc63, hc65, hc67, hc69, hc71, hc73, hc75, hc77, hc79, hc81]; decide))
    try simp only [toks_len, N3] at hc82
    try simp only [hc82, C5] at h
    refine Runs.seq ?_
    refine Runs.reg (by simp only [go_sem, seval, hc1, hc3, hc5, hc7, hc9, hc11, hc13, hc15, hc17, hc19, hc21, hc23, hc25, hc27, hc29, hc31, hc33, hc35, hc37, hc39, hc41, hc43, hc45, hc47, hc49, hc51, hc53, hc55, hc57, hc59, hc61, hc63, hc65, hc67, hc69, hc71, hc73, hc75, hc77, hc79, hc81]; rfl) (by simp only [long43, go_sem, seval]; rfl) ?_
    refine Runs.ret ?_
    first | rfl | (cases h; rfl)
  try simp only [toks_len, N3] at hc81
  try simp only [hc81, C5] at h
  refine Runs.seq ?_
  refine Runs.reg (by simp only [go_sem, seval, hc1, hc3, hc5, hc7, hc9, hc11, hc13, hc15, hc17, hc19, hc21, hc23, hc25, hc27, hc29, hc31, hc33, hc35, hc37, hc39, hc41, hc43, hc45, hc47, hc49, hc51, hc53, hc55, hc57, hc59, hc61, hc63, hc65, hc67, hc69, hc71, hc73, hc75, hc77, hc79, hc81]; rfl) (by simp only [long43, go_sem, seval]; rfl) ?_
  refine Runs.cond (t := 4) rfl (fun hc83 => ?_) (fun hc83 => ?_)
  · skip
    try simp only [toks_len, N3] at hc83
    try simp only [hc83, C5] at h
    refine Runs.skip ?_
    refine Runs.cond (t := 4) rfl (fun hc84 => ?_) (fun hc84 => ?_)
    rotate_left
    · exact absurd hc84 (by first | decide | (simp only [hc61, hc63, hc65, hc67, hc69, hc71, hc73, hc75, hc77, hc79, hc81, hc83]; decide))
    try simp only [toks_len, N3] at hc84
    try simp only [hc84, C5] at h
    refine Runs.seq ?_
    refine Runs.reg (by simp only [go_sem, seval, hc1, hc3, hc5, hc7, hc9, hc11, hc13, hc15, hc17, hc19, hc21, hc23, hc25, hc27, hc29, hc31, hc33, hc35, hc37, hc39, hc41, hc43, hc45, hc47, hc49, hc51, hc53, hc55, hc57, hc59, hc61, hc63, hc65, hc67, hc69, hc71, hc73, hc75, hc77, hc79, hc81, hc83]; rfl) (by simp only [long43, go_sem, seval]; rfl) ?_
    refine Runs.ret ?_
    first | rfl | (cases h; rfl)
  try simp only [toks_len, N3] at hc83
  try simp only [hc83, C5] at h
  refine Runs.reg (by simp only [go_sem, seval, hc1, hc3, hc5, hc7, hc9, hc11, hc13, hc15, hc17, hc19, hc21, hc23, hc25, hc27, hc29, hc31, hc33, hc35, hc37, hc39, hc41, hc43, hc45, hc47, hc49, hc51, hc53, hc55, hc57, hc59, hc61, hc63, hc65, hc67, hc69, hc71, hc73, hc75, hc77, hc79, hc81, hc83]; rfl) (by simp only [long43, go_sem, seval]; rfl) ?_
  refine Runs.cond (t := 4) rfl (fun hc85 => ?_) (fun hc85 => ?_)
  · skip
    try simp only [toks_len, N3] at hc85
    try simp only [hc85, C5] at h
    refine Runs.seq ?_
    refine Runs.reg (by simp only [go_sem, seval, hc1, hc3, hc5, hc7, hc9, hc11, hc13, hc15, hc17, hc19, hc21, hc23, hc25, hc27, hc29, hc31, hc33, hc35, hc37, hc39, hc41, hc43, hc45, hc47, hc49, hc51, hc53, hc55, hc57, hc59, hc61, hc63, hc65, hc67, hc69, hc71, hc73, hc75, hc77, hc79, hc81, hc83, hc85]; rfl) (by simp only [long43, go_sem, seval]; rfl) ?_
    refine Runs.ret ?_
    first | rfl | (cases h; rfl)
  try simp only [toks_len, N3] at hc85
  try simp only [hc85, C5] at h
  refine Runs.skip ?_
  refine Runs.seq ?_
  refine Runs.reg (by simp only [go_sem, seval, hc1, hc3, hc5, hc7, hc9, hc11, hc13, hc15, hc17, hc19, hc21, hc23, hc25, hc27, hc29, hc31, hc33, hc35, hc37, hc39, hc41, hc43, hc45, hc47, hc49, hc51, hc53, hc55, hc57, hc59, hc61, hc63, hc65, hc67, hc69, hc71, hc73, hc75, hc77, hc79, hc81, hc83, hc85]; rfl) (by simp only [long43, go_sem, seval]; rfl) ?_
  refine Runs.ret ?_
  first | rfl | (cases h; rfl)
theorem W75 (p : PS) (b : Bool) (h : stopsP p = some b) : callW ip 67 [.c (.ptr 0 0)] [pBox p] = some (.ret [.c (.d (.bo b))], [pBox p]) := by
  have h0 : True := trivial
  have ht : True := trivial
  have w1 := trivial
  have w2 := trivial
  have w3 := trivial
  have w4 := trivial
  simp only [stopsP] at h
  refine callW_runs (fn := Tryd.f67) (L := long67) (nt := 17) (n0 := 1) (T := tab) (rw' := []) (kA := keepA) Tryd.func67 rfl rfl rfl rfl rfl rfl rfl rfl rfl ?_
  refine Runs.seq ?_
  refine Runs.reg (by simp only [go_sem, seval, toks_get, toks_len, h0, ht, w1, w2, w3, w4]; rfl) (by simp only [long67, go_sem, seval]; rfl) ?_
  refine Runs.seq ?_
  refine Runs.row ?_
  first | (obtain ⟨b1, hb1, h⟩ := some_bind h; have w1 := W25 p _ _ hb1) | have w1 := trivial
  refine Row.run 3 (by simp only [go_sem, seval, toks_get, toks_len, h0, ht, w1, w2, w3, w4]; rfl) ?_
  refine Row.guard (t := 5) (by simp only [go_sem, seval]; rfl) (fun hg1 => ?_) (fun hg1 => ?_)
  · first
    | exact absurd hg1 (by decide)
    | skip
      try simp only [toks_len, N3] at hg1
      try simp only [hg1, C5] at h
      first | (obtain ⟨b2, hb2, h⟩ := some_bind h; have w2 := W25 p _ _ hb2) | have w2 := trivial
      refine Row.run 4 (by simp only [go_sem, seval, toks_get, toks_len, h0, ht, w1, w2, w3, w4, hg1]; rfl) ?_
      refine Row.guard (t := 9) (by simp only [go_sem, seval]; rfl) (fun hg2 => ?_) (fun hg2 => ?_)
      · first
        | exact absurd hg2 (by decide)
        | exact absurd hg2 (by simp only [hg1]; decide)
        | skip
          try simp only [toks_len, N3] at hg2
          try simp only [hg2, C5] at h
          first | (obtain ⟨b3, hb3, h⟩ := some_bind h; have w3 := W25 p _ _ hb3) | have w3 := trivial
          refine Row.run 4 (by simp only [go_sem, seval, toks_get, toks_len, h0, ht, w1, w2, w3, w4, hg1, hg2]; rfl) ?_
          refine Row.guard (t := 13) (by simp only [go_sem, seval]; rfl) (fun hg3 => ?_) (fun hg3 => ?_)
          · first
            | exact absurd hg3 (by decide)
            | exact absurd hg3 (by simp only [hg1, hg2]; decide)
            | skip
              try simp only [toks_len, N3] at hg3
              try simp only [hg3, C5] at h
              first | (obtain ⟨b4, hb4, h⟩ := some_bind h; have w4 := W25 p _ _ hb4) | have w4 := trivial
              refine Row.run 4 (by simp only [go_sem, seval, toks_get, toks_len, h0, ht, w1, w2, w3, w4, hg1, hg2, hg3]; rfl) ?_
              refine Row.end_ (by simp only [long67, go_sem, seval]; rfl) ?_
              refine Runs.ret ?_
              first | rfl | (cases h; rfl)
          · first
            | exact absurd hg3 (by decide)
            | exact absurd hg3 (by simp only [hg1, hg2]; decide)
            | skip
              try simp only [toks_len, N3] at hg3
              try simp only [hg3, C5] at h
              first | (obtain ⟨b4, hb4, h⟩ := some_bind h; have w4 := W25 p _ _ hb4) | have w4 := trivial
              refine Row.run 4 (by simp only [go_sem, seval, toks_get, toks_len, h0, ht, w1, w2, w3, w4, hg1, hg2, hg3]; rfl) ?_
              refine Row.end_ (by simp only [long67, go_sem, seval]; rfl) ?_
              refine Runs.ret ?_
              first | rfl | (cases h; rfl)
      · first
        | exact absurd hg2 (by decide)
        | exact absurd hg2 (by simp only [hg1]; decide)
        | skip
          try simp only [toks_len, N3] at hg2
          try simp only [hg2, C5] at h
          first | (obtain ⟨b3, hb3, h⟩ := some_bind h; have w3 := W25 p _ _ hb3) | have w3 := trivial
          refine Row.run 4 (by simp only [go_sem, seval, toks_get, toks_len, h0, ht, w1, w2, w3, w4, hg1, hg2]; rfl) ?_
          refine Row.guard (t := 13) (by simp only [go_sem, seval]; rfl) (fun hg4 => ?_) (fun hg4 => ?_)
          · first
            | exact absurd hg4 (by decide)
            | exact absurd hg4 (by simp only [hg1, hg2]; decide)
            | skip
              try simp only [toks_len, N3] at hg4
              try simp only [hg4, C5] at h
              first | (obtain ⟨b4, hb4, h⟩ := some_bind h; have w4 := W25 p _ _ hb4) | have w4 := trivial
              refine Row.run 4 (by simp only [go_sem, seval, toks_get, toks_len, h0, ht, w1, w2, w3, w4, hg1, hg2, hg4]; rfl) ?_
              refine Row.end_ (by simp only [long67, go_sem, seval]; rfl) ?_
              refine Runs.ret ?_
              first | rfl | (cases h; rfl)
          · first
            | exact absurd hg4 (by decide)
            | exact absurd hg4 (by simp only [hg1, hg2]; decide)
            | skip
              try simp only [toks_len, N3] at hg4
              try simp only [hg4, C5] at h
              first | (obtain ⟨b4, hb4, h⟩ := some_bind h; have w4 := W25 p _ _ hb4) | have w4 := trivial
              refine Row.run 4 (by simp only [go_sem, seval, toks_get, toks_len, h0, ht, w1, w2, w3, w4, hg1, hg2, hg4]; rfl) ?_
              refine Row.end_ (by simp only [long67, go_sem, seval]; rfl) ?_
              refine Runs.ret ?_
              first | rfl | (cases h; rfl)
  · first
    | exact absurd hg1 (by decide)
    | skip
      try simp only [toks_len, N3] at hg1
      try simp only [hg1, C5] at h
      first | (obtain ⟨b2, hb2, h⟩ := some_bind h; have w2 := W25 p _ _ hb2) | have w2 := trivial
      refine Row.run 4 (by simp only [go_sem, seval, toks_get, toks_len, h0, ht, w1, w2, w3, w4, hg1]; rfl) ?_
      refine Row.guard (t := 9) (by simp only [go_sem, seval]; rfl) (fun hg5 => ?_) (fun hg5 => ?_)
      · first
        | exact absurd hg5 (by decide)
        | exact absurd hg5 (by simp only [hg1]; decide)
        | skip
          try simp only [toks_len, N3] at hg5
          try simp only [hg5, C5] at h
          first | (obtain ⟨b3, hb3, h⟩ := some_bind h; have w3 := W25 p _ _ hb3) | have w3 := trivial
          refine Row.run 4 (by simp only [go_sem, seval, toks_get, toks_len, h0, ht, w1, w2, w3, w4, hg1, hg5]; rfl) ?_
          refine Row.guard (t := 13) (by simp only [go_sem, seval]; rfl) (fun hg6 => ?_) (fun hg6 => ?_)
          · first
            | exact absurd hg6 (by decide)
            | exact absurd hg6 (by simp only [hg1, hg5]; decide)
            | skip
              try simp only [toks_len, N3] at hg6
              try simp only [hg6, C5] at h
              first | (obtain ⟨b4, hb4, h⟩ := some_bind h; have w4 := W25 p _ _ hb4) | have w4 := trivial
              refine Row.run 4 (by simp only [go_sem, seval, toks_get, toks_len, h0, ht, w1, w2, w3, w4, hg1, hg5, hg6]; rfl) ?_
              refine Row.end_ (by simp only [long67, go_sem, seval]; rfl) ?_
              refine Runs.ret ?_
              first | rfl | (cases h; rfl)
          · first
            | exact absurd hg6 (by decide)
            | exact absurd hg6 (by simp only [hg1, hg5]; decide)
            | skip
              try simp only [toks_len, N3] at hg6
              try simp only [hg6, C5] at h
              first | (obtain ⟨b4, hb4, h⟩ := some_bind h; have w4 := W25 p _ _ hb4) | have w4 := trivial
              refine Row.run 4 (by simp only [go_sem, seval, toks_get, toks_len, h0, ht, w1, w2, w3, w4, hg1, hg5, hg6]; rfl) ?_
              refine Row.end_ (by simp only [long67, go_sem, seval]; rfl) ?_
              refine Runs.ret ?_
              first | rfl | (cases h; rfl)
      · first
        | exact absurd hg5 (by decide)
        | exact absurd hg5 (by simp only [hg1]; decide)
        | skip
          try simp only [toks_len, N3] at hg5
          try simp only [hg5, C5] at h
          first | (obtain ⟨b3, hb3, h⟩ := some_bind h; have w3 := W25 p _ _ hb3) | have w3 := trivial
          refine Row.run 4 (by simp only [go_sem, seval, toks_get, toks_len, h0, ht, w1, w2, w3, w4, hg1, hg5]; rfl) ?_
          refine Row.guard (t := 13) (by simp only [go_sem, seval]; rfl) (fun hg7 => ?_) (fun hg7 => ?_)
          · first
            | exact absurd hg7 (by decide)
            | exact absurd hg7 (by simp only [hg1, hg5]; decide)
            | skip
              try simp only [toks_len, N3] at hg7
              try simp only [hg7, C5] at h
              first | (obtain ⟨b4, hb4, h⟩ := some_bind h; have w4 := W25 p _ _ hb4) | have w4 := trivial
              refine Row.run 4 (by simp only [go_sem, seval, toks_get, toks_len, h0, ht, w1, w2, w3, w4, hg1, hg5, hg7]; rfl) ?_
              refine Row.end_ (by simp only [long67, go_sem, seval]; rfl) ?_
              refine Runs.ret ?_
              first | rfl | (cases h; rfl)
          · first
            | exact absurd hg7 (by decide)
            | exact absurd hg7 (by simp only [hg1, hg5]; decide)
            | skip
              try simp only [toks_len, N3] at hg7
              try simp only [hg7, C5] at h
              first | (obtain ⟨b4, hb4, h⟩ := some_bind h; have w4 := W25 p _ _ hb4) | have w4 := trivial
              refine Row.run 4 (by simp only [go_sem, seval, toks_get, toks_len, h0, ht, w1, w2, w3, w4, hg1, hg5, hg7]; rfl) ?_
              refine Row.end_ (by simp only [long67, go_sem, seval]; rfl) ?_
              refine Runs.ret ?_
              first | rfl | (cases h; rfl)
end Go.Proofs.YtmkacifjegnehaaDoor
