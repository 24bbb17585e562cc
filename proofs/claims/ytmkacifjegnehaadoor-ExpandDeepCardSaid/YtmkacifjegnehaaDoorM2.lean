import Derived.Test.YtmkacifjegnehaaDoorM1
import Derived.Test.YtmkacifjegnehaaDoorAb24
namespace Go.Proofs.YtmkacifjegnehaaDoor
open Go Go.Proofs Go.Proofs.YtmkacifjegnehaaDoor.Ab
set_option linter.unusedSimpArgs false
set_option linter.unusedVariables false
set_option maxRecDepth 10000
set_option maxHeartbeats 4000000
theorem T49 (c : Int) : callW ip 41 [.c (.d (.int .u8 c))] [] = some (.ret [.c (.d (.bo (letterP c)))], []) := W49 c _ rfl
theorem T50 (c : Int) : callW ip 42 [.c (.d (.int .u8 c))] [] = some (.ret [.c (.d (.bo (digitP c)))], []) := W50 c _ rfl
theorem T51 (s : List UInt8) : callW ip 43 [.c (.d (.str s))] [] = some (.ret [.c (.d (.bo (nameP s)))], []) := W51 s _ rfl
theorem T53 (s : List UInt8) : callW ip 45 [.c (.d (.str s))] [] = some (.ret [.c (.d (.bo (twoP s)))], []) := W53 s _ rfl
theorem T54 (c : Int) : callW ip 46 [.c (.d (.int .u8 c))] [] = some (.ret [.c (.d (.bo (oneP c)))], []) := W54 c _ rfl
abbrev sI (s : List UInt8) : V := .c (.d (.str s))
abbrev iI (i : Int) : V := .c (.d (.int .i64 i))
abbrev bI (b : Bool) : V := .c (.d (.bo b))
abbrev mI (m : Int × Int) : V := .agg [.d (.int .i64 m.1), .d (.int .i64 m.2)]
abbrev tI (t : Tok) : V := .agg [.d (.int .i64 t.kind), .d (.str t.text), .d (.int .i64 t.n), .d (.int .i64 t.pos)]
theorem tokD_len (t : Tok) : (tokD t).length = 4 := rfl
theorem chunks_tok (l : List Tok) : chunks 4 l.length (l.flatMap tokD) = l.map tokD := chunks_flat tokD_len l
abbrev lenI (s : List UInt8) : Int := (s.length : Int)
/-! ### Remarks and blanks -/
def remB (s : List UInt8) (i : Int) : Option (Int ⊕ Int) := cond (decide (wadd i 1 < lenI s)) ((getP s i).bind fun c => cond (byteI c == 42) ((getP s (wadd i 1)).bind fun d => cond (byteI d == 47) (some (.inr i)) (some (.inl (wadd i 1)))) (some (.inl (wadd i 1)))) (some (.inr i))
def spB (c i : Int) : Option (Int ⊕ (Int × Int × Int)) := cond (c == 32) (some (.inl (wadd i 1))) (cond (c == 9) (some (.inl (wadd i 1))) (cond (c == 10) (some (.inl (wadd i 1))) (cond (c == 13) (some (.inl (wadd i 1))) (some (.inr (i, 0, 0))))))
def blankB (N : Nat) (s : List UInt8) (i : Int) : Option (Int ⊕ (Int × Int × Int)) := cond (decide (i < lenI s)) ((getP s i).bind fun c =>
  cond (byteI c == 47) (cond (decide (wadd i 1 < lenI s)) ((getP s (wadd i 1)).bind fun d => cond (byteI d == 42)
    ((loopO (remB s) N (wadd i 2)).bind fun j => cond (decide (lenI s ≤ wadd j 1)) (some (.inr (j, 21, lenI s))) (some (.inl (wadd j 2))))
    (spB (byteI c) i)) (spB (byteI c) i)) (spB (byteI c) i)) (some (.inr (i, 0, 0)))
def blankP (s : List UInt8) (i : Int) : Option (Int × Int × Int) := loopO (blankB (s.length + 2) s) (s.length + 2) i
/-! ### Texts in quotes -/
abbrev LxR := Tok × Int × Int × Int
def tok0 : Tok := ⟨0, [], 0, 0⟩
def lxE (code pos : Int) : LxR := (tok0, 0, code, pos)
def escP (s : List UInt8) (k : Int) : Option UInt8 := cond (decide (wadd k 1 < lenI s)) ((getP s (wadd k 1)).bind fun c => cond (byteI c == 110) (some 10) (cond (byteI c == 116) (some 9) (cond (byteI c == 92) (some c) (cond (byteI c == 34) (some c) (some 0))))) (some 0)
def quotedB (s : List UInt8) (x : Int × List UInt8) : Option ((Int × List UInt8) ⊕ LxR) := cond (decide (x.1 < lenI s)) ((getP s x.1).bind fun c =>
  cond (byteI c == 34) (some (.inr (⟨3, x.2, 0, 0⟩, wadd x.1 1, 0, 0))) (
  cond (decide (byteI c < 32)) (some (.inr (lxE 22 x.1))) (cond (decide (126 < byteI c)) (some (.inr (lxE 22 x.1))) (
  cond (byteI c == 92) ((escP s x.1).bind fun d => cond (byteI d == 0) (some (.inr (lxE 22 x.1))) ((appP x.2 [d]).bind fun out => some (.inl (wadd x.1 2, out))))
    ((appP x.2 [c]).bind fun out => some (.inl (wadd x.1 1, out))))))) (some (.inr (lxE 21 (lenI s))))
def quotedP (s : List UInt8) (i : Int) : Option LxR := loopO (quotedB s) (s.length + 2) (wadd i 1, [])
/-! ### Words -/
def idB (s : List UInt8) (k : Int) : Option (Int ⊕ Int) := cond (decide (k < lenI s)) ((getP s k).bind fun c => cond (letterP (byteI c)) (some (.inl (wadd k 1))) (cond (digitP (byteI c)) (some (.inl (wadd k 1))) (some (.inr k)))) (some (.inr k))
def numB (s : List UInt8) (i : Int) (x : Int × Int) : Option ((Int × Int) ⊕ (Int × Int)) := cond (decide (x.1 < lenI s)) ((getP s x.1).bind fun c => cond (digitP (byteI c))
  (cond (decide (wsub x.1 i < 10)) (some (.inl (wadd x.1 1, wadd (IntKind.i64.wrap (10 * x.2)) (IntKind.i64.wrap (IntKind.u8.wrap (byteI c - 48)))))) (some (.inl (wadd x.1 1, x.2)))) (some (.inr x))) (some (.inr x))
def twoT (s : List UInt8) (i c : Int) : Option LxR := cond (oneP c) ((subP s i (wadd i 1)).bind fun t => some (⟨4, t, 0, 0⟩, wadd i 1, 0, 0)) (some (lxE 20 i))
def wordP (s : List UInt8) (i : Int) : Option LxR := (getP s i).bind fun c =>
  cond (letterP (byteI c)) ((loopO (idB s) (s.length + 2) i).bind fun k => cond (decide (32 < wsub k i)) (some (lxE 22 i)) ((subP s i k).bind fun t => cond (nameP t) (some (⟨4, t, 0, 0⟩, k, 0, 0)) (some (⟨1, t, 0, 0⟩, k, 0, 0)))) (
  cond (digitP (byteI c)) ((loopO (numB s i) (s.length + 2) (i, 0)).bind fun x => cond (decide (10 < wsub x.1 i)) (some (lxE 22 i)) (cond (decide (2147483647 < x.2)) (some (lxE 22 i)) (
    cond (decide (x.1 < lenI s)) ((getP s x.1).bind fun c => cond (letterP (byteI c)) (some (lxE 22 i)) ((subP s i x.1).bind fun t => some (⟨2, t, x.2, 0⟩, x.1, 0, 0))) ((subP s i x.1).bind fun t => some (⟨2, t, x.2, 0⟩, x.1, 0, 0))))) (
  cond (byteI c == 34) ((quotedP s i).bind fun r => some r) (
  cond (decide (wadd i 1 < lenI s)) ((subP s i (wadd i 2)).bind fun t => cond (twoP t) (some (⟨4, t, 0, 0⟩, wadd i 2, 0, 0)) (twoT s i (byteI c))) (twoT s i (byteI c)))))
/-! ### All words -/
def tokensB (s : List UInt8) (x : Int × List Tok) : Option ((Int × List Tok) ⊕ (List Tok × Int × Int)) := (blankP s x.1).bind fun b => cond (b.2.1 == 0) (cond (decide (lenI s ≤ b.1)) (some (.inr (x.2, 0, 0))) ((wordP s b.1).bind fun w => cond (w.2.2.1 == 0) ((appP x.2 [{ w.1 with pos := b.1 }]).bind fun l => some (.inl (w.2.1, l))) (some (.inr ([], w.2.2.1, w.2.2.2))))) (some (.inr ([], b.2.1, b.2.2)))
def tokensP (s : List UInt8) : Option (List Tok × Int × Int) := cond (decide (65536 < lenI s)) (some ([], 2, 0)) (loopO (tokensB s) (s.length + 2) (0, []))

theorem W23 {s : List UInt8} {i k c a : Int} (h : blankP s i = some (k, c, a)) : callW ip 18 [sI s, iI i] [] = some (.ret [iI k, mI (c, a)], []) := by
  unfold blankP at h
  generalize s.length + 2 = N at h
  refine callW_runs (fn := Tryd.f18) (L := long18) (nt := 86) (n0 := 0) (T := tab) (rw' := []) (kA := keepA) Tryd.func18 rfl rfl rfl rfl rfl rfl rfl rfl rfl ?_
  refine Runs.seq ?_
  refine Runs.reg (by simp only [go_sem, seval]; rfl) (by simp only [long18, go_sem, seval]; rfl) ?_
  refine Runs.seq ?_
  refine Runs.block ?_
  refine Runs.loop_rel (fun mz_ en hp => ∃ (i : Int), loopO (blankB N s) mz_ i = some (k, c, a) ∧ en = [(0, sI s), (1, iI i), (5, .c (.ptr 0 0))] ∧ hp = [.box [.d (.int .i64 0), .d (.int .i64 0)]]) ?_ ⟨_, h, (by first | rfl | (simp only [go_sem, seval]; done) | (simp only [go_sem, seval]; rfl)), (by first | rfl | (simp only [go_sem, seval]; done) | (simp only [go_sem, seval]; rfl))⟩
  clear h
  rintro m1 en hp ⟨i, h, rfl, rfl⟩
  obtain _ | m1 := m1
  · cases h
  simp only [loopO, blankB, spB] at h
  obtain ⟨r1, h, g1⟩ := some_bind h
  refine Runs.seq ?_
  refine Runs.seq ?_
  refine Runs.reg (by simp only [go_sem, seval]; rfl) (by simp only [long18, go_sem, seval]; rfl) ?_
  refine Runs.cond (t := 10) rfl (fun hc2 => ?_) (fun hc2 => ?_)
  · skip
    try simp only [N3] at hc2
    try simp only [hc2, C5] at h
    refine Runs.skip ?_
    refine Runs.block ?_
    refine Runs.seq ?_
    obtain ⟨x3, h3, h⟩ := some_bind h
    obtain ⟨ge3, at3⟩ := getP_some h3
    try dsimp only at h
    refine Runs.reg (by simp only [go_sem, seval, ge3, at3, hc2]; rfl) (by simp only [long18, go_sem, seval]; rfl) ?_
    refine Runs.block ?_
    refine Runs.seq ?_
    refine Runs.row ?_
    refine Row.run 3 (by simp only [go_sem, seval, hc2]; rfl) ?_
    refine Row.guard (t := 19) (by simp only [go_sem, seval]; rfl) (fun hg4 => ?_) (fun hg4 => ?_)
    · skip
      try simp only [N3] at hg4
      try simp only [hg4, C5] at h
      refine Row.run 7 (by simp only [go_sem, seval, hc2, hg4]; rfl) ?_
      refine Row.guard (t := 26) (by simp only [go_sem, seval]; rfl) (fun hg5 => ?_) (fun hg5 => ?_)
      · skip
        try simp only [N3] at hg5
        try simp only [hg5, C5] at h
        obtain ⟨x6, h6, h⟩ := some_bind h
        obtain ⟨ge6, at6⟩ := getP_some h6
        try dsimp only at h
        refine Row.run 7 (by simp only [go_sem, seval, ge6, at6, hc2, hg4, hg5]; rfl) ?_
        refine Row.end_ (by simp only [long18, go_sem, seval]; rfl) ?_
        refine Runs.cond (t := 16) rfl (fun hc7 => ?_) (fun hc7 => ?_)
        · skip
          try simp only [N3] at hc7
          try simp only [hc7, C5] at h
          refine Runs.seq ?_
          refine Runs.reg (by simp only [go_sem, seval, hc2, hg4, hg5, hc7]; rfl) (by simp only [long18, go_sem, seval]; rfl) ?_
          refine Runs.seq ?_
          refine Runs.block ?_
          obtain ⟨j8, h, hk8⟩ := some_bind h
          refine Runs.loop_rel (fun mz_ en hp => ∃ (i : Int), loopO (remB s) mz_ i = some j8 ∧ en = [(0, sI s), (1, iI i), (5, .c (.ptr 0 0))] ∧ hp = [.box [.d (.int .i64 0), .d (.int .i64 0)]]) ?_ ⟨_, h, (by first | rfl | (simp only [go_sem, seval]; done) | (simp only [go_sem, seval]; rfl)), (by first | rfl | (simp only [go_sem, seval]; done) | (simp only [go_sem, seval]; rfl))⟩
          clear h
          rintro m8 en hp ⟨i, h, rfl, rfl⟩
          obtain _ | m8 := m8
          · cases h
          simp only [loopO, remB] at h
          obtain ⟨r8, h, g8⟩ := some_bind h
          refine Runs.seq ?_
          refine Runs.seq ?_
          refine Runs.row ?_
          refine Row.run 6 (by simp only [go_sem, seval]; rfl) ?_
          refine Row.guard (t := 40) (by simp only [go_sem, seval]; rfl) (fun hg9 => ?_) (fun hg9 => ?_)
          · skip
            try simp only [N3] at hg9
            try simp only [hg9, C5] at h
            obtain ⟨x10, h10, h⟩ := some_bind h
            obtain ⟨ge10, at10⟩ := getP_some h10
            try dsimp only at h
            refine Row.run 5 (by simp only [go_sem, seval, ge10, at10, hg9]; rfl) ?_
            refine Row.guard (t := 45) (by simp only [go_sem, seval]; rfl) (fun hg11 => ?_) (fun hg11 => ?_)
            · skip
              try simp only [N3] at hg11
              try simp only [hg11, C5] at h
              obtain ⟨x12, h12, h⟩ := some_bind h
              obtain ⟨ge12, at12⟩ := getP_some h12
              try dsimp only at h
              refine Row.run 8 (by simp only [go_sem, seval, ge10, at10, ge12, at12, hg9, hg11]; rfl) ?_
              refine Row.end_ (by simp only [long18, go_sem, seval]; rfl) ?_
              refine Runs.cond (t := 53) rfl (fun hc13 => ?_) (fun hc13 => ?_)
              · skip
                try simp only [N3] at hc13
                try simp only [hc13, C5] at h
                refine Runs.skip ?_
                refine Runs.block ?_
                refine Runs.reg (by simp only [go_sem, seval, hg9, hg11, hc13]; rfl) (by simp only [long18, go_sem, seval]; rfl) ?_
                cases h
                refine ⟨m8, Nat.lt_succ_self _, _, _, by simp only [go_sem, seval]; try rfl, _, g8, rfl, rfl⟩
              try simp only [N3] at hc13
              try simp only [hc13, C5] at h
              refine Runs.exit ?_
              cases h
              cases g8
              have h := hk8
              try dsimp only at h
              try simp only [hg9, hg11, hc13, cond_true, cond_false] at h
              refine Runs.seq ?_
              refine Runs.seq ?_
              refine Runs.reg (by simp only [go_sem, seval, hg9, hg11, hc13]; rfl) (by simp only [long18, go_sem, seval]; rfl) ?_
              refine Runs.cond (t := 60) rfl (fun hc14 => ?_) (fun hc14 => ?_)
              · skip
                try simp only [N3] at hc14
                try simp only [hc14, C5] at h
                refine Runs.seq ?_
                refine Runs.reg (by simp only [go_sem, seval, W22, hg9, hg11, hc13, hc14]; rfl) (by simp only [long18, go_sem, seval]; rfl) ?_
                refine Runs.ret ?_
                cases h
                cases g1
                try cases h
                try dsimp only [outX]
                first
                | rfl
                | (exact fk (res := [.tmp 4, .cell 5 26]) rfl rfl rfl (by simp only [fin1, go_sem, seval, hg9, hg11, hc13, hc14]; try rfl))
              try simp only [N3] at hc14
              try simp only [hc14, C5] at h
              refine Runs.skip ?_
              refine Runs.reg (by simp only [go_sem, seval, hg9, hg11, hc13, hc14]; rfl) (by simp only [long18, go_sem, seval]; rfl) ?_
              cases h
              refine ⟨m1, Nat.lt_succ_self _, _, _, by simp only [go_sem, seval]; try rfl, _, g1, rfl, rfl⟩
            · skip
              try simp only [N3] at hg11
              try simp only [hg11, C5] at h
              refine Row.run 8 (by simp only [go_sem, seval, ge10, at10, hg9, hg11]; rfl) ?_
              refine Row.end_ (by simp only [long18, go_sem, seval]; rfl) ?_
              refine Runs.cond (t := 53) rfl (fun hc15 => ?_) (fun hc15 => ?_)
              rotate_left
              · exact absurd hc15 (by first | decide | (simp only [hg9, hg11]; decide))
              try simp only [N3] at hc15
              try simp only [hc15, C5] at h
              refine Runs.skip ?_
              refine Runs.block ?_
              refine Runs.reg (by simp only [go_sem, seval, hg9, hg11]; rfl) (by simp only [long18, go_sem, seval]; rfl) ?_
              cases h
              refine ⟨m8, Nat.lt_succ_self _, _, _, by simp only [go_sem, seval]; try rfl, _, g8, rfl, rfl⟩
          · skip
            try simp only [N3] at hg9
            try simp only [hg9, C5] at h
            refine Row.run 13 (by simp only [go_sem, seval, hg9]; rfl) ?_
            refine Row.end_ (by simp only [long18, go_sem, seval]; rfl) ?_
            refine Runs.cond (t := 53) rfl (fun hc16 => ?_) (fun hc16 => ?_)
            · exact absurd hc16 (by first | decide | (simp only [hg9]; decide))
            try simp only [N3] at hc16
            try simp only [hc16, C5] at h
            refine Runs.exit ?_
            cases h
            cases g8
            have h := hk8
            try dsimp only at h
            try simp only [hg9, cond_true, cond_false] at h
            refine Runs.seq ?_
            refine Runs.seq ?_
            refine Runs.reg (by simp only [go_sem, seval, hg9]; rfl) (by simp only [long18, go_sem, seval]; rfl) ?_
            refine Runs.cond (t := 60) rfl (fun hc17 => ?_) (fun hc17 => ?_)
            · skip
              try simp only [N3] at hc17
              try simp only [hc17, C5] at h
              refine Runs.seq ?_
              refine Runs.reg (by simp only [go_sem, seval, W22, hg9, hc17]; rfl) (by simp only [long18, go_sem, seval]; rfl) ?_
              refine Runs.ret ?_
              cases h
              cases g1
              try cases h
              try dsimp only [outX]
              first
              | rfl
              | (exact fk (res := [.tmp 4, .cell 5 26]) rfl rfl rfl (by simp only [fin1, go_sem, seval, hg9, hc17]; try rfl))
            try simp only [N3] at hc17
            try simp only [hc17, C5] at h
            refine Runs.skip ?_
            refine Runs.reg (by simp only [go_sem, seval, hg9, hc17]; rfl) (by simp only [long18, go_sem, seval]; rfl) ?_
            cases h
            refine ⟨m1, Nat.lt_succ_self _, _, _, by simp only [go_sem, seval]; try rfl, _, g1, rfl, rfl⟩
        try simp only [N3] at hc7
        try simp only [hc7, C5] at h
        refine Runs.seq ?_
        refine Runs.row ?_
        refine Row.run 3 (by simp only [go_sem, seval, hc2, hg4, hg5, hc7]; rfl) ?_
        refine Row.guard (t := 70) (by simp only [go_sem, seval]; rfl) (fun hg18 => ?_) (fun hg18 => ?_)
        · skip
          try simp only [N3] at hg18
          try simp only [hg18, C5] at h
          refine Row.run 12 (by simp only [go_sem, seval, hc2, hg4, hg5, hc7, hg18]; rfl) ?_
          refine Row.end_ (by simp only [long18, go_sem, seval]; rfl) ?_
          refine Runs.cond (t := 67) rfl (fun hc19 => ?_) (fun hc19 => ?_)
          rotate_left
          · exact absurd hc19 (by first | decide | (simp only [hc2, hg4, hg5, hc7, hg18]; decide))
          try simp only [N3] at hc19
          try simp only [hc19, C5] at h
          refine Runs.reg (by simp only [go_sem, seval, hc2, hg4, hg5, hc7, hg18]; rfl) (by simp only [long18, go_sem, seval]; rfl) ?_
          cases h
          refine ⟨m1, Nat.lt_succ_self _, _, _, by simp only [go_sem, seval]; try rfl, _, g1, rfl, rfl⟩
        · skip
          try simp only [N3] at hg18
          try simp only [hg18, C5] at h
          refine Row.run 4 (by simp only [go_sem, seval, hc2, hg4, hg5, hc7, hg18]; rfl) ?_
          refine Row.guard (t := 74) (by simp only [go_sem, seval]; rfl) (fun hg20 => ?_) (fun hg20 => ?_)
          · skip
            try simp only [N3] at hg20
            try simp only [hg20, C5] at h
            refine Row.run 8 (by simp only [go_sem, seval, hc2, hg4, hg5, hc7, hg18, hg20]; rfl) ?_
            refine Row.end_ (by simp only [long18, go_sem, seval]; rfl) ?_
            refine Runs.cond (t := 67) rfl (fun hc21 => ?_) (fun hc21 => ?_)
            rotate_left
            · exact absurd hc21 (by first | decide | (simp only [hc2, hg4, hg5, hc7, hg18, hg20]; decide))
            try simp only [N3] at hc21
            try simp only [hc21, C5] at h
            refine Runs.reg (by simp only [go_sem, seval, hc2, hg4, hg5, hc7, hg18, hg20]; rfl) (by simp only [long18, go_sem, seval]; rfl) ?_
            cases h
            refine ⟨m1, Nat.lt_succ_self _, _, _, by simp only [go_sem, seval]; try rfl, _, g1, rfl, rfl⟩
          · skip
            try simp only [N3] at hg20
            try simp only [hg20, C5] at h
            refine Row.run 4 (by simp only [go_sem, seval, hc2, hg4, hg5, hc7, hg18, hg20]; rfl) ?_
            refine Row.guard (t := 78) (by simp only [go_sem, seval]; rfl) (fun hg22 => ?_) (fun hg22 => ?_)
            · skip
              try simp only [N3] at hg22
              try simp only [hg22, C5] at h
              refine Row.run 4 (by simp only [go_sem, seval, hc2, hg4, hg5, hc7, hg18, hg20, hg22]; rfl) ?_
              refine Row.end_ (by simp only [long18, go_sem, seval]; rfl) ?_
              refine Runs.cond (t := 67) rfl (fun hc23 => ?_) (fun hc23 => ?_)
              rotate_left
              · exact absurd hc23 (by first | decide | (simp only [hc2, hg4, hg5, hc7, hg18, hg20, hg22]; decide))
              try simp only [N3] at hc23
              try simp only [hc23, C5] at h
              refine Runs.reg (by simp only [go_sem, seval, hc2, hg4, hg5, hc7, hg18, hg20, hg22]; rfl) (by simp only [long18, go_sem, seval]; rfl) ?_
              cases h
              refine ⟨m1, Nat.lt_succ_self _, _, _, by simp only [go_sem, seval]; try rfl, _, g1, rfl, rfl⟩
            · skip
              try simp only [N3] at hg22
              try simp only [hg22, C5] at h
              refine Row.run 4 (by simp only [go_sem, seval, hc2, hg4, hg5, hc7, hg18, hg20, hg22]; rfl) ?_
              refine Row.end_ (by simp only [long18, go_sem, seval]; rfl) ?_
              refine Runs.cond (t := 67) rfl (fun hc24 => ?_) (fun hc24 => ?_)
              · skip
                try simp only [N3] at hc24
                try simp only [hc24, C5] at h
                refine Runs.reg (by simp only [go_sem, seval, hc2, hg4, hg5, hc7, hg18, hg20, hg22, hc24]; rfl) (by simp only [long18, go_sem, seval]; rfl) ?_
                cases h
                refine ⟨m1, Nat.lt_succ_self _, _, _, by simp only [go_sem, seval]; try rfl, _, g1, rfl, rfl⟩
              try simp only [N3] at hc24
              try simp only [hc24, C5] at h
              refine Runs.seq ?_
              refine Runs.reg (by simp only [go_sem, seval, hc2, hg4, hg5, hc7, hg18, hg20, hg22, hc24]; rfl) (by simp only [long18, go_sem, seval]; rfl) ?_
              refine Runs.ret ?_
              cases h
              cases g1
              try cases h
              try dsimp only [outX]
              first
              | rfl
              | (exact fk (res := [.tmp 4, .cell 5 26]) rfl rfl rfl (by simp only [fin1, go_sem, seval, hc2, hg4, hg5, hc7, hg18, hg20, hg22, hc24]; try rfl))
      · skip
        try simp only [N3] at hg5
        try simp only [hg5, C5] at h
        refine Row.run 7 (by simp only [go_sem, seval, hc2, hg4, hg5]; rfl) ?_
        refine Row.end_ (by simp only [long18, go_sem, seval]; rfl) ?_
        refine Runs.cond (t := 16) rfl (fun hc25 => ?_) (fun hc25 => ?_)
        · exact absurd hc25 (by first | decide | (simp only [hc2, hg4, hg5]; decide))
        try simp only [N3] at hc25
        try simp only [hc25, C5] at h
        refine Runs.seq ?_
        refine Runs.row ?_
        refine Row.run 3 (by simp only [go_sem, seval, hc2, hg4, hg5]; rfl) ?_
        refine Row.guard (t := 70) (by simp only [go_sem, seval]; rfl) (fun hg26 => ?_) (fun hg26 => ?_)
        · skip
          try simp only [N3] at hg26
          try simp only [hg26, C5] at h
          refine Row.run 12 (by simp only [go_sem, seval, hc2, hg4, hg5, hg26]; rfl) ?_
          refine Row.end_ (by simp only [long18, go_sem, seval]; rfl) ?_
          refine Runs.cond (t := 67) rfl (fun hc27 => ?_) (fun hc27 => ?_)
          rotate_left
          · exact absurd hc27 (by first | decide | (simp only [hc2, hg4, hg5, hg26]; decide))
          try simp only [N3] at hc27
          try simp only [hc27, C5] at h
          refine Runs.reg (by simp only [go_sem, seval, hc2, hg4, hg5, hg26]; rfl) (by simp only [long18, go_sem, seval]; rfl) ?_
          cases h
          refine ⟨m1, Nat.lt_succ_self _, _, _, by simp only [go_sem, seval]; try rfl, _, g1, rfl, rfl⟩
        · skip
          try simp only [N3] at hg26
          try simp only [hg26, C5] at h
          refine Row.run 4 (by simp only [go_sem, seval, hc2, hg4, hg5, hg26]; rfl) ?_
          refine Row.guard (t := 74) (by simp only [go_sem, seval]; rfl) (fun hg28 => ?_) (fun hg28 => ?_)
          · skip
            try simp only [N3] at hg28
            try simp only [hg28, C5] at h
            refine Row.run 8 (by simp only [go_sem, seval, hc2, hg4, hg5, hg26, hg28]; rfl) ?_
            refine Row.end_ (by simp only [long18, go_sem, seval]; rfl) ?_
            refine Runs.cond (t := 67) rfl (fun hc29 => ?_) (fun hc29 => ?_)
            rotate_left
            · exact absurd hc29 (by first | decide | (simp only [hc2, hg4, hg5, hg26, hg28]; decide))
            try simp only [N3] at hc29
            try simp only [hc29, C5] at h
            refine Runs.reg (by simp only [go_sem, seval, hc2, hg4, hg5, hg26, hg28]; rfl) (by simp only [long18, go_sem, seval]; rfl) ?_
            cases h
            refine ⟨m1, Nat.lt_succ_self _, _, _, by simp only [go_sem, seval]; try rfl, _, g1, rfl, rfl⟩
          · skip
            try simp only [N3] at hg28
            try simp only [hg28, C5] at h
            refine Row.run 4 (by simp only [go_sem, seval, hc2, hg4, hg5, hg26, hg28]; rfl) ?_
            refine Row.guard (t := 78) (by simp only [go_sem, seval]; rfl) (fun hg30 => ?_) (fun hg30 => ?_)
            · skip
              try simp only [N3] at hg30
              try simp only [hg30, C5] at h
              refine Row.run 4 (by simp only [go_sem, seval, hc2, hg4, hg5, hg26, hg28, hg30]; rfl) ?_
              refine Row.end_ (by simp only [long18, go_sem, seval]; rfl) ?_
              refine Runs.cond (t := 67) rfl (fun hc31 => ?_) (fun hc31 => ?_)
              rotate_left
              · exact absurd hc31 (by first | decide | (simp only [hc2, hg4, hg5, hg26, hg28, hg30]; decide))
              try simp only [N3] at hc31
              try simp only [hc31, C5] at h
              refine Runs.reg (by simp only [go_sem, seval, hc2, hg4, hg5, hg26, hg28, hg30]; rfl) (by simp only [long18, go_sem, seval]; rfl) ?_
              cases h
              refine ⟨m1, Nat.lt_succ_self _, _, _, by simp only [go_sem, seval]; try rfl, _, g1, rfl, rfl⟩
            · skip
              try simp only [N3] at hg30
              try simp only [hg30, C5] at h
              refine Row.run 4 (by simp only [go_sem, seval, hc2, hg4, hg5, hg26, hg28, hg30]; rfl) ?_
              refine Row.end_ (by simp only [long18, go_sem, seval]; rfl) ?_
              refine Runs.cond (t := 67) rfl (fun hc32 => ?_) (fun hc32 => ?_)
              · skip
                try simp only [N3] at hc32
                try simp only [hc32, C5] at h
                refine Runs.reg (by simp only [go_sem, seval, hc2, hg4, hg5, hg26, hg28, hg30, hc32]; rfl) (by simp only [long18, go_sem, seval]; rfl) ?_
                cases h
                refine ⟨m1, Nat.lt_succ_self _, _, _, by simp only [go_sem, seval]; try rfl, _, g1, rfl, rfl⟩
              try simp only [N3] at hc32
              try simp only [hc32, C5] at h
              refine Runs.seq ?_
              refine Runs.reg (by simp only [go_sem, seval, hc2, hg4, hg5, hg26, hg28, hg30, hc32]; rfl) (by simp only [long18, go_sem, seval]; rfl) ?_
              refine Runs.ret ?_
              cases h
              cases g1
              try cases h
              try dsimp only [outX]
              first
              | rfl
              | (exact fk (res := [.tmp 4, .cell 5 26]) rfl rfl rfl (by simp only [fin1, go_sem, seval, hc2, hg4, hg5, hg26, hg28, hg30, hc32]; try rfl))
    · skip
      try simp only [N3] at hg4
      try simp only [hg4, C5] at h
      refine Row.run 14 (by simp only [go_sem, seval, hc2, hg4]; rfl) ?_
      refine Row.end_ (by simp only [long18, go_sem, seval]; rfl) ?_
      refine Runs.cond (t := 16) rfl (fun hc33 => ?_) (fun hc33 => ?_)
      · exact absurd hc33 (by first | decide | (simp only [hc2, hg4]; decide))
      try simp only [N3] at hc33
      try simp only [hc33, C5] at h
      refine Runs.seq ?_
      refine Runs.row ?_
      refine Row.run 3 (by simp only [go_sem, seval, hc2, hg4]; rfl) ?_
      refine Row.guard (t := 70) (by simp only [go_sem, seval]; rfl) (fun hg34 => ?_) (fun hg34 => ?_)
      · skip
        try simp only [N3] at hg34
        try simp only [hg34, C5] at h
        refine Row.run 12 (by simp only [go_sem, seval, hc2, hg4, hg34]; rfl) ?_
        refine Row.end_ (by simp only [long18, go_sem, seval]; rfl) ?_
        refine Runs.cond (t := 67) rfl (fun hc35 => ?_) (fun hc35 => ?_)
        rotate_left
        · exact absurd hc35 (by first | decide | (simp only [hc2, hg4, hg34]; decide))
        try simp only [N3] at hc35
        try simp only [hc35, C5] at h
        refine Runs.reg (by simp only [go_sem, seval, hc2, hg4, hg34]; rfl) (by simp only [long18, go_sem, seval]; rfl) ?_
        cases h
        refine ⟨m1, Nat.lt_succ_self _, _, _, by simp only [go_sem, seval]; try rfl, _, g1, rfl, rfl⟩
      · skip
        try simp only [N3] at hg34
        try simp only [hg34, C5] at h
        refine Row.run 4 (by simp only [go_sem, seval, hc2, hg4, hg34]; rfl) ?_
        refine Row.guard (t := 74) (by simp only [go_sem, seval]; rfl) (fun hg36 => ?_) (fun hg36 => ?_)
        · skip
          try simp only [N3] at hg36
          try simp only [hg36, C5] at h
          refine Row.run 8 (by simp only [go_sem, seval, hc2, hg4, hg34, hg36]; rfl) ?_
          refine Row.end_ (by simp only [long18, go_sem, seval]; rfl) ?_
          refine Runs.cond (t := 67) rfl (fun hc37 => ?_) (fun hc37 => ?_)
          rotate_left
          · exact absurd hc37 (by first | decide | (simp only [hc2, hg4, hg34, hg36]; decide))
          try simp only [N3] at hc37
          try simp only [hc37, C5] at h
          refine Runs.reg (by simp only [go_sem, seval, hc2, hg4, hg34, hg36]; rfl) (by simp only [long18, go_sem, seval]; rfl) ?_
          cases h
          refine ⟨m1, Nat.lt_succ_self _, _, _, by simp only [go_sem, seval]; try rfl, _, g1, rfl, rfl⟩
        · skip
          try simp only [N3] at hg36
          try simp only [hg36, C5] at h
          refine Row.run 4 (by simp only [go_sem, seval, hc2, hg4, hg34, hg36]; rfl) ?_
          refine Row.guard (t := 78) (by simp only [go_sem, seval]; rfl) (fun hg38 => ?_) (fun hg38 => ?_)
          · skip
            try simp only [N3] at hg38
            try simp only [hg38, C5] at h
            refine Row.run 4 (by simp only [go_sem, seval, hc2, hg4, hg34, hg36, hg38]; rfl) ?_
            refine Row.end_ (by simp only [long18, go_sem, seval]; rfl) ?_
            refine Runs.cond (t := 67) rfl (fun hc39 => ?_) (fun hc39 => ?_)
            rotate_left
            · exact absurd hc39 (by first | decide | (simp only [hc2, hg4, hg34, hg36, hg38]; decide))
            try simp only [N3] at hc39
            try simp only [hc39, C5] at h
            refine Runs.reg (by simp only [go_sem, seval, hc2, hg4, hg34, hg36, hg38]; rfl) (by simp only [long18, go_sem, seval]; rfl) ?_
            cases h
            refine ⟨m1, Nat.lt_succ_self _, _, _, by simp only [go_sem, seval]; try rfl, _, g1, rfl, rfl⟩
          · skip
            try simp only [N3] at hg38
            try simp only [hg38, C5] at h
            refine Row.run 4 (by simp only [go_sem, seval, hc2, hg4, hg34, hg36, hg38]; rfl) ?_
            refine Row.end_ (by simp only [long18, go_sem, seval]; rfl) ?_
            refine Runs.cond (t := 67) rfl (fun hc40 => ?_) (fun hc40 => ?_)
            · skip
              try simp only [N3] at hc40
              try simp only [hc40, C5] at h
              refine Runs.reg (by simp only [go_sem, seval, hc2, hg4, hg34, hg36, hg38, hc40]; rfl) (by simp only [long18, go_sem, seval]; rfl) ?_
              cases h
              refine ⟨m1, Nat.lt_succ_self _, _, _, by simp only [go_sem, seval]; try rfl, _, g1, rfl, rfl⟩
            try simp only [N3] at hc40
            try simp only [hc40, C5] at h
            refine Runs.seq ?_
            refine Runs.reg (by simp only [go_sem, seval, hc2, hg4, hg34, hg36, hg38, hc40]; rfl) (by simp only [long18, go_sem, seval]; rfl) ?_
            refine Runs.ret ?_
            cases h
            cases g1
            try cases h
            try dsimp only [outX]
            first
            | rfl
            | (exact fk (res := [.tmp 4, .cell 5 26]) rfl rfl rfl (by simp only [fin1, go_sem, seval, hc2, hg4, hg34, hg36, hg38, hc40]; try rfl))
  try simp only [N3] at hc2
  try simp only [hc2, C5] at h
  refine Runs.exit ?_
  cases h
  cases g1
  refine Runs.seq ?_
  refine Runs.reg (by simp only [go_sem, seval, hc2]; rfl) (by simp only [long18, go_sem, seval]; rfl) ?_
  refine Runs.ret ?_
  try cases h
  try dsimp only [outX]
  first
  | rfl
  | (exact fk (res := [.tmp 4, .cell 5 26]) rfl rfl rfl (by simp only [fin1, go_sem, seval, hc2]; try rfl))
theorem W52 {s : List UInt8} {i : Int} {t : Tok} {k c a : Int} (h : quotedP s i = some (t, k, c, a)) : callW ip 44 [sI s, iI i] [] = some (.ret [tI t, iI k, mI (c, a)], []) := by
  unfold quotedP at h
  generalize s.length + 2 = N at h
  refine callW_runs (fn := Tryd.f44) (L := long44) (nt := 83) (n0 := 0) (T := tab) (rw' := []) (kA := keepA) Tryd.func44 rfl rfl rfl rfl rfl rfl rfl rfl rfl ?_
  refine Runs.seq ?_
  refine Runs.reg (by simp only [go_sem, seval, byteD_eq, rowC_snoc, bytesOf_rowC, bytes_back, tok0, lxE]; rfl) (by simp only [long44, go_sem, seval]; rfl) ?_
  refine Runs.seq ?_
  refine Runs.reg (by simp only [go_sem, seval, byteD_eq, rowC_snoc, bytesOf_rowC, bytes_back, tok0, lxE]; rfl) (by simp only [long44, go_sem, seval]; rfl) ?_
  refine Runs.seq ?_
  refine Runs.reg (by simp only [go_sem, seval, byteD_eq, rowC_snoc, bytesOf_rowC, bytes_back, tok0, lxE]; rfl) (by simp only [long44, go_sem, seval]; rfl) ?_
  refine Runs.seq ?_
  refine Runs.block ?_
  refine Runs.loop_rel (fun mz_ en hp => ∃ (x : Int × List UInt8), loopO (quotedB s) mz_ x = some (t, k, c, a) ∧ en = [(0, sI s), (4, .c (.ptr 0 0)), (6, .c (.ptr 1 0)), (7, .c (.row 2)), (8, iI x.1)] ∧ hp = [.box [.d (.int .i64 0), .d (.str []), .d (.int .i64 0), .d (.int .i64 0)], .box [.d (.int .i64 0), .d (.int .i64 0)], .row 5 1 x.2.length (rowC byteD x.2)]) ?_ ⟨_, h, (by first | rfl | (simp only [go_sem, seval, byteD_eq, rowC_snoc, bytesOf_rowC, bytes_back, tok0, lxE]; done) | (simp only [go_sem, seval, byteD_eq, rowC_snoc, bytesOf_rowC, bytes_back, tok0, lxE]; rfl)), (by first | rfl | (simp only [go_sem, seval, byteD_eq, rowC_snoc, bytesOf_rowC, bytes_back, tok0, lxE]; done) | (simp only [go_sem, seval, byteD_eq, rowC_snoc, bytesOf_rowC, bytes_back, tok0, lxE]; rfl))⟩
  clear h
  rintro m1 en hp ⟨⟨k1, out⟩, h, rfl, rfl⟩
  obtain _ | m1 := m1
  · cases h
  simp only [loopO, quotedB] at h
  obtain ⟨r1, h, g1⟩ := some_bind h
  refine Runs.seq ?_
  refine Runs.seq ?_
  refine Runs.reg (by simp only [go_sem, seval, byteD_eq, rowC_snoc, bytesOf_rowC, bytes_back, tok0, lxE]; rfl) (by simp only [long44, go_sem, seval]; rfl) ?_
  refine Runs.cond (t := 16) rfl (fun hc2 => ?_) (fun hc2 => ?_)
  · skip
    try simp only [N3] at hc2
    try simp only [hc2, C5] at h
    refine Runs.skip ?_
    refine Runs.block ?_
    refine Runs.seq ?_
    obtain ⟨x3, h3, h⟩ := some_bind h
    obtain ⟨ge3, at3⟩ := getP_some h3
    try dsimp only at h
    refine Runs.reg (by simp only [go_sem, seval, byteD_eq, rowC_snoc, bytesOf_rowC, bytes_back, tok0, lxE, ge3, at3, hc2]; rfl) (by simp only [long44, go_sem, seval]; rfl) ?_
    refine Runs.block ?_
    refine Runs.seq ?_
    refine Runs.reg (by simp only [go_sem, seval, byteD_eq, rowC_snoc, bytesOf_rowC, bytes_back, tok0, lxE, hc2]; rfl) (by simp only [long44, go_sem, seval]; rfl) ?_
    refine Runs.cond (t := 51) rfl (fun hc4 => ?_) (fun hc4 => ?_)
    · skip
      try simp only [N3] at hc4
      try simp only [hc4, C5] at h
      refine Runs.seq ?_
      refine Runs.reg (by simp only [go_sem, seval, byteD_eq, rowC_snoc, bytesOf_rowC, bytes_back, tok0, lxE, hc2, hc4]; rfl) (by simp only [long44, go_sem, seval]; rfl) ?_
      refine Runs.ret ?_
      cases h
      cases g1
      try cases h
      try dsimp only [outX]
      first
      | rfl
      | (exact fk (res := [.cell 4 79, .tmp 5, .cell 6 26]) rfl rfl rfl (by simp only [fin1, go_sem, seval, byteD_eq, rowC_snoc, bytesOf_rowC, bytes_back, tok0, lxE, hc2, hc4]; try rfl))
    try simp only [N3] at hc4
    try simp only [hc4, C5] at h
    refine Runs.seq ?_
    refine Runs.row ?_
    refine Row.run 3 (by simp only [go_sem, seval, byteD_eq, rowC_snoc, bytesOf_rowC, bytes_back, tok0, lxE, hc2, hc4]; rfl) ?_
    refine Row.guard (t := 63) (by simp only [go_sem, seval]; rfl) (fun hg5 => ?_) (fun hg5 => ?_)
    · skip
      try simp only [N3] at hg5
      try simp only [hg5, C5] at h
      refine Row.run 4 (by simp only [go_sem, seval, byteD_eq, rowC_snoc, bytesOf_rowC, bytes_back, tok0, lxE, hc2, hc4, hg5]; rfl) ?_
      refine Row.end_ (by simp only [long44, go_sem, seval]; rfl) ?_
      refine Runs.cond (t := 60) rfl (fun hc6 => ?_) (fun hc6 => ?_)
      rotate_left
      · exact absurd hc6 (by first | decide | (simp only [hc2, hc4, hg5]; decide))
      try simp only [N3] at hc6
      try simp only [hc6, C5] at h
      refine Runs.seq ?_
      refine Runs.reg (by simp only [go_sem, seval, byteD_eq, rowC_snoc, bytesOf_rowC, bytes_back, tok0, lxE, W22, hc2, hc4, hg5]; rfl) (by simp only [long44, go_sem, seval]; rfl) ?_
      refine Runs.ret ?_
      cases h
      cases g1
      try cases h
      try dsimp only [outX]
      first
      | rfl
      | (exact fk (res := [.cell 4 79, .tmp 5, .cell 6 26]) rfl rfl rfl (by simp only [fin1, go_sem, seval, byteD_eq, rowC_snoc, bytesOf_rowC, bytes_back, tok0, lxE, hc2, hc4, hg5]; try rfl))
    · skip
      try simp only [N3] at hg5
      try simp only [hg5, C5] at h
      refine Row.run 4 (by simp only [go_sem, seval, byteD_eq, rowC_snoc, bytesOf_rowC, bytes_back, tok0, lxE, hc2, hc4, hg5]; rfl) ?_
      refine Row.end_ (by simp only [long44, go_sem, seval]; rfl) ?_
      refine Runs.cond (t := 60) rfl (fun hc7 => ?_) (fun hc7 => ?_)
      · skip
        try simp only [N3] at hc7
        try simp only [hc7, C5] at h
        refine Runs.seq ?_
        refine Runs.reg (by simp only [go_sem, seval, byteD_eq, rowC_snoc, bytesOf_rowC, bytes_back, tok0, lxE, W22, hc2, hc4, hg5, hc7]; rfl) (by simp only [long44, go_sem, seval]; rfl) ?_
        refine Runs.ret ?_
        cases h
        cases g1
        try cases h
        try dsimp only [outX]
        first
        | rfl
        | (exact fk (res := [.cell 4 79, .tmp 5, .cell 6 26]) rfl rfl rfl (by simp only [fin1, go_sem, seval, byteD_eq, rowC_snoc, bytesOf_rowC, bytes_back, tok0, lxE, hc2, hc4, hg5, hc7]; try rfl))
      try simp only [N3] at hc7
      try simp only [hc7, C5] at h
      refine Runs.seq ?_
      refine Runs.reg (by simp only [go_sem, seval, byteD_eq, rowC_snoc, bytesOf_rowC, bytes_back, tok0, lxE, hc2, hc4, hg5, hc7]; rfl) (by simp only [long44, go_sem, seval]; rfl) ?_
      refine Runs.cond (t := 70) rfl (fun hc8 => ?_) (fun hc8 => ?_)
      · skip
        try simp only [N3] at hc8
        try simp only [hc8, C5] at h
        refine Runs.seq ?_
        obtain ⟨y9, h9, h⟩ := some_bind h
        obtain ⟨le9, rfl⟩ := appP_some h9
        try simp only [List.length_set, List.length_map, List.length_append, List.length_cons, List.length_nil, seval] at le9
        try dsimp only at h
        refine Runs.reg (by simp only [go_sem, seval, byteD_eq, rowC_snoc, bytesOf_rowC, bytes_back, tok0, lxE, le9, hc2, hc4, hg5, hc7, hc8]; rfl) (by simp only [long44, go_sem, seval]; rfl) ?_
        refine Runs.reg (by simp only [go_sem, seval, byteD_eq, rowC_snoc, bytesOf_rowC, bytes_back, tok0, lxE, hc2, hc4, hg5, hc7, hc8]; rfl) (by simp only [long44, go_sem, seval]; rfl) ?_
        cases h
        refine ⟨m1, Nat.lt_succ_self _, _, _, by simp only [go_sem, seval, byteD_eq, rowC_snoc, bytesOf_rowC, bytes_back, tok0, lxE]; try rfl, _, g1, rfl, rfl⟩
      try simp only [N3] at hc8
      try simp only [hc8, C5] at h
      refine Runs.seq ?_
      simp only [escP, cond_bind, bind_assoc', bind_some', lxE] at h
      refine Runs.reg (by simp only [go_sem, seval, byteD_eq, rowC_snoc, bytesOf_rowC, bytes_back, tok0, lxE, hc2, hc4, hg5, hc7, hc8]; rfl) (by simp only [long44, go_sem, seval]; rfl) ?_
      refine Runs.seq ?_
      refine Runs.seq ?_
      refine Runs.reg (by simp only [go_sem, seval, byteD_eq, rowC_snoc, bytesOf_rowC, bytes_back, tok0, lxE, hc2, hc4, hg5, hc7, hc8]; rfl) (by simp only [long44, go_sem, seval]; rfl) ?_
      refine Runs.cond (t := 24) rfl (fun hc10 => ?_) (fun hc10 => ?_)
      · skip
        try simp only [N3] at hc10
        try simp only [hc10, C5] at h
        refine Runs.seq ?_
        obtain ⟨x11, h11, h⟩ := some_bind h
        obtain ⟨ge11, at11⟩ := getP_some h11
        try dsimp only at h
        refine Runs.reg (by simp only [go_sem, seval, byteD_eq, rowC_snoc, bytesOf_rowC, bytes_back, tok0, lxE, ge11, at11, hc2, hc4, hg5, hc7, hc8, hc10]; rfl) (by simp only [long44, go_sem, seval]; rfl) ?_
        refine Runs.block ?_
        refine Runs.seq ?_
        refine Runs.reg (by simp only [go_sem, seval, byteD_eq, rowC_snoc, bytesOf_rowC, bytes_back, tok0, lxE, hc2, hc4, hg5, hc7, hc8, hc10]; rfl) (by simp only [long44, go_sem, seval]; rfl) ?_
        refine Runs.cond (t := 29) rfl (fun hc12 => ?_) (fun hc12 => ?_)
        · skip
          try simp only [N3] at hc12
          try simp only [hc12, C5] at h
          refine Runs.reg (by simp only [go_sem, seval, byteD_eq, rowC_snoc, bytesOf_rowC, bytes_back, tok0, lxE, hc2, hc4, hg5, hc7, hc8, hc10, hc12]; rfl) (by simp only [long44, go_sem, seval]; rfl) ?_
          refine Runs.seq ?_
          refine Runs.seq ?_
          refine Runs.reg (by simp only [go_sem, seval, byteD_eq, rowC_snoc, bytesOf_rowC, bytes_back, tok0, lxE, hc2, hc4, hg5, hc7, hc8, hc10, hc12]; rfl) (by simp only [long44, go_sem, seval]; rfl) ?_
          refine Runs.cond (t := 41) rfl (fun hc13 => ?_) (fun hc13 => ?_)
          · first
            | exact absurd hc13 (by decide)
            | exact absurd hc13 (by simp only [hc2, hc4, hg5, hc7, hc8, hc10, hc12]; decide)
            | skip
              try simp only [N3] at hc13
              try simp only [hc13, C5] at h
              refine Runs.seq ?_
              refine Runs.reg (by simp only [go_sem, seval, byteD_eq, rowC_snoc, bytesOf_rowC, bytes_back, tok0, lxE, W22, hc2, hc4, hg5, hc7, hc8, hc10, hc12, hc13]; rfl) (by simp only [long44, go_sem, seval]; rfl) ?_
              refine Runs.ret ?_
              cases h
              cases g1
              try cases h
              try dsimp only [outX]
              first
              | rfl
              | (exact fk (res := [.cell 4 79, .tmp 5, .cell 6 26]) rfl rfl rfl (by simp only [fin1, go_sem, seval, byteD_eq, rowC_snoc, bytesOf_rowC, bytes_back, tok0, lxE, hc2, hc4, hg5, hc7, hc8, hc10, hc12, hc13]; try rfl))
          · first
            | exact absurd hc13 (by decide)
            | exact absurd hc13 (by simp only [hc2, hc4, hg5, hc7, hc8, hc10, hc12]; decide)
            | skip
              try simp only [N3] at hc13
              try simp only [hc13, C5] at h
              refine Runs.skip ?_
              refine Runs.seq ?_
              obtain ⟨y14, h14, h⟩ := some_bind h
              obtain ⟨le14, rfl⟩ := appP_some h14
              try simp only [List.length_set, List.length_map, List.length_append, List.length_cons, List.length_nil, seval] at le14
              try dsimp only at h
              refine Runs.reg (by simp only [go_sem, seval, byteD_eq, rowC_snoc, bytesOf_rowC, bytes_back, tok0, lxE, le14, hc2, hc4, hg5, hc7, hc8, hc10, hc12, hc13]; rfl) (by simp only [long44, go_sem, seval]; rfl) ?_
              refine Runs.reg (by simp only [go_sem, seval, byteD_eq, rowC_snoc, bytesOf_rowC, bytes_back, tok0, lxE, hc2, hc4, hg5, hc7, hc8, hc10, hc12, hc13]; rfl) (by simp only [long44, go_sem, seval]; rfl) ?_
              cases h
              refine ⟨m1, Nat.lt_succ_self _, _, _, by simp only [go_sem, seval, byteD_eq, rowC_snoc, bytesOf_rowC, bytes_back, tok0, lxE]; try rfl, _, g1, rfl, rfl⟩
        try simp only [N3] at hc12
        try simp only [hc12, C5] at h
        refine Runs.seq ?_
        refine Runs.reg (by simp only [go_sem, seval, byteD_eq, rowC_snoc, bytesOf_rowC, bytes_back, tok0, lxE, hc2, hc4, hg5, hc7, hc8, hc10, hc12]; rfl) (by simp only [long44, go_sem, seval]; rfl) ?_
        refine Runs.cond (t := 31) rfl (fun hc15 => ?_) (fun hc15 => ?_)
        · skip
          try simp only [N3] at hc15
          try simp only [hc15, C5] at h
          refine Runs.reg (by simp only [go_sem, seval, byteD_eq, rowC_snoc, bytesOf_rowC, bytes_back, tok0, lxE, hc2, hc4, hg5, hc7, hc8, hc10, hc12, hc15]; rfl) (by simp only [long44, go_sem, seval]; rfl) ?_
          refine Runs.seq ?_
          refine Runs.seq ?_
          refine Runs.reg (by simp only [go_sem, seval, byteD_eq, rowC_snoc, bytesOf_rowC, bytes_back, tok0, lxE, hc2, hc4, hg5, hc7, hc8, hc10, hc12, hc15]; rfl) (by simp only [long44, go_sem, seval]; rfl) ?_
          refine Runs.cond (t := 41) rfl (fun hc16 => ?_) (fun hc16 => ?_)
          · first
            | exact absurd hc16 (by decide)
            | exact absurd hc16 (by simp only [hc2, hc4, hg5, hc7, hc8, hc10, hc12, hc15]; decide)
            | skip
              try simp only [N3] at hc16
              try simp only [hc16, C5] at h
              refine Runs.seq ?_
              refine Runs.reg (by simp only [go_sem, seval, byteD_eq, rowC_snoc, bytesOf_rowC, bytes_back, tok0, lxE, W22, hc4, hg5, hc7, hc8, hc10, hc12, hc15, hc16]; rfl) (by simp only [long44, go_sem, seval]; rfl) ?_
              refine Runs.ret ?_
              cases h
              cases g1
              try cases h
              try dsimp only [outX]
              first
              | rfl
              | (exact fk (res := [.cell 4 79, .tmp 5, .cell 6 26]) rfl rfl rfl (by simp only [fin1, go_sem, seval, byteD_eq, rowC_snoc, bytesOf_rowC, bytes_back, tok0, lxE, hc4, hg5, hc7, hc8, hc10, hc12, hc15, hc16]; try rfl))
          · first
            | exact absurd hc16 (by decide)
            | exact absurd hc16 (by simp only [hc2, hc4, hg5, hc7, hc8, hc10, hc12, hc15]; decide)
            | skip
              try simp only [N3] at hc16
              try simp only [hc16, C5] at h
              refine Runs.skip ?_
              refine Runs.seq ?_
              obtain ⟨y17, h17, h⟩ := some_bind h
              obtain ⟨le17, rfl⟩ := appP_some h17
              try simp only [List.length_set, List.length_map, List.length_append, List.length_cons, List.length_nil, seval] at le17
              try dsimp only at h
              refine Runs.reg (by simp only [go_sem, seval, byteD_eq, rowC_snoc, bytesOf_rowC, bytes_back, tok0, lxE, le17, hc4, hg5, hc7, hc8, hc10, hc12, hc15, hc16]; rfl) (by simp only [long44, go_sem, seval]; rfl) ?_
              refine Runs.reg (by simp only [go_sem, seval, byteD_eq, rowC_snoc, bytesOf_rowC, bytes_back, tok0, lxE, hc4, hg5, hc7, hc8, hc10, hc12, hc15, hc16]; rfl) (by simp only [long44, go_sem, seval]; rfl) ?_
              cases h
              refine ⟨m1, Nat.lt_succ_self _, _, _, by simp only [go_sem, seval, byteD_eq, rowC_snoc, bytesOf_rowC, bytes_back, tok0, lxE]; try rfl, _, g1, rfl, rfl⟩
        try simp only [N3] at hc15
        try simp only [hc15, C5] at h
        refine Runs.seq ?_
        refine Runs.seq ?_
        refine Runs.reg (by simp only [go_sem, seval, byteD_eq, rowC_snoc, bytesOf_rowC, bytes_back, tok0, lxE, hc2, hc4, hg5, hc7, hc8, hc10, hc12, hc15]; rfl) (by simp only [long44, go_sem, seval]; rfl) ?_
        refine Runs.cond (t := 33) rfl (fun hc18 => ?_) (fun hc18 => ?_)
        · skip
          try simp only [N3] at hc18
          try simp only [hc18, C5] at h
          refine Runs.skip ?_
          refine Runs.cond (t := 33) rfl (fun hc19 => ?_) (fun hc19 => ?_)
          rotate_left
          · exact absurd hc19 (by first | decide | (simp only [hc2, hc4, hg5, hc7, hc8, hc10, hc12, hc15, hc18]; decide))
          try simp only [N3] at hc19
          try simp only [hc19, C5] at h
          refine Runs.reg (by simp only [go_sem, seval, byteD_eq, rowC_snoc, bytesOf_rowC, bytes_back, tok0, lxE, ge11, at11, hc4, hg5, hc7, hc8, hc10, hc12, hc15, hc18]; rfl) (by simp only [long44, go_sem, seval]; rfl) ?_
          refine Runs.seq ?_
          refine Runs.seq ?_
          refine Runs.reg (by simp only [go_sem, seval, byteD_eq, rowC_snoc, bytesOf_rowC, bytes_back, tok0, lxE, hc4, hg5, hc7, hc8, hc10, hc12, hc15, hc18]; rfl) (by simp only [long44, go_sem, seval]; rfl) ?_
          refine Runs.cond (t := 41) rfl (fun hc20 => ?_) (fun hc20 => ?_)
          · first
            | exact absurd hc20 (by decide)
            | exact absurd hc20 (by simp only [hc2, hc4, hg5, hc7, hc8, hc10, hc12, hc15, hc18]; decide)
            | skip
              try simp only [N3] at hc20
              try simp only [hc20, C5] at h
              refine Runs.seq ?_
              refine Runs.reg (by simp only [go_sem, seval, byteD_eq, rowC_snoc, bytesOf_rowC, bytes_back, tok0, lxE, W22, hg5, hc7, hc8, hc10, hc12, hc15, hc18, hc20]; rfl) (by simp only [long44, go_sem, seval]; rfl) ?_
              refine Runs.ret ?_
              cases h
              cases g1
              try cases h
              try dsimp only [outX]
              first
              | rfl
              | (exact fk (res := [.cell 4 79, .tmp 5, .cell 6 26]) rfl rfl rfl (by simp only [fin1, go_sem, seval, byteD_eq, rowC_snoc, bytesOf_rowC, bytes_back, tok0, lxE, hg5, hc7, hc8, hc10, hc12, hc15, hc18, hc20]; try rfl))
          · first
            | exact absurd hc20 (by decide)
            | exact absurd hc20 (by simp only [hc2, hc4, hg5, hc7, hc8, hc10, hc12, hc15, hc18]; decide)
            | skip
              try simp only [N3] at hc20
              try simp only [hc20, C5] at h
              refine Runs.skip ?_
              refine Runs.seq ?_
              obtain ⟨y21, h21, h⟩ := some_bind h
              obtain ⟨le21, rfl⟩ := appP_some h21
              try simp only [List.length_set, List.length_map, List.length_append, List.length_cons, List.length_nil, seval] at le21
              try dsimp only at h
              refine Runs.reg (by simp only [go_sem, seval, byteD_eq, rowC_snoc, bytesOf_rowC, bytes_back, tok0, lxE, le21, hg5, hc7, hc8, hc10, hc12, hc15, hc18, hc20]; rfl) (by simp only [long44, go_sem, seval]; rfl) ?_
              refine Runs.reg (by simp only [go_sem, seval, byteD_eq, rowC_snoc, bytesOf_rowC, bytes_back, tok0, lxE, hg5, hc7, hc8, hc10, hc12, hc15, hc18, hc20]; rfl) (by simp only [long44, go_sem, seval]; rfl) ?_
              cases h
              refine ⟨m1, Nat.lt_succ_self _, _, _, by simp only [go_sem, seval, byteD_eq, rowC_snoc, bytesOf_rowC, bytes_back, tok0, lxE]; try rfl, _, g1, rfl, rfl⟩
        try simp only [N3] at hc18
        try simp only [hc18, C5] at h
        refine Runs.reg (by simp only [go_sem, seval, byteD_eq, rowC_snoc, bytesOf_rowC, bytes_back, tok0, lxE, hc4, hg5, hc7, hc8, hc10, hc12, hc15, hc18]; rfl) (by simp only [long44, go_sem, seval]; rfl) ?_
        refine Runs.cond (t := 33) rfl (fun hc22 => ?_) (fun hc22 => ?_)
        · skip
          try simp only [N3] at hc22
          try simp only [hc22, C5] at h
          refine Runs.reg (by simp only [go_sem, seval, byteD_eq, rowC_snoc, bytesOf_rowC, bytes_back, tok0, lxE, ge11, at11, hg5, hc7, hc8, hc10, hc12, hc15, hc18, hc22]; rfl) (by simp only [long44, go_sem, seval]; rfl) ?_
          refine Runs.seq ?_
          refine Runs.seq ?_
          refine Runs.reg (by simp only [go_sem, seval, byteD_eq, rowC_snoc, bytesOf_rowC, bytes_back, tok0, lxE, hg5, hc7, hc8, hc10, hc12, hc15, hc18, hc22]; rfl) (by simp only [long44, go_sem, seval]; rfl) ?_
          refine Runs.cond (t := 41) rfl (fun hc23 => ?_) (fun hc23 => ?_)
          · first
            | exact absurd hc23 (by decide)
            | exact absurd hc23 (by simp only [hc2, hc4, hg5, hc7, hc8, hc10, hc12, hc15, hc18, hc22]; decide)
            | skip
              try simp only [N3] at hc23
              try simp only [hc23, C5] at h
              refine Runs.seq ?_
              refine Runs.reg (by simp only [go_sem, seval, byteD_eq, rowC_snoc, bytesOf_rowC, bytes_back, tok0, lxE, W22, hc7, hc8, hc10, hc12, hc15, hc18, hc22, hc23]; rfl) (by simp only [long44, go_sem, seval]; rfl) ?_
              refine Runs.ret ?_
              cases h
              cases g1
              try cases h
              try dsimp only [outX]
              first
              | rfl
              | (exact fk (res := [.cell 4 79, .tmp 5, .cell 6 26]) rfl rfl rfl (by simp only [fin1, go_sem, seval, byteD_eq, rowC_snoc, bytesOf_rowC, bytes_back, tok0, lxE, hc7, hc8, hc10, hc12, hc15, hc18, hc22, hc23]; try rfl))
          · first
            | exact absurd hc23 (by decide)
            | exact absurd hc23 (by simp only [hc2, hc4, hg5, hc7, hc8, hc10, hc12, hc15, hc18, hc22]; decide)
            | skip
              try simp only [N3] at hc23
              try simp only [hc23, C5] at h
              refine Runs.skip ?_
              refine Runs.seq ?_
              obtain ⟨y24, h24, h⟩ := some_bind h
              obtain ⟨le24, rfl⟩ := appP_some h24
              try simp only [List.length_set, List.length_map, List.length_append, List.length_cons, List.length_nil, seval] at le24
              try dsimp only at h
              refine Runs.reg (by simp only [go_sem, seval, byteD_eq, rowC_snoc, bytesOf_rowC, bytes_back, tok0, lxE, le24, hc7, hc8, hc10, hc12, hc15, hc18, hc22, hc23]; rfl) (by simp only [long44, go_sem, seval]; rfl) ?_
              refine Runs.reg (by simp only [go_sem, seval, byteD_eq, rowC_snoc, bytesOf_rowC, bytes_back, tok0, lxE, hc7, hc8, hc10, hc12, hc15, hc18, hc22, hc23]; rfl) (by simp only [long44, go_sem, seval]; rfl) ?_
              cases h
              refine ⟨m1, Nat.lt_succ_self _, _, _, by simp only [go_sem, seval, byteD_eq, rowC_snoc, bytesOf_rowC, bytes_back, tok0, lxE]; try rfl, _, g1, rfl, rfl⟩
        try simp only [N3] at hc22
        try simp only [hc22, C5] at h
        refine Runs.skip ?_
        refine Runs.seq ?_
        refine Runs.seq ?_
        refine Runs.reg (by simp only [go_sem, seval, byteD_eq, rowC_snoc, bytesOf_rowC, bytes_back, tok0, lxE, hg5, hc7, hc8, hc10, hc12, hc15, hc18, hc22]; rfl) (by simp only [long44, go_sem, seval]; rfl) ?_
        refine Runs.cond (t := 41) rfl (fun hc25 => ?_) (fun hc25 => ?_)
        · first
          | exact absurd hc25 (by decide)
          | exact absurd hc25 (by simp only [hc2, hc4, hg5, hc7, hc8, hc10, hc12, hc15, hc18, hc22]; decide)
          | skip
            try simp only [N3] at hc25
            try simp only [hc25, C5] at h
            refine Runs.seq ?_
            refine Runs.reg (by simp only [go_sem, seval, byteD_eq, rowC_snoc, bytesOf_rowC, bytes_back, tok0, lxE, W22, hc7, hc8, hc10, hc12, hc15, hc18, hc22, hc25]; rfl) (by simp only [long44, go_sem, seval]; rfl) ?_
            refine Runs.ret ?_
            cases h
            cases g1
            try cases h
            try dsimp only [outX]
            first
            | rfl
            | (exact fk (res := [.cell 4 79, .tmp 5, .cell 6 26]) rfl rfl rfl (by simp only [fin1, go_sem, seval, byteD_eq, rowC_snoc, bytesOf_rowC, bytes_back, tok0, lxE, hc7, hc8, hc10, hc12, hc15, hc18, hc22, hc25]; try rfl))
        · first
          | exact absurd hc25 (by decide)
          | exact absurd hc25 (by simp only [hc2, hc4, hg5, hc7, hc8, hc10, hc12, hc15, hc18, hc22]; decide)
          | skip
            try simp only [N3] at hc25
            try simp only [hc25, C5] at h
            refine Runs.skip ?_
            refine Runs.seq ?_
            obtain ⟨y26, h26, h⟩ := some_bind h
            obtain ⟨le26, rfl⟩ := appP_some h26
            try simp only [List.length_set, List.length_map, List.length_append, List.length_cons, List.length_nil, seval] at le26
            try dsimp only at h
            refine Runs.reg (by simp only [go_sem, seval, byteD_eq, rowC_snoc, bytesOf_rowC, bytes_back, tok0, lxE, le26, hc7, hc8, hc10, hc12, hc15, hc18, hc22, hc25]; rfl) (by simp only [long44, go_sem, seval]; rfl) ?_
            refine Runs.reg (by simp only [go_sem, seval, byteD_eq, rowC_snoc, bytesOf_rowC, bytes_back, tok0, lxE, hc7, hc8, hc10, hc12, hc15, hc18, hc22, hc25]; rfl) (by simp only [long44, go_sem, seval]; rfl) ?_
            cases h
            refine ⟨m1, Nat.lt_succ_self _, _, _, by simp only [go_sem, seval, byteD_eq, rowC_snoc, bytesOf_rowC, bytes_back, tok0, lxE]; try rfl, _, g1, rfl, rfl⟩
      try simp only [N3] at hc10
      try simp only [hc10, C5] at h
      refine Runs.skip ?_
      refine Runs.seq ?_
      refine Runs.seq ?_
      refine Runs.reg (by simp only [go_sem, seval, byteD_eq, rowC_snoc, bytesOf_rowC, bytes_back, tok0, lxE, hc2, hc4, hg5, hc7, hc8, hc10]; rfl) (by simp only [long44, go_sem, seval]; rfl) ?_
      refine Runs.cond (t := 41) rfl (fun hc27 => ?_) (fun hc27 => ?_)
      · first
        | exact absurd hc27 (by decide)
        | exact absurd hc27 (by simp only [hc2, hc4, hg5, hc7, hc8, hc10]; decide)
        | skip
          try simp only [N3] at hc27
          try simp only [hc27, C5] at h
          refine Runs.seq ?_
          refine Runs.reg (by simp only [go_sem, seval, byteD_eq, rowC_snoc, bytesOf_rowC, bytes_back, tok0, lxE, W22, hc2, hc4, hg5, hc7, hc8, hc10, hc27]; rfl) (by simp only [long44, go_sem, seval]; rfl) ?_
          refine Runs.ret ?_
          cases h
          cases g1
          try cases h
          try dsimp only [outX]
          first
          | rfl
          | (exact fk (res := [.cell 4 79, .tmp 5, .cell 6 26]) rfl rfl rfl (by simp only [fin1, go_sem, seval, byteD_eq, rowC_snoc, bytesOf_rowC, bytes_back, tok0, lxE, hc2, hc4, hg5, hc7, hc8, hc10, hc27]; try rfl))
      · first
        | exact absurd hc27 (by decide)
        | exact absurd hc27 (by simp only [hc2, hc4, hg5, hc7, hc8, hc10]; decide)
        | skip
          try simp only [N3] at hc27
          try simp only [hc27, C5] at h
          refine Runs.skip ?_
          refine Runs.seq ?_
          obtain ⟨y28, h28, h⟩ := some_bind h
          obtain ⟨le28, rfl⟩ := appP_some h28
          try simp only [List.length_set, List.length_map, List.length_append, List.length_cons, List.length_nil, seval] at le28
          try dsimp only at h
          refine Runs.reg (by simp only [go_sem, seval, byteD_eq, rowC_snoc, bytesOf_rowC, bytes_back, tok0, lxE, le28, hc2, hc4, hg5, hc7, hc8, hc10, hc27]; rfl) (by simp only [long44, go_sem, seval]; rfl) ?_
          refine Runs.reg (by simp only [go_sem, seval, byteD_eq, rowC_snoc, bytesOf_rowC, bytes_back, tok0, lxE, hc2, hc4, hg5, hc7, hc8, hc10, hc27]; rfl) (by simp only [long44, go_sem, seval]; rfl) ?_
          cases h
          refine ⟨m1, Nat.lt_succ_self _, _, _, by simp only [go_sem, seval, byteD_eq, rowC_snoc, bytesOf_rowC, bytes_back, tok0, lxE]; try rfl, _, g1, rfl, rfl⟩
  try simp only [N3] at hc2
  try simp only [hc2, C5] at h
  refine Runs.exit ?_
  cases h
  cases g1
  refine Runs.seq ?_
  refine Runs.reg (by simp only [go_sem, seval, byteD_eq, rowC_snoc, bytesOf_rowC, bytes_back, tok0, lxE, W22, hc2]; rfl) (by simp only [long44, go_sem, seval]; rfl) ?_
  refine Runs.ret ?_
  try cases h
  try dsimp only [outX]
  first
  | rfl
  | (exact fk (res := [.cell 4 79, .tmp 5, .cell 6 26]) rfl rfl rfl (by simp only [fin1, go_sem, seval, byteD_eq, rowC_snoc, bytesOf_rowC, bytes_back, tok0, lxE, hc2]; try rfl))
end Go.Proofs.YtmkacifjegnehaaDoor
