/-
  THE LEXER OVER WHAT IS LEFT OF THE TEXT: the same words, without places to count from the start; it always answers.
-/
import Derived.Test.YtmkacifjegnehaaDoorM3
namespace Go.Proofs.YtmkacifjegnehaaDoor
open Go Go.Proofs Go.Proofs.YtmkacifjegnehaaDoor.Ab
set_option linter.unusedSimpArgs false
set_option linter.unusedVariables false
def remS : List UInt8 → Nat → Option (List UInt8 × Nat)
  | a :: b :: r, n => cond (byteI a == 42) (cond (byteI b == 47) (some (r, n + 2)) (remS (b :: r) (n + 1))) (remS (b :: r) (n + 1))
  | _, _ => none
def spS (c : Int) : Bool := cond (c == 32) true (cond (c == 9) true (cond (c == 10) true (c == 13)))
def blankS : Nat → List UInt8 → Nat → Option (List UInt8 × Nat)
  | 0, _, _ => none
  | _ + 1, [], n => some ([], n)
  | f + 1, c :: r, n => cond (byteI c == 47) (match r with
      | [] => some ([c], n)
      | d :: r' => cond (byteI d == 42) (match remS r' (n + 2) with
        | some (r2, k) => blankS f r2 k
        | none => none) (some (c :: d :: r', n))) (cond (spS (byteI c)) (blankS f r (n + 1)) (some (c :: r, n)))
def idc (c : UInt8) : Bool := letterP (byteI c) || digitP (byteI c)
def dgc (c : UInt8) : Bool := digitP (byteI c)
def numV (t : List UInt8) : Int := t.foldl (fun v d => 10 * v + (byteI d - 48)) 0
def escS (d : UInt8) : UInt8 := cond (byteI d == 110) 10 (cond (byteI d == 116) 9 (cond (byteI d == 92) d (cond (byteI d == 34) d 0)))
def quotedS (len : Int) : Nat → List UInt8 → Nat → List UInt8 → LxR
  | 0, _, _, _ => lxE 0 0
  | _ + 1, [], _, _ => lxE 21 len
  | f + 1, c :: r, n, out => cond (byteI c == 34) (⟨3, out, 0, 0⟩, ((n + 1 : Nat) : Int), 0, 0) (cond (decide (byteI c < 32)) (lxE 22 n) (cond (decide (126 < byteI c)) (lxE 22 n) (cond (byteI c == 92) (match r with
    | [] => lxE 22 n
    | d :: r' => cond (byteI (escS d) == 0) (lxE 22 n) (quotedS len f r' (n + 2) (out ++ [escS d]))) (quotedS len f r (n + 1) (out ++ [c])))))
def oneS (c : UInt8) (n : Nat) : LxR := cond (oneP (byteI c)) (⟨4, [c], 0, 0⟩, ((n + 1 : Nat) : Int), 0, 0) (lxE 20 n)
def idS (t : List UInt8) (n : Nat) : LxR := cond (decide (32 < t.length)) (lxE 22 n) (cond (nameP t) (⟨4, t, 0, 0⟩, ((n + t.length : Nat) : Int), 0, 0) (⟨1, t, 0, 0⟩, ((n + t.length : Nat) : Int), 0, 0))
def numS (t r : List UInt8) (n : Nat) : LxR := cond (decide (10 < t.length)) (lxE 22 n) (cond (decide (2147483647 < numV t)) (lxE 22 n) (match r with
  | d :: _ => cond (letterP (byteI d)) (lxE 22 n) (⟨2, t, numV t, 0⟩, ((n + t.length : Nat) : Int), 0, 0)
  | [] => (⟨2, t, numV t, 0⟩, ((n + t.length : Nat) : Int), 0, 0)))
def wordS (len : Int) : List UInt8 → Nat → LxR
  | [], _ => lxE 0 0
  | c :: r, n => cond (letterP (byteI c)) (idS ((c :: r).takeWhile idc) n) (cond (digitP (byteI c)) (numS ((c :: r).takeWhile dgc) ((c :: r).dropWhile dgc) n) (cond (byteI c == 34) (quotedS len (r.length + 1) r (n + 1) []) (match r with
    | d :: _ => cond (twoP [c, d]) (⟨4, [c, d], 0, 0⟩, ((n + 2 : Nat) : Int), 0, 0) (oneS c n)
    | [] => oneS c n)))
def tokS (len : Int) : Nat → List UInt8 → Nat → List Tok → List Tok × Int × Int
  | 0, _, _, _ => ([], 0, 0)
  | f + 1, l, n, acc => match blankS (f + 1) l n with
    | none => ([], 21, len)
    | some ([], _) => (acc, 0, 0)
    | some (c :: r, k) => cond ((wordS len (c :: r) k).2.2.1 == 0) (tokS len f ((c :: r).drop ((wordS len (c :: r) k).2.1.toNat - k)) (wordS len (c :: r) k).2.1.toNat (acc ++ [{ (wordS len (c :: r) k).1 with pos := k }])) ([], (wordS len (c :: r) k).2.2.1, (wordS len (c :: r) k).2.2.2)
def tokensS (s : List UInt8) : List Tok × Int × Int := cond (decide (65536 < lenI s)) ([], 2, 0) (tokS (lenI s) (s.length + 1) s 0 [])
/-! ### It is the lexer -/
theorem getN {α : Type} (l : List α) (i : Nat) : getP l (i : Int) = l[i]? := by simp [getP]
theorem waddN {i : Nat} (k : Nat) (h : i ≤ 1000000) (hk : k ≤ 10) : wadd (i : Int) (k : Int) = ((i + k : Nat) : Int) := by
  unfold wadd; rw [IntWalk.i64_in _ (by omega)]; omega
theorem wadd1 {i : Nat} (h : i ≤ 1000000) : wadd (i : Int) 1 = ((i + 1 : Nat) : Int) := waddN 1 h (by omega)
theorem wadd2 {i : Nat} (h : i ≤ 1000000) : wadd (i : Int) 2 = ((i + 2 : Nat) : Int) := waddN 2 h (by omega)
theorem wsubN {i j : Nat} (h : i ≤ j) (hj : j ≤ 1000000) : wsub (j : Int) (i : Int) = ((j - i : Nat) : Int) := by
  unfold wsub; rw [IntWalk.i64_in _ (by omega)]; omega
theorem ltN {i j : Nat} : decide ((i : Int) < (j : Int)) = decide (i < j) := by simp
theorem leN {i j : Nat} : decide ((i : Int) ≤ (j : Int)) = decide (i ≤ j) := by simp
theorem dropN {α : Type} {s : List α} {i : Nat} {c : α} {r : List α} (h : s.drop i = c :: r) : i < s.length ∧ s[i]? = some c ∧ s.drop (i + 1) = r := by
  obtain ⟨h1, h2, h3⟩ := drop_cons h; exact ⟨h2, h1, h3⟩
theorem loop_inl {σ ρ : Type} {f : σ → Option (σ ⊕ ρ)} {m : Nat} {s s' : σ} (h : f s = some (.inl s')) : loopO f (m + 1) s = loopO f m s' := by simp only [loopO, h]; rfl
theorem loop_inr {σ ρ : Type} {f : σ → Option (σ ⊕ ρ)} {m : Nat} {s : σ} {x : ρ} (h : f s = some (.inr x)) : loopO f (m + 1) s = some x := by simp only [loopO, h]; rfl
section
variable {s : List UInt8} (hs : s.length ≤ 65536)
include hs
theorem rem_eq : ∀ (m i : Nat), i ≤ s.length → s.length - i < m → ∃ j : Nat, loopO (remB s) m (i : Int) = some (j : Int) ∧ i ≤ j ∧ j ≤ s.length ∧ (match remS (s.drop i) i with
    | some (r, k) => k = j + 2 ∧ k ≤ s.length ∧ r = s.drop k
    | none => s.length ≤ j + 1) := by
  intro m
  induction m with
  | zero => intro i _ h; omega
  | succ m ih =>
    intro i hi hm
    have hw := wadd1 (i := i) (by omega)
    cases hd : s.drop i with
    | nil =>
      have hl : s.length ≤ i := drop_nil hd
      refine ⟨i, loop_inr ?_, Nat.le_refl _, hi, ?_⟩
      · simp only [remB, hw, lenI, ltN, decide_eq_false (show ¬ i + 1 < s.length by omega), cond_false]
      · simp only [remS]; omega
    | cons a r =>
      obtain ⟨q1, q2, q3⟩ := dropN hd
      cases r with
      | nil =>
        have hl : s.length ≤ i + 1 := drop_nil q3
        refine ⟨i, loop_inr ?_, Nat.le_refl _, hi, ?_⟩
        · simp only [remB, hw, lenI, ltN, decide_eq_false (show ¬ i + 1 < s.length by omega), cond_false]
        · simp only [remS]; omega
      | cons b r =>
        obtain ⟨p1, p2, p3⟩ := dropN q3
        have hg : remB s (i : Int) = cond (byteI a == 42) (cond (byteI b == 47) (some (.inr (i : Int))) (some (.inl ((i + 1 : Nat) : Int)))) (some (.inl ((i + 1 : Nat) : Int))) := by
          simp only [remB, hw, lenI, ltN, decide_eq_true p1, cond_true, getN, q2, p2, Option.bind_some]
        have hrec : remS (a :: b :: r) i = cond (byteI a == 42) (cond (byteI b == 47) (some (r, i + 2)) (remS (b :: r) (i + 1))) (remS (b :: r) (i + 1)) := by rw [remS]
        have next : remB s (i : Int) = some (.inl ((i + 1 : Nat) : Int)) → remS (a :: b :: r) i = remS (b :: r) (i + 1) → ∃ j : Nat, loopO (remB s) (m + 1) (i : Int) = some (j : Int) ∧ i ≤ j ∧ j ≤ s.length ∧ (match remS (a :: b :: r) i with
            | some (r, k) => k = j + 2 ∧ k ≤ s.length ∧ r = s.drop k
            | none => s.length ≤ j + 1) := by
          intro h1 h2
          obtain ⟨j, g1, g2, g3, g4⟩ := ih (i + 1) (by omega) (by omega)
          rw [q3] at g4
          rw [h2]
          exact ⟨j, by rw [loop_inl h1]; exact g1, by omega, g3, g4⟩
        cases ha : (byteI a == 42) with
        | false => rw [ha, cond_false] at hg hrec; exact next hg hrec
        | true =>
          cases hb : (byteI b == 47) with
          | false => rw [ha, hb, cond_true, cond_false] at hg hrec; exact next hg hrec
          | true =>
            rw [ha, hb, cond_true, cond_true] at hg hrec
            refine ⟨i, loop_inr hg, Nat.le_refl _, hi, ?_⟩
            rw [hrec]
            exact ⟨rfl, by omega, p3.symm⟩
theorem blank_eq : ∀ (m f i : Nat), i ≤ s.length → s.length - i < m → s.length - i < f → (match blankS f (s.drop i) i with
    | some (r, k) => loopO (blankB (s.length + 2) s) m (i : Int) = some ((k : Int), 0, 0) ∧ i ≤ k ∧ k ≤ s.length ∧ r = s.drop k
    | none => ∃ j : Int, loopO (blankB (s.length + 2) s) m (i : Int) = some (j, 21, lenI s)) := by
  intro m
  induction m with
  | zero => intro f i _ h; omega
  | succ m ih =>
    intro f i hi hm hf
    obtain ⟨f, rfl⟩ : ∃ f', f = f' + 1 := ⟨f - 1, by omega⟩
    have hw := wadd1 (i := i) (by omega)
    have hw2 := wadd2 (i := i) (by omega)
    cases hd : s.drop i with
    | nil =>
      have hl : s.length ≤ i := drop_nil hd
      rw [blankS]
      refine ⟨loop_inr ?_, Nat.le_refl _, hi, hd.symm⟩
      simp only [blankB, lenI, ltN, decide_eq_false (show ¬ i < s.length by omega), cond_false]
    | cons c r =>
      obtain ⟨q1, q2, q3⟩ := dropN hd
      have hg : blankB (s.length + 2) s (i : Int) = cond (byteI c == 47) (cond (decide (i + 1 < s.length)) ((s[i + 1]?).bind fun d => cond (byteI d == 42) ((loopO (remB s) (s.length + 2) ((i + 2 : Nat) : Int)).bind fun j => cond (decide (lenI s ≤ wadd j 1)) (some (.inr (j, 21, lenI s))) (some (.inl (wadd j 2)))) (spB (byteI c) i)) (spB (byteI c) i)) (spB (byteI c) i) := by
        simp only [blankB, lenI, ltN, decide_eq_true q1, cond_true, getN, q2, Option.bind_some, hw, hw2]
      have hsp : spB (byteI c) (i : Int) = cond (spS (byteI c)) (some (.inl ((i + 1 : Nat) : Int))) (some (.inr ((i : Int), 0, 0))) := by
        simp only [spB, spS, hw]
        cases (byteI c == 32) <;> cases (byteI c == 9) <;> cases (byteI c == 10) <;> cases (byteI c == 13) <;> rfl
      have stop : blankB (s.length + 2) s (i : Int) = some (.inr ((i : Int), 0, 0)) → blankS (f + 1) (c :: r) i = some (c :: r, i) → (match blankS (f + 1) (c :: r) i with
          | some (r, k) => loopO (blankB (s.length + 2) s) (m + 1) (i : Int) = some ((k : Int), 0, 0) ∧ i ≤ k ∧ k ≤ s.length ∧ r = s.drop k
          | none => ∃ j : Int, loopO (blankB (s.length + 2) s) (m + 1) (i : Int) = some (j, 21, lenI s)) := by
        intro h1 h2
        rw [h2]
        exact ⟨loop_inr h1, Nat.le_refl _, hi, hd.symm⟩
      cases hc : (byteI c == 47) with
      | false =>
        rw [hc, cond_false, hsp] at hg
        cases hb : spS (byteI c) with
        | false =>
          rw [hb, cond_false] at hg
          exact stop hg (by rw [blankS.eq_def]; simp only [hc, hb, cond_false])
        | true =>
          rw [hb, cond_true] at hg
          have h2 : blankS (f + 1) (c :: r) i = blankS f r (i + 1) := by rw [blankS.eq_def]; simp only [hc, hb, cond_false, cond_true]
          have g := ih f (i + 1) (by omega) (by omega) (by omega)
          rw [q3] at g
          rw [h2, loop_inl hg]
          cases hx : blankS f r (i + 1) with
          | none => rw [hx] at g; exact g
          | some x => obtain ⟨x, k⟩ := x; rw [hx] at g; exact ⟨g.1, by have := g.2.1; omega, g.2.2⟩
      | true =>
        have ec : byteI c = 47 := eq_of_beq hc
        have hns : spS (byteI c) = false := by rw [ec]; rfl
        rw [hc, cond_true] at hg
        rw [hns, cond_false] at hsp
        cases r with
        | nil =>
          have hl : s.length ≤ i + 1 := drop_nil q3
          rw [decide_eq_false (by omega), cond_false, hsp] at hg
          exact stop hg (by rw [blankS]; simp only [hc, cond_true])
        | cons d r' =>
          obtain ⟨p1, p2, p3⟩ := dropN q3
          rw [decide_eq_true p1, cond_true, p2, Option.bind_some] at hg
          cases hdd : (byteI d == 42) with
          | false =>
            rw [hdd, cond_false, hsp] at hg
            exact stop hg (by rw [blankS]; simp only [hc, hdd, cond_true, cond_false])
          | true =>
            rw [hdd, cond_true] at hg
            obtain ⟨j, g1, g2, g3, g4⟩ := rem_eq hs (s.length + 2) (i + 2) (by omega) (by omega)
            rw [p3] at g4
            rw [g1, Option.bind_some, wadd1 (by omega), wadd2 (by omega), lenI, leN] at hg
            have h2 : blankS (f + 1) (c :: d :: r') i = (match remS r' (i + 2) with
              | some (r2, k) => blankS f r2 k
              | none => none) := by rw [blankS]; simp only [hc, hdd, cond_true]
            rw [h2]
            cases hr : remS r' (i + 2) with
            | none =>
              rw [hr] at g4
              simp only [] at g4 ⊢
              rw [decide_eq_true g4, cond_true] at hg
              exact ⟨_, loop_inr hg⟩
            | some x =>
              obtain ⟨r2, k⟩ := x
              rw [hr] at g4
              simp only [] at g4 ⊢
              obtain ⟨e1, e2, e3⟩ := g4
              rw [decide_eq_false (by omega), cond_false] at hg
              have g := ih f k e2 (by omega) (by omega)
              rw [← e3] at g
              rw [loop_inl hg, ← e1]
              cases hx : blankS f r2 k with
              | none => rw [hx] at g; exact g
              | some x => obtain ⟨x, k2⟩ := x; rw [hx] at g; exact ⟨g.1, by have := g.2.1; omega, g.2.2⟩
theorem sub_eq {i k : Nat} (h : i ≤ k) (hk : k ≤ s.length) : subP s (i : Int) (k : Int) = some ((s.drop i).take (k - i)) := by
  have _h := hs
  unfold subP
  rw [if_pos ⟨by omega, by omega, by simpa using h, by simpa using hk⟩]
  simp only [Int.toNat_natCast]
  rw [List.drop_take]
theorem id_eq : ∀ (m i : Nat), i ≤ s.length → s.length - i < m → loopO (idB s) m (i : Int) = some ((i + ((s.drop i).takeWhile idc).length : Nat) : Int) := by
  intro m
  induction m with
  | zero => intro i _ h; omega
  | succ m ih =>
    intro i hi hm
    cases hd : s.drop i with
    | nil =>
      have hl : s.length ≤ i := drop_nil hd
      refine loop_inr ?_
      simp only [idB, lenI, ltN, decide_eq_false (show ¬ i < s.length by omega), cond_false, List.takeWhile_nil, List.length_nil, Nat.add_zero]
    | cons c r =>
      obtain ⟨q1, q2, q3⟩ := dropN hd
      have hg : idB s (i : Int) = cond (idc c) (some (.inl ((i + 1 : Nat) : Int))) (some (.inr (i : Int))) := by
        simp only [idB, lenI, ltN, decide_eq_true q1, cond_true, getN, q2, Option.bind_some, wadd1 (i := i) (by omega), idc]
        cases letterP (byteI c) <;> cases digitP (byteI c) <;> rfl
      cases hc : idc c with
      | false =>
        rw [hc] at hg
        rw [List.takeWhile_cons, hc]
        exact loop_inr hg
      | true =>
        rw [hc] at hg
        rw [List.takeWhile_cons, hc, loop_inl hg, ih (i + 1) (by omega) (by omega), q3]
        simp only [if_true, List.length_cons]
        congr 2; omega
theorem num_step (t : List UInt8) (c : UInt8) : numV (t ++ [c]) = 10 * numV t + (byteI c - 48) := by
  have _h := hs
  simp [numV]
theorem dg_range {c : UInt8} (h : dgc c = true) : 48 ≤ byteI c ∧ byteI c ≤ 57 := by
  have _h := hs
  unfold dgc digitP at h
  cases h1 : decide (48 ≤ byteI c) with
  | false => rw [h1] at h; cases h
  | true => rw [h1, cond_true] at h; exact ⟨of_decide_eq_true h1, of_decide_eq_true h⟩
theorem num_bound (t : List UInt8) (h : ∀ c ∈ t, dgc c = true) : 0 ≤ numV t ∧ numV t < 10 ^ t.length := by
  have key : ∀ (t : List UInt8) (v : Int) (m : Nat), (∀ c ∈ t, dgc c = true) → 0 ≤ v → v < 10 ^ m → 0 ≤ t.foldl (fun v d => 10 * v + (byteI d - 48)) v ∧ t.foldl (fun v d => 10 * v + (byteI d - 48)) v < 10 ^ (m + t.length) := by
    intro t
    induction t with
    | nil => intro v m _ h1 h2; exact ⟨h1, h2⟩
    | cons c t ih =>
      intro v m ht h1 h2
      obtain ⟨g1, g2⟩ := dg_range hs (ht c (by simp))
      have := ih (10 * v + (byteI c - 48)) (m + 1) (fun d hd => ht d (by simp [hd])) (by omega) (by rw [Int.pow_succ]; omega)
      rw [show m + (c :: t).length = m + 1 + t.length by simp; omega]
      exact this
  have := key t 0 0 h (by omega) (by simp)
  rwa [Nat.zero_add] at this
theorem num_eq (i : Nat) : ∀ (m : Nat) (done : List UInt8), i + done.length ≤ s.length → s.length - (i + done.length) < m → (∀ c ∈ done, dgc c = true) → loopO (numB s (i : Int)) m (((i + done.length : Nat) : Int), numV (done.take 10)) = some (((i + (done ++ (s.drop (i + done.length)).takeWhile dgc).length : Nat) : Int), numV ((done ++ (s.drop (i + done.length)).takeWhile dgc).take 10)) := by
  intro m
  induction m with
  | zero => intro done _ h; omega
  | succ m ih =>
    intro done hi hm hdg
    cases hd : s.drop (i + done.length) with
    | nil =>
      have hl : s.length ≤ i + done.length := drop_nil hd
      refine loop_inr ?_
      simp only [numB, lenI, ltN, decide_eq_false (show ¬ i + done.length < s.length by omega), cond_false, List.takeWhile_nil, List.append_nil]
    | cons c r =>
      obtain ⟨q1, q2, q3⟩ := dropN hd
      have hw := wadd1 (i := i + done.length) (by omega)
      have hsb : wsub ((i + done.length : Nat) : Int) (i : Int) = (done.length : Int) := by rw [wsubN (by omega) (by omega)]; congr 1; omega
      cases hc : dgc c with
      | false =>
        rw [List.takeWhile_cons, hc]
        refine loop_inr ?_
        have hc' : digitP (byteI c) = false := hc
        simp only [numB, lenI, ltN, decide_eq_true q1, cond_true, getN, q2, Option.bind_some, hc', cond_false, Bool.false_eq_true, if_false, List.append_nil]
      | true =>
        have hc' : digitP (byteI c) = true := hc
        obtain ⟨g1, g2⟩ := dg_range hs hc
        have hcons : done ++ c :: List.takeWhile dgc r = (done ++ [c]) ++ List.takeWhile dgc r := by simp
        rw [List.takeWhile_cons, hc, if_pos rfl, hcons]
        have hlen : i + (done ++ [c]).length = i + done.length + 1 := by simp; omega
        have hstep : numB s (i : Int) (((i + done.length : Nat) : Int), numV (done.take 10)) = some (.inl (((i + (done ++ [c]).length : Nat) : Int), numV ((done ++ [c]).take 10))) := by
          simp only [numB, lenI, ltN, decide_eq_true q1, cond_true, getN, q2, Option.bind_some, hc', hw, hsb]
          rw [show decide ((done.length : Int) < 10) = decide (done.length < 10) from decide_eq_decide.2 (by omega)]
          by_cases h10 : done.length < 10
          · rw [decide_eq_true h10, cond_true, List.take_of_length_le (by omega), List.take_of_length_le (by simp; omega), num_step hs, hlen]
            have hb := num_bound hs done hdg
            have hp : (10 : Int) ^ done.length ≤ 10 ^ 9 := by
              have : (10 : Nat) ^ done.length ≤ 10 ^ 9 := Nat.pow_le_pow_right (by omega) (by omega)
              exact_mod_cast this
            have e1 : IntKind.u8.wrap (byteI c - 48) = byteI c - 48 := by
              simp only [IntKind.wrap, IntKind.signed, IntKind.bits]
              simp; omega
            rw [e1, IntWalk.i64_in (10 * numV done) (by omega), IntWalk.i64_in (byteI c - 48) (by omega)]
            unfold wadd
            rw [IntWalk.i64_in _ (by omega)]
          · rw [decide_eq_false h10, cond_false, List.take_append_of_le_length (by omega), hlen]
        rw [loop_inl hstep, ih (done ++ [c]) (by rw [hlen]; omega) (by rw [hlen]; omega) (by intro d hd; simp at hd; rcases hd with hd | rfl; exact hdg d hd; exact hc), hlen, q3]
theorem quoted_eq : ∀ (m f i : Nat) (out : List UInt8), i ≤ s.length → s.length - i < m → s.length - i < f → out.length ≤ i → loopO (quotedB s) m ((i : Int), out) = some (quotedS (lenI s) f (s.drop i) i out) := by
  intro m
  induction m using Nat.strongRecOn with
  | ind m ih =>
  intro f i out hi hm hf ho
  obtain ⟨f, rfl⟩ : ∃ f', f = f' + 1 := ⟨f - 1, by omega⟩
  obtain ⟨m, rfl⟩ : ∃ m', m = m' + 1 := ⟨m - 1, by omega⟩
  have hw := wadd1 (i := i) (by omega)
  have hw2 := wadd2 (i := i) (by omega)
  have happ : ∀ d : UInt8, appP out [d] = some (out ++ [d]) := fun d => by
    unfold appP; rw [decide_eq_true (by simp; omega)]; rfl
  cases hd : s.drop i with
  | nil =>
    have hl : s.length ≤ i := drop_nil hd
    rw [quotedS]
    refine loop_inr ?_
    simp only [quotedB, lenI, ltN, decide_eq_false (show ¬ i < s.length by omega), cond_false]
  | cons c r =>
    obtain ⟨q1, q2, q3⟩ := dropN hd
    have hg : quotedB s ((i : Int), out) = cond (byteI c == 34) (some (.inr (⟨3, out, 0, 0⟩, ((i + 1 : Nat) : Int), 0, 0))) (cond (decide (byteI c < 32)) (some (.inr (lxE 22 i))) (cond (decide (126 < byteI c)) (some (.inr (lxE 22 i))) (cond (byteI c == 92) ((escP s i).bind fun d => cond (byteI d == 0) (some (.inr (lxE 22 i))) (some (.inl (((i + 2 : Nat) : Int), out ++ [d])))) (some (.inl (((i + 1 : Nat) : Int), out ++ [c])))))) := by
      simp only [quotedB, lenI, ltN, decide_eq_true q1, cond_true, getN, q2, Option.bind_some, hw, hw2, happ]
    rw [quotedS.eq_def]
    simp only []
    cases h1 : (byteI c == 34) with
    | true => rw [h1, cond_true] at hg; exact loop_inr hg
    | false =>
      rw [h1, cond_false] at hg
      rw [cond_false]
      cases h2 : decide (byteI c < 32) with
      | true => rw [h2, cond_true] at hg; exact loop_inr hg
      | false =>
        rw [h2, cond_false] at hg
        rw [cond_false]
        cases h3 : decide (126 < byteI c) with
        | true => rw [h3, cond_true] at hg; exact loop_inr hg
        | false =>
          rw [h3, cond_false] at hg
          rw [cond_false]
          cases h4 : (byteI c == 92) with
          | false =>
            rw [h4, cond_false] at hg
            rw [cond_false, loop_inl hg, ih m (by omega) f (i + 1) (out ++ [c]) (by omega) (by omega) (by omega) (by simp; omega), q3]
          | true =>
            rw [h4, cond_true] at hg
            rw [cond_true]
            cases r with
            | nil =>
              have hl : s.length ≤ i + 1 := drop_nil q3
              have he : escP s (i : Int) = some 0 := by
                simp only [escP, hw, lenI, ltN, decide_eq_false (show ¬ i + 1 < s.length by omega), cond_false]
              rw [he] at hg
              exact loop_inr hg
            | cons d r' =>
              obtain ⟨p1, p2, p3⟩ := dropN q3
              have he : escP s (i : Int) = some (escS d) := by
                simp only [escP, hw, lenI, ltN, decide_eq_true p1, cond_true, getN, p2, Option.bind_some, escS]
                cases (byteI d == 110) <;> cases (byteI d == 116) <;> cases (byteI d == 92) <;> cases (byteI d == 34) <;> rfl
              rw [he, Option.bind_some] at hg
              simp only []
              cases h5 : (byteI (escS d) == 0) with
              | true => rw [h5, cond_true] at hg; exact loop_inr hg
              | false =>
                rw [h5, cond_false] at hg
                rw [cond_false, loop_inl hg, ih m (by omega) f (i + 2) (out ++ [escS d]) (by omega) (by omega) (by omega) (by simp; omega), p3]
theorem take_while {p : UInt8 → Bool} (l : List UInt8) : l.take (l.takeWhile p).length = l.takeWhile p := by
  have _h := hs
  exact (List.prefix_iff_eq_take.1 (List.takeWhile_prefix p)).symm
theorem drop_while {p : UInt8 → Bool} (l : List UInt8) : l.drop (l.takeWhile p).length = l.dropWhile p := by
  have _h := hs
  have h := List.takeWhile_append_dropWhile (p := p) (l := l)
  conv => lhs; rw [← h]
  exact List.drop_left' (by rw [h])
theorem while_le {p : UInt8 → Bool} (l : List UInt8) : (l.takeWhile p).length ≤ l.length := by
  have _h := hs
  exact (List.takeWhile_prefix p).length_le
theorem while_all {p : UInt8 → Bool} : ∀ (l : List UInt8), ∀ c ∈ l.takeWhile p, p c = true := fun l c h => by
  have _h := hs
  induction l with
  | nil => simp at h
  | cons a l ih =>
    rw [List.takeWhile_cons] at h
    split at h
    · rename_i ha; simp at h; rcases h with rfl | h
      · exact ha
      · exact ih h
    · simp at h
theorem word_eq {i : Nat} {c : UInt8} {r : List UInt8} (hd : s.drop i = c :: r) : wordP s (i : Int) = some (wordS (lenI s) (c :: r) i) := by
  obtain ⟨q1, q2, q3⟩ := dropN hd
  have hw := wadd1 (i := i) (by omega)
  have hw2 := wadd2 (i := i) (by omega)
  have hlr : (c :: r).length = s.length - i := by rw [← hd, List.length_drop]
  have one : twoT s (i : Int) (byteI c) = some (oneS c i) := by
    unfold twoT oneS
    rw [hw, sub_eq hs (by omega) (by omega), hd]
    rw [show i + 1 - i = 1 by omega]
    cases oneP (byteI c) <;> rfl
  unfold wordP wordS
  rw [getN, q2, Option.bind_some]
  simp only []
  cases h1 : letterP (byteI c) with
  | true =>
    rw [cond_true, cond_true, id_eq hs _ _ (by omega) (by omega), hd, Option.bind_some]
    have hle := while_le hs (p := idc) (c :: r)
    generalize ht : (c :: r).takeWhile idc = t at hle ⊢
    rw [wsubN (by omega) (by omega), sub_eq hs (by omega) (by omega), hd, show i + t.length - i = t.length by omega, ← ht, take_while hs, ht]
    unfold idS
    rw [show decide ((32 : Int) < (t.length : Int)) = decide (32 < t.length) from decide_eq_decide.2 (by omega)]
    cases decide (32 < t.length) with
    | true => rfl
    | false => rw [cond_false, cond_false, Option.bind_some]; cases nameP t <;> rfl
  | false =>
    rw [cond_false, cond_false]
    cases h2 : digitP (byteI c) with
    | true =>
      have hn := num_eq hs i (s.length + 2) [] (by simp; omega) (by simp; omega) (fun c h => by simp at h)
      simp only [List.length_nil, Nat.add_zero, List.take_nil, List.nil_append] at hn
      rw [cond_true, cond_true]
      rw [show numV [] = 0 from rfl] at hn
      rw [hn, hd, Option.bind_some]
      have hle := while_le hs (p := dgc) (c :: r)
      have hdw := drop_while hs (p := dgc) (c :: r)
      have htw := take_while hs (p := dgc) (c :: r)
      generalize ht : (c :: r).takeWhile dgc = t at hle hdw htw ⊢
      simp only []
      rw [wsubN (by omega) (by omega), show i + t.length - i = t.length by omega]
      unfold numS
      rw [show decide ((10 : Int) < (t.length : Int)) = decide (10 < t.length) from decide_eq_decide.2 (by omega)]
      cases h3 : decide (10 < t.length) with
      | true => rfl
      | false =>
        have h10 := of_decide_eq_false h3
        rw [cond_false, cond_false, List.take_of_length_le (by omega)]
        cases h4 : decide (2147483647 < numV t) with
        | true => rfl
        | false =>
          rw [cond_false, cond_false]
          have hsub : subP s (i : Int) ((i + t.length : Nat) : Int) = some t := by
            rw [sub_eq hs (by omega) (by omega), hd, show i + t.length - i = t.length by omega, htw]
          have hdrop : s.drop (i + t.length) = (c :: r).dropWhile dgc := by rw [← hdw, ← hd, List.drop_drop]
          rw [hsub, lenI, ltN]
          cases hr : (c :: r).dropWhile dgc with
          | nil =>
            rw [hr] at hdrop
            have hl : s.length ≤ i + t.length := drop_nil hdrop
            rw [decide_eq_false (by omega), cond_false]
            rfl
          | cons d r' =>
            rw [hr] at hdrop
            obtain ⟨p1, p2, p3⟩ := dropN hdrop
            rw [decide_eq_true p1, cond_true, getN, p2]
            rw [Option.bind_some, Option.bind_some]
            simp only []
            cases letterP (byteI d) <;> rfl
    | false =>
      rw [cond_false, cond_false]
      cases h3 : (byteI c == 34) with
      | true =>
        rw [cond_true, cond_true]
        unfold quotedP
        rw [hw, quoted_eq hs (s.length + 2) (r.length + 1) (i + 1) [] (by omega) (by omega) (by simp at hlr; omega) (by simp), q3]
        rfl
      | false =>
        rw [cond_false, cond_false, hw, lenI, ltN]
        cases r with
        | nil =>
          have hl : s.length ≤ i + 1 := drop_nil q3
          rw [decide_eq_false (by omega), cond_false, one]
        | cons d r' =>
          obtain ⟨p1, p2, p3⟩ := dropN q3
          rw [decide_eq_true p1, cond_true, hw2, sub_eq hs (by omega) (by omega), hd, show i + 2 - i = 2 by omega, Option.bind_some, one]
          simp only [List.take_succ_cons, List.take_zero]
          cases twoP [c, d] <;> rfl
end
/-- Where a word is told, it ends behind where it began, within the text. -/
theorem wordS_end {len n : Nat} {c : UInt8} {r : List UInt8} (hl : n + (c :: r).length = len) (h : ((wordS (len : Int) (c :: r) n).2.2.1 == 0) = true) : ∃ k : Nat, (wordS (len : Int) (c :: r) n).2.1 = (k : Int) ∧ n < k ∧ k ≤ len := by
  have hq : ∀ (f : Nat) (l : List UInt8) (m : Nat) (out : List UInt8), m + l.length = len → ((quotedS (len : Int) f l m out).2.2.1 == 0) = true → l.length < f → ∃ k : Nat, (quotedS (len : Int) f l m out).2.1 = (k : Int) ∧ m < k ∧ k ≤ len := by
    intro f
    induction f with
    | zero => intro l m out _ _ h; omega
    | succ f ih =>
      intro l m out hl h hf
      rw [quotedS.eq_def] at h ⊢
      cases l with
      | nil => simp only [lxE] at h; cases h
      | cons c r =>
        simp only [] at h ⊢
        cases h1 : (byteI c == 34) with
        | true => rw [cond_true]; exact ⟨m + 1, rfl, by omega, by simp at hl; omega⟩
        | false =>
          rw [h1, cond_false] at h; rw [cond_false]
          cases h2 : decide (byteI c < 32) with
          | true => rw [h2, cond_true] at h; cases h
          | false =>
            rw [h2, cond_false] at h; rw [cond_false]
            cases h3 : decide (126 < byteI c) with
            | true => rw [h3, cond_true] at h; cases h
            | false =>
              rw [h3, cond_false] at h; rw [cond_false]
              cases h4 : (byteI c == 92) with
              | false =>
                rw [h4, cond_false] at h; rw [cond_false]
                obtain ⟨k, g1, g2, g3⟩ := ih r (m + 1) _ (by simp at hl; omega) h (by simp at hf; omega)
                exact ⟨k, g1, by omega, g3⟩
              | true =>
                rw [h4, cond_true] at h; rw [cond_true]
                cases r with
                | nil => cases h
                | cons d r' =>
                  simp only [] at h ⊢
                  cases h5 : (byteI (escS d) == 0) with
                  | true => rw [h5, cond_true] at h; cases h
                  | false =>
                    rw [h5, cond_false] at h; rw [cond_false]
                    obtain ⟨k, g1, g2, g3⟩ := ih r' (m + 2) _ (by simp at hl; omega) h (by simp at hf; omega)
                    exact ⟨k, g1, by omega, g3⟩
  have hone : ((oneS c n).2.2.1 == 0) = true → ∃ k : Nat, (oneS c n).2.1 = (k : Int) ∧ n < k ∧ k ≤ len := by
    unfold oneS
    cases oneP (byteI c) with
    | false => intro h; cases h
    | true => intro _; exact ⟨n + 1, rfl, by omega, by simp at hl; omega⟩
  have pos : ∀ p : UInt8 → Bool, p c = true → 0 < ((c :: r).takeWhile p).length ∧ ((c :: r).takeWhile p).length ≤ (c :: r).length := fun p hp => by
    refine ⟨?_, (List.takeWhile_prefix p).length_le⟩
    rw [List.takeWhile_cons, hp]; simp
  unfold wordS at h ⊢
  simp only [] at h ⊢
  cases h1 : letterP (byteI c) with
  | true =>
    rw [h1, cond_true] at h; rw [cond_true]
    have := pos idc (by simp [idc, h1])
    generalize (c :: r).takeWhile idc = t at this h ⊢
    unfold idS at h ⊢
    cases h2 : decide (32 < t.length) with
    | true => rw [h2, cond_true] at h; cases h
    | false =>
      rw [cond_false]
      cases nameP t <;> exact ⟨n + t.length, rfl, by omega, by omega⟩
  | false =>
    rw [h1, cond_false] at h; rw [cond_false]
    cases h2 : digitP (byteI c) with
    | true =>
      rw [h2, cond_true] at h; rw [cond_true]
      have := pos dgc h2
      generalize (c :: r).takeWhile dgc = t at this h ⊢
      generalize (c :: r).dropWhile dgc = u at h ⊢
      unfold numS at h ⊢
      cases h3 : decide (10 < t.length) with
      | true => rw [h3, cond_true] at h; cases h
      | false =>
        rw [h3, cond_false] at h; rw [cond_false]
        cases h4 : decide (2147483647 < numV t) with
        | true => rw [h4, cond_true] at h; cases h
        | false =>
          rw [h4, cond_false] at h; rw [cond_false]
          cases u with
          | nil => exact ⟨n + t.length, rfl, by omega, by omega⟩
          | cons d r' =>
            simp only [] at h ⊢
            cases h5 : letterP (byteI d) with
            | true => rw [h5, cond_true] at h; cases h
            | false => exact ⟨n + t.length, rfl, by omega, by omega⟩
    | false =>
      rw [h2, cond_false] at h; rw [cond_false]
      cases h3 : (byteI c == 34) with
      | true =>
        rw [h3, cond_true] at h; rw [cond_true]
        obtain ⟨k, g1, g2, g3⟩ := hq (r.length + 1) r (n + 1) [] (by simp at hl; omega) h (by omega)
        exact ⟨k, g1, by omega, g3⟩
      | false =>
        rw [h3, cond_false] at h; rw [cond_false]
        cases r with
        | nil => exact hone h
        | cons d r' =>
          simp only [] at h ⊢
          cases h4 : twoP [c, d] with
          | true => rw [cond_true]; exact ⟨n + 2, rfl, by omega, by simp at hl; omega⟩
          | false => rw [h4, cond_false] at h; rw [cond_false]; exact hone h
theorem toks_eq {s : List UInt8} (hs : s.length ≤ 65536) : ∀ (m f i : Nat) (acc : List Tok), i ≤ s.length → s.length - i < m → s.length - i < f → acc.length ≤ i → loopO (tokensB s) m ((i : Int), acc) = some (tokS (lenI s) f (s.drop i) i acc) := by
  intro m
  induction m with
  | zero => intro f i acc _ h; omega
  | succ m ih =>
    intro f i acc hi hm hf ha
    obtain ⟨f, rfl⟩ : ∃ f', f = f' + 1 := ⟨f - 1, by omega⟩
    have hb := blank_eq hs (s.length + 2) (f + 1) i hi (by omega) hf
    rw [tokS]
    cases hx : blankS (f + 1) (s.drop i) i with
    | none =>
      rw [hx] at hb
      obtain ⟨j, hj⟩ := hb
      refine loop_inr ?_
      simp only [tokensB, blankP, hj, Option.bind_some]
      rfl
    | some x =>
      obtain ⟨x, k⟩ := x
      rw [hx] at hb
      obtain ⟨g1, g2, g3, g4⟩ := hb
      cases x with
      | nil =>
        have hl : s.length ≤ k := drop_nil g4.symm
        refine loop_inr ?_
        simp only [tokensB, blankP, g1, Option.bind_some, lenI, leN, decide_eq_true hl]
        rfl
      | cons c r =>
        obtain ⟨q1, q2, q3⟩ := dropN g4.symm
        have hwd := word_eq hs g4.symm
        have hg : tokensB s ((i : Int), acc) = cond ((wordS (lenI s) (c :: r) k).2.2.1 == 0) ((appP acc [{ (wordS (lenI s) (c :: r) k).1 with pos := (k : Int) }]).bind fun l => some (.inl ((wordS (lenI s) (c :: r) k).2.1, l))) (some (.inr ([], (wordS (lenI s) (c :: r) k).2.2.1, (wordS (lenI s) (c :: r) k).2.2.2))) := by
          simp only [tokensB, blankP, g1, Option.bind_some, lenI, leN, decide_eq_false (show ¬ s.length ≤ k by omega), cond_false]
          simp only [lenI] at hwd
          rw [hwd]
          rfl
        have happ : appP acc [{ (wordS (lenI s) (c :: r) k).1 with pos := (k : Int) }] = some (acc ++ [{ (wordS (lenI s) (c :: r) k).1 with pos := (k : Int) }]) := by
          unfold appP; rw [decide_eq_true (by simp; omega)]; rfl
        rw [happ, Option.bind_some] at hg
        simp only []
        cases hz : ((wordS (lenI s) (c :: r) k).2.2.1 == 0) with
        | false => rw [hz] at hg; exact loop_inr hg
        | true =>
          rw [hz, cond_true] at hg
          obtain ⟨k2, e1, e2, e3⟩ := wordS_end (len := s.length) (by rw [g4, List.length_drop]; omega) hz
          have e1 : (wordS (lenI s) (c :: r) k).2.1 = (k2 : Int) := e1
          rw [e1] at hg
          rw [loop_inl hg, cond_true, e1, Int.toNat_natCast, ih f k2 _ e3 (by omega) (by omega) (by simp; omega), g4, List.drop_drop, show k + (k2 - k) = k2 by omega]
theorem tokens_eq (s : List UInt8) : tokensP s = some (tokensS s) := by
  unfold tokensP tokensS
  cases h : decide (65536 < lenI s) with
  | true => rfl
  | false =>
    have hl := of_decide_eq_false h
    have h2 := toks_eq (s := s) (by unfold lenI at hl; omega) (s.length + 2) (s.length + 1) 0 [] (by omega) (by omega) (by omega) (by simp)
    rw [cond_false, cond_false]
    exact h2
end Go.Proofs.YtmkacifjegnehaaDoor
