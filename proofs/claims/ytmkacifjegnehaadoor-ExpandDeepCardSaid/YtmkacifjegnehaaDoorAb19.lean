/-
  THE INTERPRETER TELLS THE TRUTH (part 3: rows of operations, regions that draw, statements). No program is named.
-/
import Derived.Test.YtmkacifjegnehaaDoorAb18
namespace Go.Proofs.YtmkacifjegnehaaDoor.Ab
open Go

section
variable {P : Program} {F : Fp} {X : Ctx} {df : List Deferred} {ops : Array Oper} {S : St} {Q : Ex → St → Prop} {bz mz : Nat → Bool}

/-! ### What is worked out is the same -/
theorem fNat_eq {α : Type} (n : Nat) (k : Nat → α) : fNat n k = k n := by cases n <;> rfl
theorem fInt_eq {α : Type} (n : Int) (k : Int → α) : fInt n k = k n := by cases n <;> simp [fInt, fNat_eq]
theorem fL_eq {α β : Type} : ∀ (l : List β) (k : List β → α), fL l k = k l
  | [], k => rfl
  | x :: l, k => by rw [fL, fL_eq l]
theorem fD_eq {α : Type} (d : D) (k : D → α) : fD d k = k d := by
  unfold fD
  split <;> simp [fInt_eq, fL_eq]
theorem fC_eq {α : Type} (c : C) (k : C → α) : fC c k = k c := by
  unfold fC
  split <;> simp [fInt_eq, fNat_eq]
theorem fCs_eq {α : Type} : ∀ (l : List C) (k : List C → α), fCs l k = k l
  | [], k => rfl
  | x :: l, k => by rw [fCs, fC_eq, fCs_eq l]
theorem fV_eq {α : Type} (v : V) (k : V → α) : fV v k = k v := by
  unfold fV
  split <;> simp [fD_eq, fC_eq, fCs_eq]
theorem fO_eq {α : Type} (o : O) (k : O → α) : fO o k = k o := by
  unfold fO
  split <;> simp [fNat_eq, fCs_eq]
theorem fOs_eq {α : Type} : ∀ (l : List O) (k : List O → α), fOs l k = k l
  | [], k => rfl
  | x :: l, k => by rw [fOs, fO_eq, fOs_eq l]
theorem fE_eq {α : Type} (e : List (Nat × V)) (k : List (Nat × V) → α) : fE e k = k e := by
  unfold fE
  split <;> simp [fV_eq]

/-! ### Is it wanted? -/
theorem wantedX_ok {Z : Zt} {σ : List Value} {a : Act} {w : World} (hM : Models F X df Z σ S a w) {o : Oper} {b : Bool} (h : wantedX ops.toList S.env o = some b) : Region.wanted o (yielded ops a.tmps) = b := by
  unfold wantedX at h
  split at h
  · rename_i hg; injection h with h; subst h; exact wanted_none hg _
  · rename_i g hg
    split at h
    · cases h
    · rename_i og hog
      split at h
      · cases h
      · rename_i t ht
        have hgs : gsOk ops [(g.1, t)] := by
          intro j t' hj
          simp only [gtmp] at hj
          split at hj
          · rename_i e; injection hj with hj; subst hj
            have e : g.1 = j := e
            subst e
            have : ops[g.1]? = some og := by simpa using hog
            rw [this]; exact ht
          · cases hj
        have hgt : gtmp [(g.1, t)] g.1 = some t := by simp [gtmp]
        split at h
        · rename_i b' hb
          injection h with h; subst h
          rw [wanted_some hM hg hgs hgt hb]
          cases b' <;> cases g.2 <;> rfl
        · rename_i hb
          injection h with h; subst h
          exact wanted_tup hM hg hgs hgt hb
        · cases h

def Out.to (Q : Ex → St → Prop) : Out → Prop
  | .go _ e' H' => Q .normal ⟨e', H'⟩
  | .pan t cs e' H' => Q (.panic t cs) ⟨e', H'⟩
theorem stepX_wpOp (hT : Tok P F.T) {call : CallF} (hs : SoundCall P call) {keepA : Nat → Bool} {out : Out} {i : Nat} {o : Oper} (hi : ops[i]? = some o) (h : stepX call F keepA ops.toList S.env S.objs o = some out) {Z : Zt} {σ : List Value} {a : Act} {w : World} (hM : Models F X df Z σ S a w) {K : Act → World → Prop}
    (k : match out with
      | .go rs e' H' => ∀ Z' σ' a' w', Models F X df Z' σ' ⟨e', H'⟩ a' w' → Zle Z Z' → (∀ (k : Nat) u, k ∉ rs → σ[k]? = some u → σ'[k]? = some u) → Spares σ rs w w' → K a' w'
      | .pan t cs e' H' => Q (.panic t cs) ⟨e', H'⟩) : wpOp P ops (post F X df Q) i K a w := by
  unfold wpOp
  simp only [hi]
  unfold stepX at h
  split at h
  · cases h
  · rename_i hw
    injection h with h; subst h
    rw [if_neg (by rw [wantedX_ok hM hw]; simp)]
    exact k Z σ _ w (hM.put hM.core VRel.undef (Zle.refl Z) (fun _ _ h => h) o.dst) (Zle.refl Z) (fun _ _ _ h => h) Spares.refl
  · rename_i hw
    rw [if_pos (wantedX_ok hM hw)]
    have hok := opX_ok (X := X) (df := df) hT hs h
    refine .inl ?_
    cases out with
    | go rs e' H' => exact hok Z σ a w hM K _ k
    | pan t cs e' H' => exact hok Z σ a w hM K Q k
theorem stepX_wpList (hT : Tok P F.T) {call : CallF} (hs : SoundCall P call) {keepA : Nat → Bool} {out : Out} {o : Oper} {l : List Oper} (h : stepX call F keepA ops.toList S.env S.objs o = some out)
    (k : match out with
      | .go _ e' H' => SatL P F X df ops ⟨e', H'⟩ l Q
      | .pan t cs e' H' => Q (.panic t cs) ⟨e', H'⟩) : SatL P F X df ops S (o :: l) Q := by
  intro Z σ a w hM
  unfold stepX at h
  split at h
  · cases h
  · rename_i hw
    injection h with h; subst h
    exact wpList_cons_not (wantedX_ok hM hw) (k Z σ _ w (hM.put hM.core VRel.undef (Zle.refl Z) (fun _ _ h => h) o.dst))
  · rename_i hw
    refine wpList_cons_wanted (wantedX_ok hM hw) ?_
    have hok := opX_ok (X := X) (df := df) hT hs h
    cases out with
    | go rs e' H' => exact hok Z σ a w hM _ _ fun Z' σ' a' w' h1 _ _ _ => k Z' σ' a' w' h1
    | pan t cs e' H' => exact hok Z σ a w hM _ Q k
theorem runX_ok (hT : Tok P F.T) {call : CallF} (hs : SoundCall P call) {keepA : Nat → Bool} : ∀ (l : List Oper) (e : List (Nat × V)) (H : List O) (out : Out), runX call F keepA ops.toList l e H = some out → out.to Q → SatL P F X df ops ⟨e, H⟩ l Q
  | [], e, H, out, h, k => by injection h with h; subst h; exact SatL_nil k
  | o :: l, e, H, out, h, k => by
    simp only [runX] at h
    split at h
    · rename_i rs e' H' hx
      refine stepX_wpList (S := ⟨e, H⟩) hT hs hx ?_
      rw [fE_eq] at h
      split at h
      · rw [fOs_eq] at h; exact runX_ok hT hs l e' H' out h k
      · exact runX_ok hT hs l e' H' out h k
    · rename_i r hr
      cases out with
      | go rs e' H' => exact (hr rs e' H' h).elim
      | pan t cs e' H' => exact stepX_wpList (S := ⟨e, H⟩) hT hs h k

/-! ### Regions that draw -/
theorem guardsOf_ok : ∀ (l : List Oper), gsOk ops (guardsOf ops.toList l)
  | [], j, t, h => by cases h
  | o :: l, j, t, h => by
    simp only [guardsOf] at h
    split at h
    · exact guardsOf_ok l j t h
    · rename_i g hg
      split at h
      · exact guardsOf_ok l j t h
      · rename_i og hog
        split at h
        · exact guardsOf_ok l j t h
        · rename_i t' ht
          simp only [gtmp] at h
          split at h
          · rename_i e; injection h with h; subst h
            have e : g.1 = j := e
            subst e
            have : ops[g.1]? = some og := by simpa using hog
            rw [this]; exact ht
          · exact guardsOf_ok l j t h
theorem opsOf_ok : ∀ {is : List Nat} {l : List Oper}, opsOf ops.toList is = some l → opsAt ops is l
  | [], l, h => by injection h with h; subst h; trivial
  | i :: is, l, h => by
    simp only [opsOf] at h
    split at h
    · cases h
    · rename_i o ho
      split at h
      · cases h
      · rename_i os hos
        injection h with h; subst h
        exact ⟨by simpa using ho, opsOf_ok hos⟩
theorem allLive_ok {H : List O} : ∀ {l : List Nat}, allLive H l = true → ∀ r ∈ l, ∃ o, H[r]? = some o ∧ o.live = true
  | [], _, r, hr => by cases hr
  | x :: l, h, r, hr => by
    simp only [allLive] at h
    split at h
    · rename_i o ho
      simp only [Bool.and_eq_true] at h
      rcases List.mem_cons.1 hr with rfl | hr
      · exact ⟨o, ho, h.1⟩
      · exact allLive_ok h.2 r hr
    · cases h
theorem SatT_nextX (hT : Tok P F.T) {call : CallF} (hs : SoundCall P call) {keepA : Nat → Bool} {Xs done : List Nat} {i : Nat} {plan : List (Bool × Nat)} {o : Oper} (hi : ops[i]? = some o) (hb : bz i = true) {out : Out} (h : stepX call F keepA ops.toList S.env S.objs o = some out)
    (k : match out with
      | .go _ e' H' => SatD P F X df ops bz mz (i :: done) plan ⟨e', H'⟩ Q
      | .pan t cs e' H' => Q (.panic t cs) ⟨e', H'⟩) : SatT P F X df ops bz mz Xs done ((false, i) :: plan) S Q := by
  intro hp hcl Zs σs ws Z σ a w hM hz hss hsz hk hX
  rw [planOk_at hi] at hp
  simp only [Bool.false_eq_true, if_false, Bool.and_eq_true] at hp
  refine sole_step hp.1 hcl fun hcl' => stepX_wpOp hT hs hi h hM ?_
  cases out with
  | go rs e' H' =>
    intro Z' σ' a' w' q1 q2 q3 q4
    rw [if_pos hb]
    exact k hp.2 hcl' Z' σ' a' w' q1
  | pan t cs e' H' => exact k
theorem SatT_inX (hT : Tok P F.T) {call : CallF} (hs : SoundCall P call) {keepA : Nat → Bool} {Xs done : List Nat} {i : Nat} {plan : List (Bool × Nat)} {o : Oper} (hi : ops[i]? = some o) (hb : bz i = false) {out : Out} (h : stepX call F keepA ops.toList S.env S.objs o = some out)
    (k : match out with
      | .go rs e' H' => (∀ r ∈ Xs, ∃ o, S.objs[r]? = some o ∧ o.live = true) ∧ (∀ r ∈ rs, ∃ o, S.objs[r]? = some o ∧ o.live = true) ∧ (∀ r ∈ Xs, r ∉ rs) ∧ SatT P F X df ops bz mz Xs (i :: done) plan ⟨e', H'⟩ Q
      | .pan t cs e' H' => Q (.panic t cs) ⟨e', H'⟩) : SatT P F X df ops bz mz Xs done ((false, i) :: plan) S Q := by
  intro hp hcl Zs σs ws Z σ a w hM hz hss hsz hk hX
  rw [planOk_at hi] at hp
  simp only [Bool.false_eq_true, if_false, Bool.and_eq_true] at hp
  refine sole_step hp.1 hcl fun hcl' => stepX_wpOp hT hs hi h hM ?_
  cases out with
  | go rs e' H' =>
    obtain ⟨hXl, hRl, hd, k⟩ := k
    intro Z' σ' a' w' q1 q2 q3 q4
    rw [if_neg (by simp [hb])]
    have hk' := hk.spares q1.core.z (hz.trans q2) hss hsz hX q4 (apart_of hM hXl hRl hd)
    refine ⟨fun _ => hk', k hp.2 hcl' Zs σs ws Z' σ' a' w' q1 (hz.trans q2) (fun r hr u h => q3 r u (hd r hr) (hss r hr u h)) (Nat.le_trans hsz q4.1) hk' fun r hr u b hu hb' => ?_⟩
    obtain ⟨ox, hox, _⟩ := hXl r hr
    have hrl : r < σ.length := by rw [hM.core.h.len]; exact (List.getElem?_eq_some_iff.1 hox).1
    have := q3 r _ (hd r hr) (List.getElem?_eq_getElem hrl)
    rw [hu] at this; injection this with this; subst this
    exact hX r hr _ b (List.getElem?_eq_getElem hrl) hb'
  | pan t cs e' H' => exact k
def SatM (P : Program) (F : Fp) (X : Ctx) (df : List Deferred) (ops : Array Oper) (bz mz : Nat → Bool) : Option (List Nat) → List Nat → List (Bool × Nat) → St → (Ex → St → Prop) → Prop
  | none, done, plan, S, Q => SatD P F X df ops bz mz done plan S Q
  | some Xs, done, plan, S, Q => SatT P F X df ops bz mz Xs done plan S Q
theorem SatM_of {m : Option (List Nat)} {done : List Nat} {plan : List (Bool × Nat)} (h : SatT P F X df ops bz mz (m.getD []) done plan S Q) : SatM P F X df ops bz mz m done plan S Q := by
  cases m with
  | none => exact SatD_start h
  | some Xs => exact h
theorem mergeE_get (e : List (Nat × V)) : ∀ (L : List Nat) (t : Nat), Env.get (mergeE e L) t = .dead ∨ Env.get (mergeE e L) t = Env.get e t
  | [], t => .inl rfl
  | x :: L, t => by
    simp only [mergeE, Env.get]
    split
    · rename_i h; subst h; exact .inr rfl
    · exact mergeE_get e L t
theorem WeakS.merge (L : List Nat) (e : List (Nat × V)) (H : List O) : WeakS F X df ⟨e, H⟩ ⟨mergeE e L, H⟩ := fun Z σ a w hM => by
  refine ⟨Z, Zle.refl Z, hM.core, fun t => ?_, hM.nt, hM.n0, hM.df⟩
  rcases mergeE_get e L t with q | q
  · show VRel Z σ (Env.get (mergeE e L) t) _
    rw [q]; exact .dead
  · show VRel Z σ (Env.get (mergeE e L) t) _
    rw [q]; exact hM.env t
/-! ### Tidied at a loop's end -/
theorem intoE_get (sub : List Nat) : ∀ (e : List (Nat × V)) (t : Nat), Env.get (intoE sub e) t = (Env.get e t).into sub
  | [], t => rfl
  | p :: e, t => by
    simp only [intoE, Env.get]
    split
    · rfl
    · exact intoE_get sub e t
theorem reachFilter {H : List O} {n0 : Nat} {l : List Nat} : let sub := List.range' 0 n0 ++ (reach H 64 l []).filter (fun r => Nat.ble n0 r); sub.Nodup ∧ (∀ i, i < n0 → sub[i]? = some i) ∧ (∀ (i r : Nat), sub[i]? = some r → n0 ≤ i → n0 ≤ r) := by
  have hmem : ∀ r ∈ (reach H 64 l []).filter (fun r => Nat.ble n0 r), n0 ≤ r := fun r hr => Nat.le_of_ble_eq_true (List.mem_filter.1 hr).2
  refine ⟨List.nodup_append.2 ⟨List.nodup_range', (reach_nodup H 64 l [] (by simp)).filter _, fun a ha b hb e => ?_⟩, fun i hi => ?_, fun i r hr hi => ?_⟩
  · have := hmem b hb
    have := List.mem_range'.1 ha
    omega
  · rw [List.getElem?_append_left (by simpa using hi)]
    rw [List.getElem?_range' hi]; simp
  · rw [List.getElem?_append_right (by simpa using hi)] at hr
    exact hmem r (List.mem_of_getElem? hr)
theorem Weak.tidy (e : List (Nat × V)) (H : List O) : Weak F X df ⟨e, H⟩ ⟨(tidy F.n0 e H).1, (tidy F.n0 e H).2⟩ := by
  unfold Ab.tidy
  split
  · rename_i Hc hsub
    obtain ⟨hnd, hid, hge⟩ := reachFilter (H := H) (n0 := F.n0) (l := refsE e)
    intro Z σ a w hM
    have hc := hM.core
    obtain ⟨c1, c2, _⟩ := call_core (S := ⟨e, H⟩) hc hsub hnd
    obtain ⟨hl2, hget⟩ := subO_get hsub
    have hs0 : X.s0.length = F.n0 := hM.n0
    refine ⟨Z, _, ⟨c1, hc.z, hc.os, hc.tape, hc.output, hc.size, hc.frame, fun i o v b ho hlv hv hb => ?_, hc.z0, hc.zc, hc.zm, fun i v hv => ?_⟩, fun t => ?_, hM.nt, hM.n0, hM.df⟩
    · have hil : i < (gcSub F.n0 e H).length := by rw [← hl2]; exact (List.getElem?_eq_some_iff.1 ho).1
      have hsi : (gcSub F.n0 e H)[i]? = some (gcSub F.n0 e H)[i] := List.getElem?_eq_getElem hil
      obtain ⟨o', p1, p2, p3⟩ := hget i _ hsi
      have hσ := c2 i _ hsi
      rw [hv] at hσ
      have hown := hc.own _ o' v b p1 p2 hσ.symm hb
      refine ⟨fun q => ?_, fun q => hown.2 (by rw [hs0]; exact hge i _ hsi (by omega))⟩
      have e1 := hid i (by omega)
      have e2 : (gcSub F.n0 e H)[i] = i := by
        have : (gcSub F.n0 e H)[i]? = some i := e1
        rw [hsi] at this; injection this
      rw [e2] at hown
      exact hown.1 q
    · have hil : i < F.n0 := by rw [← hs0]; exact (List.getElem?_eq_some_iff.1 hv).1
      have := c2 i i (hid i hil)
      rw [this]; exact hc.pre i v hv
    · show VRel Z _ (Env.get (intoE (gcSub F.n0 e H) e) t) _
      rw [intoE_get]
      exact (hM.env t).into c2
  · exact Weak.refl _

theorem runFork_all {call : CallF} {keepA : Nat → Bool} {bl Xs keys : List Nat} {ops : List Oper} {e : List (Nat × V)} {H : List O} {x : List (Nat × V) × List O} : ∀ {orders : List (List Nat)}, runFork call F keepA ops bl Xs keys e H orders = some x → ∀ o ∈ orders, runF call F keepA ops bl Xs keys o e H = some x
  | [], h, o, ho => by cases ho
  | [p], h, o, ho => by
    have : o = p := by simpa using ho
    subst this; exact h
  | p :: q :: l, h, o, ho => by
    simp only [runFork] at h
    split at h
    · cases h
    · rename_i y hy
      split at h
      · rename_i hr
        injection h with h; subst h
        rcases List.mem_cons.1 ho with rfl | ho
        · exact hy
        · exact runFork_all hr o ho
      · cases h
theorem fork_ok (hT : Tok P F.T) {call : CallF} (hs : SoundCall P call) {keepA : Nat → Bool} (hW : ∀ S S', Weak F X df S S' → Q .normal S' → Q .normal S) {bl Xs keys : List Nat} {x : List (Nat × V) × List O} (hx : Q .normal ⟨x.1, x.2⟩) :
    ∀ (n : Nat) (done : List Nat) (orders : List (List Nat)) (e : List (Nat × V)) (H : List O), forkOk ops n done orders = true → (∀ o ∈ orders, runF call F keepA ops.toList bl Xs keys o e H = some x) → Closed .any ops (listedOf ops.size done) → ∀ Zs σs ws Z σ a w, Models F X df Z σ ⟨e, H⟩ a w → Zle Zs Z → (∀ r ∈ Xs, ∀ u, σs[r]? = some u → σ[r]? = some u) → ws.heap.size ≤ w.heap.size → Keep Xs Zs σs ws w →
      (∀ r ∈ Xs, ∀ u b, σ[r]? = some u → blk u = some b → b < ws.heap.size) → wpAnyM P .any ops (post F X df Q) (bl.contains ·) mz n (Keep Xs Zs σs ws) (listedOf ops.size done) a w
  | 0, done, orders, e, H, hf, ho, hcl, Zs, σs, ws, Z, σ, a, w, hM, hz, hss, hsz, hk, hX => by
    simp only [forkOk, Bool.and_eq_true, Bool.not_eq_true', List.all_eq_true, beq_iff_eq] at hf
    obtain ⟨⟨h1, h2⟩, h3⟩ := hf
    refine ⟨h1, ?_⟩
    cases orders with
    | nil => simp at h3
    | cons o l =>
      have e1 := h2 o List.mem_cons_self
      subst e1
      have := ho [] List.mem_cons_self
      simp only [runF, Option.some.injEq] at this
      refine ⟨Z, σ, ⟨e, H⟩, .normal, hM, .normal, hW _ _ ((WeakS.merge keys e H).weak.trans (Weak.tidy _ _)) ?_⟩
      rw [this]; exact hx
  | n + 1, done, orders, e, H, hf, ho, hcl, Zs, σs, ws, Z, σ, a, w, hM, hz, hss, hsz, hk, hX => by
    simp only [forkOk, Bool.and_eq_true, Bool.not_eq_true', List.all_eq_true] at hf
    refine ⟨fun h0 => (by rw [h0] at hf; simp at hf), fun i hi => ?_⟩
    have hfi := hf.2 i hi
    have hne : ∃ o, o ∈ tailsOf i orders := by
      cases ht : tailsOf i orders with
      | cons o l => exact ⟨o, List.mem_cons_self⟩
      | nil =>
        rw [ht] at hfi
        exfalso
        clear hi ht
        have : ∀ (n : Nat) (done : List Nat), forkOk ops n done [] = false := by
          intro n
          induction n with
          | zero => intro done; simp [forkOk]
          | succ n ihn =>
            intro done
            simp only [forkOk, Bool.and_eq_false_iff, Bool.not_eq_false', tailsOf]
            cases hr : Region.ready .any ops (listedOf ops.size done) with
            | nil => exact .inl rfl
            | cons j l => exact .inr (by simp [ihn])
        rw [this] at hfi; cases hfi
    obtain ⟨o0, ho0⟩ := hne
    obtain ⟨_, oi, hoi, _⟩ := mem_ready.1 hi
    have hr0 := ho _ (tailsOf_mem ho0)
    have hoi' : ops.toList[i]? = some oi := by simpa using hoi
    simp only [runF, hoi'] at hr0
    cases hb : bl.contains i with
    | true => rw [hb] at hr0; cases hr0
    | false =>
      rw [hb] at hr0
      simp only [] at hr0
      cases hst : stepX call F keepA ops.toList e H oi with
      | none => rw [hst] at hr0; cases hr0
      | some out =>
        rw [hst] at hr0
        cases out with
        | pan t cs e' H' => cases hr0
        | go rs e' H' =>
          simp only [] at hr0
          split at hr0
          · rename_i hcond
            have hcond0 := hcond
            simp only [Bool.and_eq_true] at hcond
            refine stepX_wpOp (S := ⟨e, H⟩) hT hs hoi hst hM ?_
            intro Z' σ' a' w' q1 q2 q3 q4
            rw [if_neg (by simp only [hb]; simp)]
            have hXl := allLive_ok hcond.1.1
            have hd : ∀ r ∈ Xs, r ∉ rs := fun r hr hr' => by
              have := List.all_eq_true.1 hcond.2 r hr
              simp at this
              exact this hr'
            have hk' := hk.spares q1.core.z (hz.trans q2) hss hsz hX q4 (apart_of hM hXl (allLive_ok hcond.1.2) hd)
            refine ⟨fun _ => hk', fork_ok (keepA := keepA) (keys := keys) hT hs hW hx n (i :: done) (tailsOf i orders) e' H' hfi (fun o ho1 => ?_) (hcl.set hi) Zs σs ws Z' σ' a' w' q1 (hz.trans q2) (fun r hr u h => q3 r u (hd r hr) (hss r hr u h)) (Nat.le_trans hsz q4.1) hk' fun r hr u b hu hb' => ?_⟩
            · have := ho _ (tailsOf_mem ho1)
              simp only [runF, hoi', hb, hst, hcond0] at this
              exact this
            · obtain ⟨ox, hox, _⟩ := hXl r hr
              have hrl : r < σ.length := by rw [hM.core.h.len]; exact (List.getElem?_eq_some_iff.1 hox).1
              have := q3 r _ (hd r hr) (List.getElem?_eq_getElem hrl)
              rw [hu] at this; injection this with this; subst this
              exact hX r hr _ b (List.getElem?_eq_getElem hrl) hb'
          · cases hr0
theorem runD_ok (hW : ∀ S S', Weak F X df S S' → Q .normal S' → Q .normal S) (hT : Tok P F.T) {call : CallF} (hs : SoundCall P call) {keepA : Nat → Bool} (hsel : Region.noSelect ops = true) (hQ : NoEnv Q) {bl : List Nat} :
    ∀ (segs : List Seg) (m : Option (List Nat)) (e : List (Nat × V)) (H : List O) (out : Out) (done : List Nat), forksOk ops done segs = true → runD call F keepA ops.toList bl m segs e H = some out → out.to Q → SatM P F X df ops (bl.contains ·) mz m done (segPlan segs) ⟨e, H⟩ Q
  | [], m, e, H, out, done, hfk, h, k => by
    simp only [runD] at h
    injection h with h; subst h
    exact SatM_of (SatT_end k)
  | .take is :: l, m, e, H, out, done, hfk, h, k => by
    simp only [runD] at h
    simp only [forksOk] at hfk
    cases m with
    | some Xs => cases h
    | none =>
      simp only [] at h
      split at h
      · cases h
      · rename_i os hos
        split at h
        · cases h
        · rename_i hlive
          split at h
          · cases h
          · rename_i e' H' hev
            exact SatD_takes (S := ⟨e, H⟩) hT (guardsOf_ok ops.toList) hsel hQ _ is os _ (opsOf_ok hos) (allLive_ok hlive) hev (runD_ok hW hT hs hsel hQ l _ e' H' out _ hfk h k)
  | .pur is :: l, m, e, H, out, done, hfk, h, k => by
    simp only [runD] at h
    simp only [forksOk] at hfk
    split at h
    · cases h
    · rename_i os hos
      split at h
      · cases h
      · rename_i hpure
        split at h
        · cases h
        · rename_i e' H' hev
          exact SatM_of (SatT_takes (S := ⟨e, H⟩) hT (guardsOf_ok ops.toList) hsel hQ is os _ (opsOf_ok hos) hpure hev (runD_ok hW hT hs hsel hQ l _ e' H' out _ hfk h k))
  | .next i :: l, m, e, H, out, done, hfk, h, k => by
    simp only [runD] at h
    simp only [forksOk] at hfk
    split at h
    · cases h
    · rename_i o ho
      split at h
      · cases h
      · rename_i hb
        refine SatM_of ?_
        split at h
        · rename_i rs e' H' hx
          exact SatT_nextX (S := ⟨e, H⟩) hT hs (by simpa using ho) hb hx (runD_ok hW hT hs hsel hQ l none e' H' out (i :: done) hfk h k)
        · rename_i r hr
          cases out with
          | go rs e' H' => exact (hr rs e' H' h).elim
          | pan t cs e' H' => exact SatT_nextX (S := ⟨e, H⟩) hT hs (by simpa using ho) hb h k
  | .inn i :: l, m, e, H, out, done, hfk, h, k => by
    simp only [runD] at h
    simp only [forksOk] at hfk
    split at h
    · cases h
    · rename_i o ho
      split at h
      · cases h
      · rename_i hb
        refine SatM_of ?_
        split at h
        · rename_i rs e' H' hx
          split at h
          · rename_i hcond
            simp only [Bool.and_eq_true] at hcond
            refine SatT_inX (S := ⟨e, H⟩) hT hs (by simpa using ho) hb hx ⟨allLive_ok hcond.1.1, allLive_ok hcond.1.2, fun r hr hr' => ?_, runD_ok hW hT hs hsel hQ l (some (m.getD [])) e' H' out (i :: done) hfk h k⟩
            have := List.all_eq_true.1 hcond.2 r hr
            simp at this
            exact this hr'
          · cases h
        · rename_i r hr
          cases out with
          | go rs e' H' => exact (hr rs e' H' h).elim
          | pan t cs e' H' => exact SatT_inX (S := ⟨e, H⟩) hT hs (by simpa using ho) hb h k
  | .fork keys n orders :: l, m, e, H, out, done, hfk, h, k => by
    simp only [forksOk, Bool.and_eq_true, List.isEmpty_iff] at hfk
    obtain ⟨⟨hl, hfk⟩, hsize⟩ := hfk
    subst hl
    simp only [runD] at h
    split at h
    · rename_i e' H' hr
      injection h with h; subst h
      refine SatM_of ?_
      intro _ hcl Zs σs ws Z σ a w hM hz hss hsz hk hX
      have := fork_ok (mz := mz) hT hs hW (x := (e', H')) k n done orders e H hfk (runFork_all hr) hcl Zs σs ws Z σ a w hM hz hss hsz hk hX
      simpa [segPlan] using this
    · cases h

/-! ### What outlives a region -/
theorem setE_get (t : Nat) (v : V) : ∀ (e : List (Nat × V)) (u : Nat), Env.get (setE t v e) u = Env.get e u ∨ (u = t ∧ Env.get (setE t v e) u = v)
  | [], u => .inl rfl
  | p :: e, u => by
    simp only [setE]
    split
    · rename_i h
      simp only [Env.get]
      split
      · rename_i h2; exact .inr ⟨by rw [← h2, h], rfl⟩
      · exact setE_get t v e u
    · simp only [Env.get]
      split
      · exact .inl rfl
      · exact setE_get t v e u
theorem Weak.row1 {t te sz : Nat} {e : List (Nat × V)} {H : List O} (hg : Env.get e t = .c .nilS) (hz : 0 < sz) : Weak F X df ⟨e, H⟩ ⟨setE t (.c (.row H.length)) e, H ++ [.row te sz 0 []]⟩ := fun Z σ a w hM => by
  have hc := hM.core
  have hv := hM.env t
  rw [show (St.mk e H).env = e from rfl, hg] at hv
  have hc' := hc.adopt (o := .row te sz 0 []) (v := .slice none 0 0) ⟨none, 0, [], rfl, hz, World.ownsRow_nil w 0 te sz, .nil⟩ (fun b hb => by simp [blk] at hb)
  refine ⟨Z, σ ++ [.slice none 0 0], hc', fun u => ?_, hM.nt, hM.n0, hM.df⟩
  show VRel Z _ (Env.get (setE t (.c (.row H.length)) e) u) _
  rcases setE_get t (.c (.row H.length)) e u with q | ⟨rfl, q⟩
  · rw [q]; exact (hM.env u).mono (Zle.refl Z) (fun _ _ h => get_app h)
  · rw [q]
    generalize a.tmps.getD u undef = x at hv ⊢
    cases hv with | c hv => cases hv with
    | nilS => exact .c (.row (by rw [show H = (St.mk e H).objs from rfl, ← hc.h.len]; simp))
/-- An object told otherwise. -/
theorem Core.retell {Z : Zt} {σ : List Value} {H : List O} {w : World} (hc : Core X Z σ H w) {r : Nat} {o o' : O} (hr : H[r]? = some o) (ho : ∀ v, σ[r]? = some v → ORel Z σ w o v → ORel Z σ w o' v) (hl : o'.live = o.live) : Core X Z σ (H.set r o') w := by
  have hrl : r < H.length := (List.getElem?_eq_some_iff.1 hr).1
  have get : ∀ {k : Nat} {x : O}, (H.set r o')[k]? = some x → ∃ y, H[k]? = some y ∧ x.live = y.live ∧ (x = y ∨ (k = r ∧ x = o')) := by
    intro k x hk
    by_cases e : k = r
    · subst e; rw [List.getElem?_set_self hrl] at hk; injection hk with hk; subst hk; exact ⟨o, hr, hl, .inr ⟨rfl, rfl⟩⟩
    · rw [List.getElem?_set_ne (Ne.symm e)] at hk; exact ⟨x, hk, rfl, .inl rfl⟩
  refine ⟨⟨by simp [hc.h.len], fun k x u hk hu => ?_, fun k k' x x' u u' b hne hk hk' l l' su su' hb => ?_, fun k x u b hk hx hu hb => ?_⟩, hc.z, hc.os, hc.tape, hc.output, hc.size, hc.frame, fun k x u b hk hx hu hb => ?_, hc.z0, hc.zc, hc.zm, hc.pre⟩
  · obtain ⟨y, h1, h2, h3⟩ := get hk
    rcases h3 with rfl | ⟨rfl, rfl⟩
    · exact hc.h.obj k _ u h1 hu
    · rw [hr] at h1; injection h1 with h1; subst h1; exact ho u hu (hc.h.obj _ _ u hr hu)
  · obtain ⟨y, h1, h2, _⟩ := get hk
    obtain ⟨y', h1', h2', _⟩ := get hk'
    exact hc.h.sep k k' y y' u u' b hne h1 h1' (by rw [← h2]; exact l) (by rw [← h2']; exact l') su su' hb
  · obtain ⟨y, h1, h2, _⟩ := get hk
    exact hc.h.zsep k y u b h1 (by rw [← h2]; exact hx) hu hb
  · obtain ⟨y, h1, h2, _⟩ := get hk
    exact hc.own k y u b h1 (by rw [← h2]; exact hx) hu hb
theorem All2.set1 {α β : Type} {R : α → β → Prop} {l : List α} {m : List β} (h : All2 R l m) (n : Nat) {a : α} (r : ∀ b, m[n]? = some b → R a b) : All2 R (l.set n a) m := by
  induction h generalizing n with
  | nil => exact .nil
  | cons r' t ih => cases n with
    | zero => exact .cons (r _ rfl) t
    | succ n => exact .cons r' (ih n fun b hb => r b (by simpa using hb))
theorem Weak.row2 {r off te sz : Nat} {cs : List C} {e : List (Nat × V)} {H : List O} (hr : H[r]? = some (.box cs)) (hg : cs[off]? = some .nilS) (hz : 0 < sz) : Weak F X df ⟨e, H⟩ ⟨e, H.set r (.box (cs.set off (.row H.length))) ++ [.row te sz 0 []]⟩ := fun Z σ a w hM => by
  have hc : Core X Z σ H w := hM.core
  have hrl : r < H.length := (List.getElem?_eq_some_iff.1 hr).1
  have hc' := hc.adopt (o := .row te sz 0 []) (v := .slice none 0 0) ⟨none, 0, [], rfl, hz, World.ownsRow_nil w 0 te sz, .nil⟩ (fun b hb => by simp [blk] at hb)
  have hc'' := hc'.retell (r := r) (o := .box cs) (o' := .box (cs.set off (.row H.length))) (get_app hr) (fun v _ hv => by
    obtain ⟨b, carr, t, h1, h2, h3⟩ := hv
    refine ⟨b, carr, t, h1, h2, h3.set1 off fun u hu => ?_⟩
    have := h3.get2 hg hu
    cases this with
    | nilS => exact .row (by rw [← hc.h.len]; simp)) rfl
  rw [List.set_append_left _ _ hrl] at hc''
  exact ⟨Z, σ ++ [.slice none 0 0], hc'', fun u => (hM.env u).mono (Zle.refl Z) (fun _ _ h => get_app h), hM.nt, hM.n0, hM.df⟩
theorem CRel.norm {Z : Zt} {σ : List Value} {c : C} {v : Value} (h : CRel Z σ c v) : CRel Z σ c.norm v := by
  cases h with
  | nilS => exact .d (toD_ok (σ := σ) .nilS rfl)
  | d h => exact .d h
  | row h => exact .row h
  | ptr h hb => exact .ptr h hb
  | cptr h => exact .cptr h
  | mp h => exact .mp h
  | fn h => exact .fn h
  | ifc h => exact .ifc h
  | nilI => exact .nilI
  | dead h => exact .dead h
theorem Weak.row3 {r : Nat} {cs : List C} {e : List (Nat × V)} {H : List O} (hr : H[r]? = some (.box cs)) : Weak F X df ⟨e, H⟩ ⟨e, H.set r (.box (cs.map C.norm))⟩ := fun Z σ a w hM => by
  have hc : Core X Z σ H w := hM.core
  exact ⟨Z, σ, hc.retell (r := r) (o := .box cs) (o' := .box (cs.map C.norm)) hr (fun v _ hv => by
    obtain ⟨b, carr, t, h1, h2, h3⟩ := hv
    exact ⟨b, carr, t, h1, h2, All2.map_left (h3.mono fun _ _ q => q.norm)⟩) rfl, hM.env, hM.nt, hM.n0, hM.df⟩
theorem Weak.rowE : ∀ (l : List (Nat × Nat × Nat × Nat)) (e : List (Nat × V)) (H : List O), Weak F X df ⟨e, H⟩ ⟨(rowE F.n0 e H l).1, (rowE F.n0 e H l).2⟩
  | [], e, H => Weak.refl _
  | (t, off, te, 0) :: l, e, H => by
    unfold Ab.rowE
    split
    · exact (Weak.tidy e H).trans (Weak.rowE l _ _)
    · exact (sealAll_ok _ e H).weak.trans (Weak.rowE l _ _)
    · split
      · split
        · rename_i hr; exact (Weak.row3 hr).trans (Weak.rowE l _ _)
        · exact Weak.rowE l e H
      · exact Weak.rowE l e H
  | (t, off, te, sz + 1) :: l, e, H => by
    unfold Ab.rowE
    split
    · rename_i hg; exact (Weak.row1 hg (Nat.succ_pos sz)).trans (Weak.rowE l _ _)
    · split
      · rename_i hr
        split
        · rename_i hg; exact (Weak.row2 hr hg (Nat.succ_pos sz)).trans (Weak.rowE l _ _)
        · exact Weak.rowE l e H
      · exact Weak.rowE l e H
    · exact Weak.rowE l e H
theorem Weak.end_ (e : List (Nat × V)) (H : List O) (L : Lv) : Weak F X df ⟨e, H⟩ ⟨(endE F.n0 e H L).1, (endE F.n0 e H L).2⟩ := (WeakS.merge L.1 e H).weak.trans (Weak.rowE L.2 _ _)
/-- What comes out may be weakened. -/
def weakQ (F : Fp) (X : Ctx) (df : List Deferred) (Q : Ex → St → Prop) : Ex → St → Prop
  | .panic t cs, S => Q (.panic t cs) S
  | x, S => ∃ S', Weak F X df S S' ∧ Q x S'
theorem post_weakQ {ex : Exit} {a : Act} {w : World} (h : post F X df (weakQ F X df Q) ex a w) : post F X df Q ex a w := by
  obtain ⟨Z, σ, S, x, h1, h2, h⟩ := h
  cases h2 with
  | normal =>
    obtain ⟨S', h3, h4⟩ := h
    obtain ⟨Z', σ', h5⟩ := h3 Z σ a w h1
    exact ⟨Z', σ', S', _, h5, .normal, h4⟩
  | exit id =>
    obtain ⟨S', h3, h4⟩ := h
    obtain ⟨Z', σ', h5⟩ := h3 Z σ a w h1
    exact ⟨Z', σ', S', _, h5, .exit id, h4⟩
  | ret =>
    obtain ⟨S', h3, h4⟩ := h
    obtain ⟨Z', σ', h5⟩ := h3 Z σ a w h1
    exact ⟨Z', σ', S', _, h5, .ret, h4⟩
  | panic hp => exact ⟨Z, σ, S, _, h1, .panic hp, h⟩
theorem Sat_weakQ {c : Code} (h : Sat P F X df S c (weakQ F X df Q)) : Sat P F X df S c Q := fun Z σ a w hM => wp_mono (h Z σ a w hM) fun _ _ _ q => post_weakQ q
theorem SatD_of {id : Nat} (hm : P.follows .mixedOrders = true) {ops : Array Oper} {bl nm : List Nat} {segs : List Seg} (hfit : planFits ops (bl, nm, segs) = true) (h : Region.noSelect ops = true → SatD P F X df ops (bl.contains ·) (fun j => !nm.contains j) [] (segPlan segs) S Q) : Sat P F X df S (.region id ops true) Q := by
  simp only [planFits, Bool.and_eq_true, beq_iff_eq] at hfit
  obtain ⟨l, rfl⟩ : ∃ l : List Oper, ops = l.toArray := ⟨ops.toList, by simp⟩
  exact Sat_draw hm bl nm (segPlan segs) hfit.1.1.1 (by simpa using hfit.1.1.2) (h hfit.1.2)

/-! ### Statements -/
theorem NoEnv.weakQ (h : NoEnv Q) : NoEnv (weakQ F X df Q) := fun t cs S S' e q => h t cs S S' e q
theorem execX_ok (hm : P.follows .mixedOrders = true) (hT : Tok P F.T) {call : CallF} (hs : SoundCall P call) {keepA : Nat → Bool} {L : Nat → Lv} {pl : Plans} : ∀ (n : Nat) (c : Code) (e : List (Nat × V)) (H : List O) (x : Ex) (e' : List (Nat × V)) (H' : List O), codeOk pl c = true → execX call F keepA L pl n c e H = some (x, e', H') →
    ∀ Q, NoEnv Q → Q x ⟨e', H'⟩ → Sat P F X df ⟨e, H⟩ c Q := by
  intro n
  induction n using Nat.strongRecOn with
  | ind n ih =>
  intro c e H x e' H' hok h Q hQ hq
  cases n with
  | zero => cases h
  | succ n =>
  have ihn := ih n (Nat.lt_succ_self n)
  cases c <;> simp only [execX] at h <;> try (cases h; done)
  case skip => injection h with h; injection h with h1 h; injection h with h2 h3; subst h1 h2 h3; exact Sat_skip hq
  case exit id => injection h with h; injection h with h1 h; injection h with h2 h3; subst h1 h2 h3; exact Sat_exit hq
  case ret => injection h with h; injection h with h1 h; injection h with h2 h3; subst h1 h2 h3; exact Sat_ret hq
  case seq c d =>
    simp only [codeOk, Bool.and_eq_true] at hok
    split at h
    · rename_i e1 H1 hc
      exact Sat_seq (ihn c e H _ e1 H1 hok.1 hc _ hQ.thenQ (ihn d e1 H1 x e' H' hok.2 h Q hQ hq))
    · rename_i r hr
      refine Sat_seq (ihn c e H x e' H' hok.1 h _ hQ.thenQ ?_)
      cases x with
      | normal => exact (hr e' H' h).elim
      | exit id => exact hq
      | ret => exact hq
      | panic t cs => exact hq
  case region id ops dr =>
    have fin : ∀ (out : Out), endX F.n0 (L id) (some out) = some (x, e', H') → out.to (Go.Proofs.YtmkacifjegnehaaDoor.Ab.weakQ F X df Q) := by
      intro out he
      cases out with
      | go rs e1 H1 =>
        simp only [endX] at he
        injection he with he; injection he with h1 he; injection he with h2 h3; subst h1 h2 h3
        exact ⟨_, Weak.end_ e1 H1 (L id), hq⟩
      | pan t cs e1 H1 =>
        simp only [endX] at he
        injection he with he; injection he with h1 he; injection he with h2 h3; subst h1 h2 h3
        exact hq
    cases dr with
    | false =>
      simp only [] at h
      cases hr : runX call F keepA ops.toList ops.toList e H with
      | none => rw [hr] at h; cases h
      | some out =>
        rw [hr] at h
        refine Sat_weakQ ?_
        obtain ⟨l, rfl⟩ : ∃ l : List Oper, ops = l.toArray := ⟨ops.toList, by simp⟩
        exact Sat_region (runX_ok hT hs l e H out (by simpa using hr) (fin out h))
    | true =>
      simp only [] at h
      split at h
      · cases h
      · rename_i bl nm segs hpl
        simp only [codeOk, hpl] at hok
        cases hr : runD call F keepA ops.toList bl none segs e H with
        | none => rw [hr] at h; cases h
        | some out =>
          rw [hr] at h
          have hfks : forksOk ops [] segs = true := by simp only [planFits, Bool.and_eq_true] at hok; exact hok.2
          refine Sat_weakQ (SatD_of hm hok fun hsel => ?_)
          exact runD_ok (fun S S' hw hq => by obtain ⟨S2, h1, h2⟩ := hq; exact ⟨S2, hw.trans h1, h2⟩) hT hs hsel hQ.weakQ segs none e H out [] hfks hr (fin out h)
  case cond t c d =>
    simp only [codeOk, Bool.and_eq_true] at hok
    cases t with
    | tmp t =>
      simp only [] at h
      split at h
      · rename_i hb
        exact Sat_cond (b := true) hb (fun _ => ihn c e H x e' H' hok.1 h Q hQ hq) (fun q => by cases q)
      · rename_i hb
        exact Sat_cond (b := false) hb (fun q => by cases q) (fun _ => ihn d e H x e' H' hok.2 h Q hQ hq)
      · cases h
    | const v => cases h
    | global g => cases h
    | func g => cases h
  case block id c =>
    simp only [codeOk] at hok
    split at h
    · rename_i i e1 H1 hc
      split at h
      · rename_i hi
        injection h with h; injection h with h1 h; injection h with h2 h3; subst h1 h2 h3
        exact Sat_block (ihn c e H _ e1 H1 hok hc _ hQ.blockQ (by simp only [blockQ]; rw [if_pos hi]; exact hq))
      · rename_i hi
        injection h with h; injection h with h1 h; injection h with h2 h3; subst h1 h2 h3
        exact Sat_block (ihn c e H _ e1 H1 hok hc _ hQ.blockQ (by simp only [blockQ]; rw [if_neg hi]; exact hq))
    · rename_i r hr
      refine Sat_block (ihn c e H x e' H' hok h _ hQ.blockQ ?_)
      cases x with
      | normal => exact hq
      | exit i => exact (hr i e' H' h).elim
      | ret => exact hq
      | panic t cs => exact hq
  case loop c =>
    simp only [codeOk] at hok
    refine Sat_loop (fun m S => m ≤ n + 1 ∧ execX call F keepA L pl m (.loop c) S.env S.objs = some (x, e', H')) (n + 1) ⟨Nat.le_refl _, by simp only [execX]; exact h⟩ ?_
    rintro m S ⟨hm1, hx⟩
    cases m with
    | zero => cases hx
    | succ m =>
      simp only [execX] at hx
      have ihm := ih m (by omega)
      split at hx
      · rename_i e1 H1 hc
        exact ihm c S.env S.objs _ e1 H1 hok hc _ hQ.loopQ ⟨_, m, Nat.lt_succ_self m, (WeakS.merge (keysE S.env) e1 H1).weak.trans (Weak.tidy _ _), by omega, hx⟩
      · rename_i r hr
        refine ihm c S.env S.objs x e' H' hok hx _ hQ.loopQ ?_
        cases x with
        | normal => exact (hr e' H' hx).elim
        | exit id => exact hq
        | ret => exact hq
        | panic t cs => exact hq
end
end Go.Proofs.YtmkacifjegnehaaDoor.Ab
