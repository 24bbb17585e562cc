/-
  A CALL MET BY ITS CONTRACT; A FUNCTION ENTERED. No program is named.
-/
import Derived.Test.YtmkacifjegnehaaDoorAb8
namespace Go.Proofs.YtmkacifjegnehaaDoor.Ab
open Go

/-! ### Objects under other numbers -/
def idxIn (sub : List Nat) (r : Nat) : Option Nat := match sub with
  | [] => none
  | x :: l => if x = r then some 0 else (match idxIn l r with
    | some i => some (i + 1)
    | none => none)
def capsIn (sub : List Nat) : List Nat → Option (List Nat)
  | [] => some []
  | r :: l => match idxIn sub r with
    | none => none
    | some i => match capsIn sub l with
      | none => none
      | some is => some (i :: is)
/-- As the callee sees it. -/
def C.into (sub : List Nat) : C → C
  | .row r => match idxIn sub r with
    | some i => .row i
    | none => .dead
  | .ptr r o => match idxIn sub r with
    | some i => .ptr i o
    | none => .dead
  | .mp r => match idxIn sub r with
    | some i => .mp i
    | none => .dead
  | .fn f caps => match capsIn sub caps with
    | some is => .fn f is
    | none => .dead
  | c => c
def V.into (sub : List Nat) : V → V
  | .c x => .c (x.into sub)
  | .agg cs => .agg (cs.map (C.into sub))
  | .tup _ => .dead
  | .dead => .dead
def O.into (sub : List Nat) : O → O
  | .box cs => .box (cs.map (C.into sub))
  | .row t sz n es => .row t sz n (es.map (C.into sub))
  | o => o
def capsOut (sub : List Nat) : List Nat → Option (List Nat)
  | [] => some []
  | i :: l => match sub[i]? with
    | none => none
    | some r => match capsOut sub l with
      | none => none
      | some rs => some (r :: rs)
/-- As the caller sees it again. -/
def C.out (sub : List Nat) : C → C
  | .row i => match sub[i]? with
    | some r => .row r
    | none => .dead
  | .ptr i o => match sub[i]? with
    | some r => .ptr r o
    | none => .dead
  | .mp i => match sub[i]? with
    | some r => .mp r
    | none => .dead
  | .fn f caps => match capsOut sub caps with
    | some rs => .fn f rs
    | none => .dead
  | c => c
mutual
def V.out (sub : List Nat) : V → V
  | .c x => .c (x.out sub)
  | .agg cs => .agg (cs.map (C.out sub))
  | .tup vs => .tup (V.outs sub vs)
  | .dead => .dead
def V.outs (sub : List Nat) : List V → List V
  | [] => []
  | v :: l => V.out sub v :: V.outs sub l
end
theorem V.outs_map (sub : List Nat) : ∀ l : List V, V.outs sub l = l.map (V.out sub)
  | [] => by rw [V.outs]; rfl
  | v :: l => by rw [V.outs, V.outs_map sub l]; rfl
def O.out (sub : List Nat) : O → O
  | .box cs => .box (cs.map (C.out sub))
  | .row t sz n es => .row t sz n (es.map (C.out sub))
  | o => o
theorem V.out_tup (sub : List Nat) (vs : List V) : V.out sub (.tup vs) = .tup (vs.map (V.out sub)) := by
  rw [V.out, V.outs_map]

section
variable {Z : Zt} {σ σc : List Value} {w : World} {sub : List Nat}

theorem idxIn_ok : ∀ {sub : List Nat} {r i : Nat}, idxIn sub r = some i → sub[i]? = some r
  | [], r, i, h => by cases h
  | x :: l, r, i, h => by
    simp only [idxIn] at h
    split at h
    · rename_i e; injection h with h; subst h e; rfl
    · split at h
      · rename_i j hj; injection h with h; subst h; simpa using idxIn_ok hj
      · cases h
/-- The two numberings. -/
def Subs (σ σc : List Value) (sub : List Nat) : Prop := ∀ (i r : Nat), sub[i]? = some r → σc[i]? = σ[r]?
theorem CRel.into (hs : Subs σ σc sub) {c : C} {v : Value} (h : CRel Z σ c v) : CRel Z σc (c.into sub) v := by
  have h1 := h.one
  cases h with
  | d h => exact .d h
  | nilS => exact .nilS
  | row h =>
    simp only [C.into]; split
    · rename_i i hi; exact .row (by rw [hs _ _ (idxIn_ok hi)]; exact h)
    · exact .dead h1
  | ptr h hb =>
    simp only [C.into]; split
    · rename_i i hi; exact .ptr (by rw [hs _ _ (idxIn_ok hi)]; exact h) hb
    · exact .dead h1
  | cptr h => exact .cptr h
  | mp h =>
    simp only [C.into]; split
    · rename_i i hi; exact .mp (by rw [hs _ _ (idxIn_ok hi)]; exact h)
    · exact .dead h1
  | fn h =>
    rename_i f caps vs
    simp only [C.into]; split
    · rename_i is his
      refine .fn ?_
      have key : ∀ {caps is : List Nat} {vs : List Value}, capsIn sub caps = some is → All2 (fun r v => ∃ b, σ[r]? = some (.pointer (some ⟨b, 0, none⟩)) ∧ v = .pointer (some ⟨b, 0, none⟩)) caps vs → All2 (fun r v => ∃ b, σc[r]? = some (.pointer (some ⟨b, 0, none⟩)) ∧ v = .pointer (some ⟨b, 0, none⟩)) is vs := by
        intro caps
        induction caps with
        | nil => intro is vs h1 h2; injection h1 with h1; subst h1; cases h2; exact .nil
        | cons r caps ih =>
          intro is vs h1 h2
          cases h2 with
          | cons q t =>
            simp only [capsIn] at h1
            split at h1
            · cases h1
            · rename_i i hi
              split at h1
              · cases h1
              · rename_i is' his'
                injection h1 with h1; subst h1
                obtain ⟨b, q1, q2⟩ := q
                exact .cons ⟨b, by rw [hs _ _ (idxIn_ok hi)]; exact q1, q2⟩ (ih his' t)
      exact key his h
    · exact .dead h1
  | ifc h => exact .ifc h
  | nilI => exact .nilI
  | dead h => exact .dead h
theorem VRel.into (hs : Subs σ σc sub) {x : V} {v : Value} (h : VRel Z σ x v) : VRel Z σc (x.into sub) v := by
  cases h with
  | c h => exact .c (h.into hs)
  | agg h => exact .agg (All2.map_left (h.mono fun _ _ r => r.into hs))
  | tup _ _ => exact .dead
  | dead => exact .dead
theorem ORel.into (hs : Subs σ σc sub) {o : O} {v : Value} (h : ORel Z σ w o v) : ORel Z σc w (o.into sub) v := by
  cases o with
  | box cs => obtain ⟨b, carr, t, h1, h2, h3⟩ := h; exact ⟨b, carr, t, h1, h2, All2.map_left (h3.mono fun _ _ r => r.into hs)⟩
  | row t sz k es => obtain ⟨a, c, vals, h1, h0, h2, h3⟩ := h; exact ⟨a, c, vals, h1, h0, h2, All2.map_left (h3.mono fun _ _ r => r.into hs)⟩
  | mp es => exact h
  | dead => trivial
/-- All of the callee's objects have a number with the caller. -/
def Outs (σ σc : List Value) (sub : List Nat) : Prop := ∀ (i : Nat) v, σc[i]? = some v → ∃ r, sub[i]? = some r ∧ σ[r]? = some v
theorem CRel.out (hs : Outs σ σc sub) {c : C} {v : Value} (h : CRel Z σc c v) : CRel Z σ (c.out sub) v := by
  cases h with
  | d h => exact .d h
  | nilS => exact .nilS
  | row h => obtain ⟨r, h1, h2⟩ := hs _ _ h; simp only [C.out, h1]; exact .row h2
  | ptr h hb => obtain ⟨r, h1, h2⟩ := hs _ _ h; simp only [C.out, h1]; exact .ptr h2 hb
  | cptr h => exact .cptr h
  | mp h => obtain ⟨r, h1, h2⟩ := hs _ _ h; simp only [C.out, h1]; exact .mp h2
  | fn h =>
    rename_i f caps vs
    have key : ∀ {caps : List Nat} {vs : List Value}, All2 (fun r v => ∃ b, σc[r]? = some (.pointer (some ⟨b, 0, none⟩)) ∧ v = .pointer (some ⟨b, 0, none⟩)) caps vs → ∃ rs, capsOut sub caps = some rs ∧ All2 (fun r v => ∃ b, σ[r]? = some (.pointer (some ⟨b, 0, none⟩)) ∧ v = .pointer (some ⟨b, 0, none⟩)) rs vs := by
      intro caps vs h
      induction h with
      | nil => exact ⟨[], rfl, .nil⟩
      | cons q _ ih =>
        obtain ⟨b, q1, q2⟩ := q
        obtain ⟨r, h1, h2⟩ := hs _ _ q1
        obtain ⟨rs, h3, h4⟩ := ih
        exact ⟨r :: rs, by simp only [capsOut, h1, h3], .cons ⟨b, h2, q2⟩ h4⟩
    obtain ⟨rs, h1, h2⟩ := key h
    simp only [C.out, h1]; exact .fn h2
  | ifc h => exact .ifc h
  | nilI => exact .nilI
  | dead h => exact .dead h
theorem VRel.out (hs : Outs σ σc sub) {x : V} {v : Value} (h : VRel Z σc x v) : VRel Z σ (x.out sub) v := by
  induction h with
  | c h => rw [V.out]; exact .c (h.out hs)
  | agg h => rw [V.out]; exact .agg (All2.map_left (h.mono fun _ _ r => r.out hs))
  | tup hl _ ih =>
    rw [V.out_tup]
    refine .tup (by simpa using hl) fun i x v hx hv => ?_
    rw [List.getElem?_map] at hx
    rename_i xs vs h
    cases hy : xs[i]? with
    | none => rw [hy] at hx; cases hx
    | some y => rw [hy] at hx; injection hx with hx; subst hx; exact ih i y v hy hv
  | dead => rw [V.out]; exact .dead
theorem ORel.out (hs : Outs σ σc sub) {o : O} {v : Value} (h : ORel Z σc w o v) : ORel Z σ w (o.out sub) v := by
  cases o with
  | box cs => obtain ⟨b, carr, t, h1, h2, h3⟩ := h; exact ⟨b, carr, t, h1, h2, All2.map_left (h3.mono fun _ _ r => r.out hs)⟩
  | row t sz k es => obtain ⟨a, c, vals, h1, h0, h2, h3⟩ := h; exact ⟨a, c, vals, h1, h0, h2, All2.map_left (h3.mono fun _ _ r => r.out hs)⟩
  | mp es => exact h
  | dead => trivial
theorem O.live_into (sub : List Nat) (o : O) : (o.into sub).live = o.live := by cases o <;> rfl
theorem O.live_out (sub : List Nat) (o : O) : (o.out sub).live = o.live := by cases o <;> rfl

/-! ### What the objects are behind a call -/
def updO (sub' : List Nat) : List Nat → List O → List O → List O
  | [], H', objs => objs ++ H'.map (O.out sub')
  | _ :: _, [], objs => objs
  | r :: sub, h :: H', objs => updO sub' sub H' (objs.set r (h.out sub'))
theorem updO_get {sub' : List Nat} : ∀ {sub : List Nat} {H' objs : List O} {k : Nat} {o : O}, sub.length ≤ H'.length → sub.Nodup → (∀ r ∈ sub, r < objs.length) → (updO sub' sub H' objs)[k]? = some o →
    (∃ (i : Nat) (o' : O), sub[i]? = some k ∧ H'[i]? = some o' ∧ o = o'.out sub') ∨ (k ∉ sub ∧ objs[k]? = some o) ∨ (∃ (j : Nat) (o' : O), k = objs.length + j ∧ H'[sub.length + j]? = some o' ∧ o = o'.out sub')
  | [], H', objs, k, o, _, _, _, h => by
    simp only [updO] at h
    rcases Nat.lt_or_ge k objs.length with hl | hl
    · rw [List.getElem?_append_left hl] at h; exact .inr (.inl ⟨by simp, h⟩)
    · rw [List.getElem?_append_right hl, List.getElem?_map] at h
      cases hy : H'[k - objs.length]? with
      | none => rw [hy] at h; cases h
      | some y => rw [hy] at h; injection h with h; exact .inr (.inr ⟨k - objs.length, y, by omega, by simpa using hy, h.symm⟩)
  | r :: sub, [], objs, k, o, hl, _, _, _ => by simp at hl
  | r :: sub, x :: H', objs, k, o, hl, hn, hb, h => by
    simp only [updO] at h
    have hn' := List.nodup_cons.1 hn
    have hr : r < objs.length := hb r (by simp)
    rcases updO_get (by simpa using hl) hn'.2 (fun r' hr' => by simpa using hb r' (by simp [hr'])) h with ⟨i, o', q1, q2, q3⟩ | ⟨q1, q2⟩ | ⟨j, o', q1, q2, q3⟩
    · exact .inl ⟨i + 1, o', by simpa using q1, by simpa using q2, q3⟩
    · by_cases e : k = r
      · subst e
        rw [List.getElem?_set_self hr] at q2; injection q2 with q2
        exact .inl ⟨0, x, by simp, by simp, q2.symm⟩
      · rw [List.getElem?_set_ne (Ne.symm e)] at q2
        exact .inr (.inl ⟨by simp [e, q1], q2⟩)
    · exact .inr (.inr ⟨j, o', by simpa using q1, by rw [show (r :: sub).length + j = (sub.length + j) + 1 from by simp; omega]; simpa using q2, q3⟩)
theorem updO_length {sub' : List Nat} : ∀ {sub : List Nat} {H' objs : List O}, sub.length ≤ H'.length → (updO sub' sub H' objs).length = objs.length + (H'.length - sub.length)
  | [], H', objs, _ => by simp [updO]
  | r :: sub, [], objs, hl => by simp at hl
  | r :: sub, x :: H', objs, hl => by
    simp only [updO]
    rw [updO_length (by simpa using hl)]; simp
end

section
variable {P : Program} {F : Fp} {X : Ctx} {df : List Deferred} {ops : Array Oper} {S : St} {Q : Ex → St → Prop}

/-- What the callee is handed. -/
def subO (sub : List Nat) (objs : List O) : List Nat → Option (List O)
  | [] => some []
  | r :: l => match objs[r]? with
    | none => none
    | some o => if o.live = true then (match subO sub objs l with
      | none => none
      | some H => some (o.into sub :: H)) else none
theorem subO_get {sub : List Nat} {objs : List O} : ∀ {l : List Nat} {H : List O}, subO sub objs l = some H → H.length = l.length ∧ ∀ (i r : Nat), l[i]? = some r → ∃ o : O, objs[r]? = some o ∧ o.live = true ∧ H[i]? = some (o.into sub)
  | [], H, h => by injection h with h; subst h; exact ⟨rfl, fun i r hr => by simp at hr⟩
  | r :: l, H, h => by
    simp only [subO] at h
    split at h
    · cases h
    · rename_i o ho
      split at h
      · rename_i hl
        split at h
        · cases h
        · rename_i H' hH
          injection h with h; subst h
          obtain ⟨h1, h2⟩ := subO_get hH
          refine ⟨by simp [h1], fun i r' hr => ?_⟩
          cases i with
          | zero => simp at hr; subst hr; exact ⟨o, ho, hl, by simp⟩
          | succ i => obtain ⟨o', q1, q2, q3⟩ := h2 i r' (by simpa using hr); exact ⟨o', q1, q2, by simpa using q3⟩
      · cases h

/-- The state of the caller behind a call. -/
def after (S : St) (sub : List Nat) (H' : List O) : List O := updO (sub ++ List.range' S.objs.length (H'.length - sub.length)) sub H' S.objs
def subs' (S : St) (sub : List Nat) (H' : List O) : List Nat := sub ++ List.range' S.objs.length (H'.length - sub.length)

/-- The heart of a call: what is known behind it. -/
theorem call_core {Z : Zt} {σ : List Value} {w : World} (hc : Core X Z σ S.objs w) {sub : List Nat} {H : List O} (hsub : subO sub S.objs sub = some H) (hnd : sub.Nodup) :
    HRel Z (sub.map fun r => σ.getD r undef) H w ∧ Subs σ (sub.map fun r => σ.getD r undef) sub ∧
    ∀ Z' σ' H' w', Zle Z Z' → HRel Z' σ' H' w' → Zok Z' w' → (∀ (i : Nat) v, (sub.map fun r => σ.getD r undef)[i]? = some v → σ'[i]? = some v) → w'.os = w.os → w'.tape = w.tape → w'.output = w.output → w.heap.size ≤ w'.heap.size →
      (∀ k, k < w.heap.size → (∀ (i : Nat) v, (sub.map fun r => σ.getD r undef)[i]? = some v → blk v ≠ some k) → w'.heap[k]? = w.heap[k]?) →
      (∀ b o v, Z'.cell b o = some v → Z.cell b o = some v ∨ w.heap.size ≤ b) → (∀ b es, Z'.mp b = some es → Z.mp b = some es ∨ w.heap.size ≤ b) →
      (∀ (i : Nat) o v b, H'[i]? = some o → o.live = true → H.length ≤ i → σ'[i]? = some v → blk v = some b → w.heap.size ≤ b) →
      Core X Z' (σ ++ σ'.drop sub.length) (after S sub H') w' ∧ Outs (σ ++ σ'.drop sub.length) σ' (subs' S sub H') := by
  obtain ⟨hlen, hget⟩ := subO_get hsub
  have hσc : ∀ (i r : Nat), sub[i]? = some r → ∃ v, σ[r]? = some v ∧ (sub.map fun r => σ.getD r undef)[i]? = some v := by
    intro i r hr
    obtain ⟨o, ho, _⟩ := hget i r hr
    have hl : r < σ.length := by rw [hc.h.len]; exact (List.getElem?_eq_some_iff.1 ho).1
    exact ⟨σ[r], List.getElem?_eq_getElem hl, by simp [List.getElem?_map, hr, List.getElem?_eq_getElem hl]⟩
  have hSubs : Subs σ (sub.map fun r => σ.getD r undef) sub := by
    intro i r hr
    obtain ⟨v, h1, h2⟩ := hσc i r hr
    rw [h1, h2]
  have hinv : ∀ (i : Nat) o, H[i]? = some o → ∃ r o', sub[i]? = some r ∧ S.objs[r]? = some o' ∧ o'.live = true ∧ o = o'.into sub := by
    intro i o ho
    have hi : i < sub.length := by rw [← hlen]; exact (List.getElem?_eq_some_iff.1 ho).1
    obtain ⟨o', q1, q2, q3⟩ := hget i _ (List.getElem?_eq_getElem hi)
    rw [ho] at q3; injection q3 with q3
    exact ⟨_, o', List.getElem?_eq_getElem hi, q1, q2, q3⟩
  have hnd' : ∀ {i j r : Nat}, sub[i]? = some r → sub[j]? = some r → i = j := by
    intro i j r hi hj
    have hil := (List.getElem?_eq_some_iff.1 hi).1
    have hjl := (List.getElem?_eq_some_iff.1 hj).1
    exact (List.getElem_inj (h₀ := hil) (h₁ := hjl) hnd).1 (by rw [(List.getElem?_eq_some_iff.1 hi).2, (List.getElem?_eq_some_iff.1 hj).2])
  refine ⟨⟨by simp [hlen], ?_, ?_, ?_⟩, hSubs, ?_⟩
  · intro i o v ho hv
    obtain ⟨r, o', q1, q2, q3, rfl⟩ := hinv i o ho
    rw [hSubs i r q1] at hv
    exact (hc.h.obj r o' v q2 hv).into hSubs
  · intro i j o1 o2 v1 v2 b hne h1 h2 l1 l2 s1 s2 hb
    obtain ⟨r1, o1', q1, q2, q3, rfl⟩ := hinv i o1 h1
    obtain ⟨r2, o2', p1, p2, p3, rfl⟩ := hinv j o2 h2
    rw [hSubs i r1 q1] at s1
    rw [hSubs j r2 p1] at s2
    exact hc.h.sep r1 r2 o1' o2' v1 v2 b (fun e => hne (hnd' q1 (e ▸ p1))) q2 p2 q3 p3 s1 s2 hb
  · intro i o v b ho hl hv hb
    obtain ⟨r, o', q1, q2, q3, rfl⟩ := hinv i o ho
    rw [hSubs i r q1] at hv
    exact hc.h.zsep r o' v b q2 q3 hv hb
  · intro Z' σ' H' w' hz hh hzok hpre e1 e2 e3 e4 hfr hzc hzm hnew
    have hl' : sub.length ≤ σ'.length := by
      rcases Nat.lt_or_ge σ'.length sub.length with h | h
      · obtain ⟨v, _, h2⟩ := hσc σ'.length _ (List.getElem?_eq_getElem h)
        have := hpre _ _ h2
        simp at this
      · exact h
    have hlH : sub.length ≤ H'.length := by rw [← hh.len]; exact hl'
    have hblt : ∀ r ∈ sub, r < S.objs.length := by
      intro r hr
      obtain ⟨i, hi⟩ := List.getElem?_of_mem hr
      obtain ⟨o, ho, _⟩ := hget i r hi
      exact (List.getElem?_eq_some_iff.1 ho).1
    -- what an old number stands for
    have hold : ∀ {k : Nat} {v : Value}, k < S.objs.length → (σ ++ σ'.drop sub.length)[k]? = some v → σ[k]? = some v := by
      intro k v hk hv
      rwa [List.getElem?_append_left (by rw [hc.h.len]; exact hk)] at hv
    have hsame : ∀ {i k : Nat} {v : Value}, sub[i]? = some k → σ[k]? = some v → σ'[i]? = some v := by
      intro i k v hi hv
      refine hpre i v ?_
      rw [hSubs i k hi]; exact hv
    have hnewv : ∀ {j : Nat} {v : Value}, (σ ++ σ'.drop sub.length)[S.objs.length + j]? = some v → σ'[sub.length + j]? = some v := by
      intro j v hv
      rw [List.getElem?_append_right (by rw [hc.h.len]; omega), hc.h.len, List.getElem?_drop] at hv
      rwa [show sub.length + (S.objs.length + j - S.objs.length) = sub.length + j from by omega] at hv
    have hOuts : Outs (σ ++ σ'.drop sub.length) σ' (subs' S sub H') := by
      intro i v hv
      rcases Nat.lt_or_ge i sub.length with hi | hi
      · obtain ⟨u, h1, h2⟩ := hσc i _ (List.getElem?_eq_getElem hi)
        have := hpre i u h2
        rw [hv] at this; injection this with this; subst this
        refine ⟨sub[i], by rw [subs', List.getElem?_append_left hi]; exact List.getElem?_eq_getElem hi, get_app h1⟩
      · have hil : i < σ'.length := (List.getElem?_eq_some_iff.1 hv).1
        refine ⟨S.objs.length + (i - sub.length), ?_, ?_⟩
        · rw [subs', List.getElem?_append_right hi, List.getElem?_range' (by rw [← hh.len]; omega)]; simp
        · rw [List.getElem?_append_right (by rw [hc.h.len]; omega), hc.h.len, List.getElem?_drop]
          rw [show sub.length + (S.objs.length + (i - sub.length) - S.objs.length) = i from by omega]; exact hv
    -- a live object of the callee's that it was handed was live
    have hlive : ∀ {i k : Nat}, sub[i]? = some k → ∃ o, S.objs[k]? = some o ∧ o.live = true := by
      intro i k hi
      obtain ⟨o, h1, h2, _⟩ := hget i k hi
      exact ⟨o, h1, h2⟩
    have hun : ∀ (k : Nat) (o : O) (v : Value) (b : Nat), k ∉ sub → S.objs[k]? = some o → o.live = true → σ[k]? = some v → blk v = some b → ∀ (i : Nat) u, (sub.map fun r => σ.getD r undef)[i]? = some u → blk u ≠ some b := by
      intro k o v b hk ho hl hv hb i u hu
      have hi : i < sub.length := by have := (List.getElem?_eq_some_iff.1 hu).1; simpa using this
      obtain ⟨o', q1, q2⟩ := hlive (List.getElem?_eq_getElem hi)
      rw [hSubs i _ (List.getElem?_eq_getElem hi)] at hu
      exact hc.h.sep k _ o o' v u b (fun e => hk (e ▸ List.getElem_mem hi)) ho q1 hl q2 hv hu hb
    refine ⟨⟨⟨?_, ?_, ?_, ?_⟩, hzok, e1.trans hc.os, e2.trans hc.tape, e3.trans hc.output, Nat.le_trans hc.size e4, ?_, ?_, hc.z0.trans hz, ?_, ?_, fun r v h => get_app (hc.pre r v h)⟩, hOuts⟩
    · rw [after, updO_length hlH]; simp [hc.h.len, hh.len]
    · intro k o v ho hv
      rcases updO_get hlH hnd hblt ho with ⟨i, o', q1, q2, rfl⟩ | ⟨q1, q2⟩ | ⟨j, o', rfl, q2, rfl⟩
      · have hk : k < S.objs.length := hblt k (List.mem_of_getElem? q1)
        exact (hh.obj i o' v q2 (hsame q1 (hold hk hv))).out hOuts
      · have hk : k < S.objs.length := (List.getElem?_eq_some_iff.1 q2).1
        have hv' := hold hk hv
        cases hl : o.live with
        | false => cases o <;> first | trivial | cases hl
        | true =>
          refine ((hc.h.obj k o v q2 hv').block fun b hb => ?_).mono hz (fun _ _ h => get_app h)
          exact hfr b (hc.blockLt q2 hl hv' hb) (hun k o v b q1 q2 hl hv' hb)
      · exact (hh.obj _ o' v q2 (hnewv hv)).out hOuts
    · intro k k' o o' v v' b hne ho ho' l l' hv hv' hb hb'
      rcases updO_get hlH hnd hblt ho with ⟨i, x, q1, q2, rfl⟩ | ⟨q1, q2⟩ | ⟨j, x, rfl, q2, rfl⟩ <;> rcases updO_get hlH hnd hblt ho' with ⟨i', x', p1, p2, rfl⟩ | ⟨p1, p2⟩ | ⟨j', x', rfl, p2, rfl⟩
      · rw [O.live_out] at l l'
        have g1 := hsame q1 (hold (hblt k (List.mem_of_getElem? q1)) hv)
        have g2 := hsame p1 (hold (hblt k' (List.mem_of_getElem? p1)) hv')
        exact hh.sep i i' x x' v v' b (fun e => hne (by subst e; rw [q1] at p1; injection p1)) q2 p2 l l' g1 g2 hb hb'
      · have g1 := hold (hblt k (List.mem_of_getElem? q1)) hv
        have hk' := (List.getElem?_eq_some_iff.1 p2).1
        obtain ⟨y, y1, y2⟩ := hlive q1
        exact hc.h.sep k k' y o' v v' b hne y1 p2 y2 l' g1 (hold hk' hv') hb hb'
      · rw [O.live_out] at l l'
        have g1 := hsame q1 (hold (hblt k (List.mem_of_getElem? q1)) hv)
        have hi : i < sub.length := (List.getElem?_eq_some_iff.1 q1).1
        exact hh.sep i _ x x' v v' b (by omega) q2 p2 l l' g1 (hnewv hv') hb hb'
      · have g1 := hold (hblt k' (List.mem_of_getElem? p1)) hv'
        have hk := (List.getElem?_eq_some_iff.1 q2).1
        obtain ⟨y, y1, y2⟩ := hlive p1
        exact hc.h.sep k k' o y v v' b hne q2 y1 l y2 (hold hk hv) g1 hb hb'
      · have hk := (List.getElem?_eq_some_iff.1 q2).1
        have hk' := (List.getElem?_eq_some_iff.1 p2).1
        exact hc.h.sep k k' o o' v v' b hne q2 p2 l l' (hold hk hv) (hold hk' hv') hb hb'
      · rw [O.live_out] at l'
        have hk := (List.getElem?_eq_some_iff.1 q2).1
        have g := hc.blockLt q2 l (hold hk hv) hb
        have := hnew _ x' v' b p2 l' (by rw [hlen]; omega) (hnewv hv') hb'
        omega
      · rw [O.live_out] at l l'
        have g2 := hsame p1 (hold (hblt k' (List.mem_of_getElem? p1)) hv')
        have hi : i' < sub.length := (List.getElem?_eq_some_iff.1 p1).1
        exact hh.sep _ i' x x' v v' b (by omega) q2 p2 l l' (hnewv hv) g2 hb hb'
      · rw [O.live_out] at l
        have hk' := (List.getElem?_eq_some_iff.1 p2).1
        have g := hc.blockLt p2 l' (hold hk' hv') hb'
        have := hnew _ x v b q2 l (by rw [hlen]; omega) (hnewv hv) hb
        omega
      · rw [O.live_out] at l l'
        exact hh.sep _ _ x x' v v' b (by omega) q2 p2 l l' (hnewv hv) (hnewv hv') hb hb'
    · intro k o v b ho l hv hb
      rcases updO_get hlH hnd hblt ho with ⟨i, x, q1, q2, rfl⟩ | ⟨q1, q2⟩ | ⟨j, x, rfl, q2, rfl⟩
      · rw [O.live_out] at l
        exact hh.zsep i x v b q2 l (hsame q1 (hold (hblt k (List.mem_of_getElem? q1)) hv)) hb
      · have hk := (List.getElem?_eq_some_iff.1 q2).1
        obtain ⟨g1, g2, g3⟩ := hc.h.zsep k o v b q2 l (hold hk hv) hb
        refine ⟨by omega, fun i => ?_, ?_⟩
        · cases hx : Z'.cell b i with
          | none => rfl
          | some u => rcases hzc b i u hx with q | q
                      · rw [g2] at q; cases q
                      · omega
        · cases hx : Z'.mp b with
          | none => rfl
          | some u => rcases hzm b u hx with q | q
                      · rw [g3] at q; cases q
                      · omega
      · rw [O.live_out] at l
        exact hh.zsep _ x v b q2 l (hnewv hv) hb
    · intro b hb hM
      have hb' : b < w.heap.size := Nat.lt_of_lt_of_le hb hc.size
      rw [hfr b hb' ?_]
      · exact hc.frame b hb hM
      · intro i u hu hbu
        have hi : i < sub.length := by have := (List.getElem?_eq_some_iff.1 hu).1; simpa using this
        obtain ⟨o', q1, q2⟩ := hlive (List.getElem?_eq_getElem hi)
        rw [hSubs i _ (List.getElem?_eq_getElem hi)] at hu
        obtain ⟨g1, g2⟩ := hc.own _ o' u b q1 q2 hu hbu
        rcases Nat.lt_or_ge (sub[i]) X.s0.length with q | q
        · exact hM (g1 q)
        · have := g2 q; omega
    · intro k o v b ho l hv hb
      rcases updO_get hlH hnd hblt ho with ⟨i, x, q1, q2, rfl⟩ | ⟨q1, q2⟩ | ⟨j, x, rfl, q2, rfl⟩
      · obtain ⟨y, y1, y2⟩ := hlive q1
        exact hc.own k y v b y1 y2 (hold (hblt k (List.mem_of_getElem? q1)) hv) hb
      · have hk := (List.getElem?_eq_some_iff.1 q2).1
        exact hc.own k o v b q2 l (hold hk hv) hb
      · rw [O.live_out] at l
        have := hnew _ x v b q2 l (by rw [hlen]; omega) (hnewv hv) hb
        refine ⟨fun q => ?_, fun _ => Nat.le_trans hc.size this⟩
        have := hc.s0_le; omega
    · intro b o v hv
      rcases hzc b o v hv with q | q
      · exact hc.zc b o v q
      · exact .inr (Nat.le_trans hc.size q)
    · intro b es hv
      rcases hzm b es hv with q | q
      · exact hc.zm b es q
      · exact .inr (Nat.le_trans hc.size q)
end
end Go.Proofs.YtmkacifjegnehaaDoor.Ab
