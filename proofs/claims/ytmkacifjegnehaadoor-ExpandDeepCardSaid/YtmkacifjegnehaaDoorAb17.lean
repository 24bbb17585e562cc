/-
  THE INTERPRETER TELLS THE TRUTH (part 1: rows and maps sealed; one operation). No program is named.
-/
import Derived.Test.YtmkacifjegnehaaDoorAb16
namespace Go.Proofs.YtmkacifjegnehaaDoor.Ab
open Go

section
variable {P : Program} {F : Fp} {X : Ctx} {df : List Deferred} {Z Z' : Zt} {σ : List Value} {H H' : List O} {w : World}

/-- What stands for the same, the objects under their numbers. -/
def WeakS (F : Fp) (X : Ctx) (df : List Deferred) (S S' : St) : Prop := ∀ Z σ a w, Models F X df Z σ S a w → ∃ Z', Zle Z Z' ∧ Models F X df Z' σ S' a w
theorem WeakS.refl (S : St) : WeakS F X df S S := fun Z _ _ _ h => ⟨Z, Zle.refl Z, h⟩
theorem WeakS.trans {S S' S'' : St} (h : WeakS F X df S S') (k : WeakS F X df S' S'') : WeakS F X df S S'' := fun Z σ a w hM => by
  obtain ⟨Z1, h1, h2⟩ := h Z σ a w hM
  obtain ⟨Z2, h3, h4⟩ := k Z1 σ a w h2
  exact ⟨Z2, h1.trans h3, h4⟩
theorem WeakS.weak {S S' : St} (h : WeakS F X df S S') : Weak F X df S S' := fun Z σ a w hM => by
  obtain ⟨Z1, _, h2⟩ := h Z σ a w hM
  exact ⟨Z1, σ, h2⟩

theorem Core.congr (hc : Core X Z σ H w) (hl : H'.length = H.length) (h : ∀ (k : Nat) o', H'[k]? = some o' → ∃ o, H[k]? = some o ∧ o'.live = o.live ∧ ∀ v, σ[k]? = some v → ORel Z σ w o v → ORel Z σ w o' v) : Core X Z σ H' w where
  h := ⟨by rw [hl]; exact hc.h.len, fun r o' v ho hv => by
      obtain ⟨o, h1, _, h3⟩ := h r o' ho
      exact h3 v hv (hc.h.obj r o v h1 hv), fun r r' o1 o2 v1 v2 b hne h1 h2 l1 l2 s1 s2 hb => by
      obtain ⟨p1, q1, r1, _⟩ := h r o1 h1
      obtain ⟨p2, q2, r2, _⟩ := h r' o2 h2
      exact hc.h.sep r r' p1 p2 v1 v2 b hne q1 q2 (r1 ▸ l1) (r2 ▸ l2) s1 s2 hb, fun r o' v b ho hlv hv hb => by
      obtain ⟨o, h1, h2, _⟩ := h r o' ho
      exact hc.h.zsep r o v b h1 (h2 ▸ hlv) hv hb⟩
  z := hc.z
  os := hc.os
  tape := hc.tape
  output := hc.output
  size := hc.size
  frame := hc.frame
  own := fun r o' v b ho hlv hv hb => by
    obtain ⟨o, h1, h2, _⟩ := h r o' ho
    exact hc.own r o v b h1 (h2 ▸ hlv) hv hb
  z0 := hc.z0
  zc := hc.zc
  zm := hc.zm
  pre := hc.pre

theorem CRel.sealR {r : Nat} {d : D} {u : Value} (hu : σ[r]? = some u) (hd : DRel Z d u) {c : C} {v : Value} (h : CRel Z σ c v) : CRel Z σ (c.sealR r d) v := by
  cases c <;> simp only [C.sealR] <;> try exact h
  case row r' =>
    split
    · rename_i e; subst e
      cases h with | row h => rw [hu] at h; injection h with h; subst h; exact .d hd
    · exact h
  case mp r' =>
    split
    · rename_i e; subst e
      cases h with | mp h => rw [hu] at h; injection h with h; subst h; exact .d hd
    · exact h
theorem VRel.sealR {r : Nat} {d : D} {u : Value} (hu : σ[r]? = some u) (hd : DRel Z d u) {x : V} {v : Value} (h : VRel Z σ x v) : VRel Z σ (x.sealR r d) v := by
  cases h with
  | c h => exact .c (h.sealR hu hd)
  | agg h => exact .agg (All2.map_left (h.mono fun _ _ q => q.sealR hu hd))
  | tup hl h => exact .tup hl h
  | dead => exact .dead
theorem ORel.sealR {r : Nat} {d : D} {u : Value} (hu : σ[r]? = some u) (hd : DRel Z d u) {o : O} {v : Value} (h : ORel Z σ w o v) : ORel Z σ w (o.sealR r d) v := by
  cases o with
  | box cs => obtain ⟨b, carr, t, h1, h2, h3⟩ := h; exact ⟨b, carr, t, h1, h2, All2.map_left (h3.mono fun _ _ q => q.sealR hu hd)⟩
  | row t sz k es => obtain ⟨a, c, vals, h1, h0, h2, h3⟩ := h; exact ⟨a, c, vals, h1, h0, h2, All2.map_left (h3.mono fun _ _ q => q.sealR hu hd)⟩
  | mp es => exact h
  | dead => trivial
theorem O.live_sealR (r : Nat) (d : D) (o : O) : (o.sealR r d).live = o.live := by cases o <;> rfl
theorem sealE_get (r : Nat) (d : D) : ∀ (e : List (Nat × V)) (t : Nat), Env.get (sealE r d e) t = (Env.get e t).sealR r d
  | [], t => rfl
  | p :: e, t => by
    simp only [sealE, Env.get]
    split
    · rfl
    · exact sealE_get r d e t

theorem chunks_length (sz : Nat) : ∀ (n : Nat) (ds : List D), (chunks sz n ds).length = n
  | 0, _ => rfl
  | n + 1, ds => by simp [chunks, chunks_length sz n]
theorem chunks_get (sz : Nat) : ∀ (n : Nat) (ds : List D), ds.length = n * sz → ∀ (i : Nat) (x : List D), (chunks sz n ds)[i]? = some x → x.length = sz ∧ ∀ (j : Nat) d, x[j]? = some d → ds[i * sz + j]? = some d
  | 0, _, _, i, x, h => by simp [chunks] at h
  | n + 1, ds, hl, i, x, h => by
    rw [Nat.add_mul, Nat.one_mul] at hl
    cases i with
    | zero =>
      simp only [chunks, List.getElem?_cons_zero] at h
      injection h with h; subst h
      refine ⟨by simp; omega, fun j d hj => ?_⟩
      rw [List.getElem?_take] at hj
      split at hj
      · simpa using hj
      · cases hj
    | succ i =>
      simp only [chunks, List.getElem?_cons_succ] at h
      obtain ⟨h1, h2⟩ := chunks_get sz n (ds.drop sz) (by simp; omega) i x h
      refine ⟨h1, fun j d hj => ?_⟩
      have := h2 j d hj
      rw [List.getElem?_drop] at this
      rw [Nat.add_mul, Nat.one_mul, show i * sz + sz + j = sz + (i * sz + j) from by omega]
      exact this

theorem MapRel.data {es : List (List UInt8 × Bool × List D)} {b : Nat} {ents : List MapEntry} (hz : Z.mp b = some ents) (h : MapRel Z es ents) : DRel Z (.fm es) (.map (some b)) := by
  refine .fm es b ents hz h.length (fun i e m he hm => ?_) (fun i e m j d v he hm hd hv => ?_)
  · obtain ⟨h1, h2, _⟩ := h.get2 he hm; exact ⟨h1, h2⟩
  · obtain ⟨_, _, h3⟩ := h.get2 he hm
    exact h3.get2 hd (by simpa using hv)

/-- An object sealed: all mentions of it are data. -/
theorem WeakS.sealOne {S : St} {r : Nat} {o : O} {d : D} (hr : S.objs[r]? = some o) (hd : sealD o = some d) (hn : F.n0 ≤ r) : WeakS F X df S { env := sealE r d S.env, objs := (S.objs.set r .dead).map (O.sealR r d) } := by
  intro Z σ a w hM
  have hc := hM.core
  have hrl : r < σ.length := by rw [hc.h.len]; exact (List.getElem?_eq_some_iff.1 hr).1
  obtain ⟨u, hu⟩ : ∃ u, σ[r]? = some u := ⟨_, List.getElem?_eq_getElem hrl⟩
  -- the new knowledge, the object let go
  have key : ∃ Z', Zle Z Z' ∧ Core X Z' σ (S.objs.set r .dead) w ∧ DRel Z' d u := by
    unfold sealD at hd
    split at hd
    · rename_i t sz n es
      split at hd
      · rename_i ds hds
        injection hd with hd; subst hd
        obtain ⟨a', c', vals, rfl, h0, ⟨hvl, hown⟩, hall⟩ := hc.h.obj _ _ _ hr hu
        have hdr := toDs_ok hall hds
        have hdl : ds.length = n * sz := by rw [← hvl, ← hdr.length]
        rcases hown with ⟨e, rfl⟩ | ⟨g, cap, cur, e, hg, hh, h5, h6, h7, h8⟩
        · injection e with e1 e2 e3; subst e1 e3
          exact ⟨Z, Zle.refl Z, hc.kill r, .sl [] none 0 0 0 0 sz rfl (Nat.le_refl _) (by simp [maxLen]) (fun h => absurd rfl h) (fun i x h => by simp at h) (fun i j x d h => by simp at h) (fun i j x d v h => by simp at h)⟩
        · injection e with e1 e2 e3; subst e1 e3
          have hw0 : X.w0.heap.size ≤ g := (hc.own r _ _ g hr rfl hu rfl).2 (by rw [hM.n0]; exact hn)
          have hle : Zle Z (Z.add g cur.toList) := Zt.le_add (hc.h.zsep r _ _ g hr rfl hu rfl).2.1
          refine ⟨_, hle, hc.sealCells hr rfl hu rfl hh hw0, ?_⟩
          have hg := chunks_get sz n ds hdl
          have look : ∀ (i j : Nat) (x : List D) (d : D), (chunks sz n ds)[i]? = some x → x[j]? = some d → ∃ v, vals[i * sz + j]? = some v ∧ (Z.add g cur.toList).cell g (0 + i * sz + j) = some v ∧ DRel Z d v := by
            intro i j x d hx hd
            obtain ⟨_, h2⟩ := hg i x hx
            obtain ⟨v, hv, hr⟩ := hdr.get (h2 j d hd)
            refine ⟨v, hv, ?_, hr⟩
            rw [Zt.add_at, Nat.zero_add]
            rw [← h8, List.getElem?_take] at hv
            split at hv
            · exact hv
            · cases hv
          refine .sl _ _ n c' g 0 sz (by rw [chunks_length]) h5 h6 (fun _ => rfl) (fun i x hx => (hg i x hx).1) (fun i j x d hx hd => ?_) (fun i j x d v hx hd hv => ?_)
          · obtain ⟨v, _, h2, _⟩ := look i j x d hx hd; exact ⟨v, h2⟩
          · obtain ⟨v', _, h2, h3⟩ := look i j x d hx hd
            rw [hv] at h2; injection h2 with h2; subst h2; exact h3.mono hle
      · cases hd
    · rename_i es
      injection hd with hd; subst hd
      obtain ⟨b, ents, clock, rfl, hh, hrel⟩ := hc.h.obj _ _ _ hr hu
      have hw0 : X.w0.heap.size ≤ b := (hc.own r _ _ b hr rfl hu rfl).2 (by rw [hM.n0]; exact hn)
      have hle : Zle Z (Z.addMp b ents.toList) := Zt.le_addMp (hc.h.zsep r _ _ b hr rfl hu rfl).2.2
      refine ⟨_, hle, hc.sealMap hr rfl hu rfl hh hw0, ?_⟩
      exact MapRel.data (by simp [Zt.addMp]) (hrel.mono hle)
    · cases hd
  obtain ⟨Z', hz, hc', hdr⟩ := key
  refine ⟨Z', hz, hc'.congr (by simp) (fun k o' ho' => ?_), fun t => ?_, hM.nt, hM.n0, hM.df⟩
  · rw [List.getElem?_map] at ho'
    cases hy : (S.objs.set r O.dead)[k]? with
    | none => rw [hy] at ho'; cases ho'
    | some y => rw [hy] at ho'; injection ho' with ho'; subst ho'; exact ⟨y, rfl, O.live_sealR r d y, fun v _ h => h.sealR hu hdr⟩
  · show VRel Z' σ (Env.get (sealE r d S.env) t) _
    rw [sealE_get]
    exact ((hM.env t).mono hz (fun _ _ h => h)).sealR hu hdr
theorem sealAll_ok : ∀ (l : List Nat) (e : List (Nat × V)) (H : List O), WeakS F X df ⟨e, H⟩ ⟨(sealAll F.n0 l e H).1, (sealAll F.n0 l e H).2⟩
  | [], e, H => WeakS.refl _
  | r :: l, e, H => by
    simp only [sealAll]
    split
    · exact sealAll_ok l e H
    · rename_i hn
      split
      · rename_i o ho
        split
        · rename_i d hd
          exact (WeakS.sealOne (S := ⟨e, H⟩) ho hd (by omega)).trans (sealAll_ok l _ _)
        · exact sealAll_ok l e H
      · exact sealAll_ok l e H
end
end Go.Proofs.YtmkacifjegnehaaDoor.Ab
