/-
  ROWS THAT GROW: append; and what stands for the same: a row sealed, a nil slice as an empty row, a map sealed. No program is named.
-/
import Derived.Test.YtmkacifjegnehaaDoorAb14
namespace Go.Proofs.YtmkacifjegnehaaDoor.Ab
open Go

/-! ### An object's own mentions struck -/
def C.kill (r : Nat) : C → C
  | .row r' => if r' = r then .dead else .row r'
  | .ptr r' o => if r' = r then .dead else .ptr r' o
  | .mp r' => if r' = r then .dead else .mp r'
  | .fn f caps => if caps.contains r then .dead else .fn f caps
  | c => c
def V.kill (r : Nat) : V → V
  | .c x => .c (x.kill r)
  | .agg cs => .agg (cs.map (C.kill r))
  | .tup _ => .dead
  | .dead => .dead
def O.kill (r : Nat) : O → O
  | .box cs => .box (cs.map (C.kill r))
  | .row t sz n es => .row t sz n (es.map (C.kill r))
  | o => o
def killE (r : Nat) (e : List (Nat × V)) : List (Nat × V) := e.map fun p => (p.1, p.2.kill r)
theorem killE_get (r : Nat) : ∀ (e : List (Nat × V)) (t : Nat), Env.get (killE r e) t = (Env.get e t).kill r
  | [], t => rfl
  | p :: e, t => by
    simp only [killE, List.map_cons, Env.get]
    split
    · rfl
    · exact killE_get r e t
section
variable {Z : Zt} {σ σ' : List Value} {w : World} {r : Nat}
theorem CRel.kill (hs : ∀ (k : Nat) u, k ≠ r → σ[k]? = some u → σ'[k]? = some u) {c : C} {v : Value} (h : CRel Z σ c v) : CRel Z σ' (c.kill r) v := by
  have h1 := h.one
  cases h with
  | d h => exact .d h
  | nilS => exact .nilS
  | row h => simp only [C.kill]; split <;> first | exact .dead h1 | exact .row (hs _ _ ‹_› h)
  | ptr h hb => simp only [C.kill]; split <;> first | exact .dead h1 | exact .ptr (hs _ _ ‹_› h) hb
  | cptr h => exact .cptr h
  | mp h => simp only [C.kill]; split <;> first | exact .dead h1 | exact .mp (hs _ _ ‹_› h)
  | fn h =>
    rename_i f caps vs
    simp only [C.kill]; split
    · exact .dead h1
    · rename_i hc
      refine .fn (All2.of_get h.length fun i k v hk hv => ?_)
      obtain ⟨b, hb, e⟩ := h.get2 hk hv
      have hm := List.mem_of_getElem? hk
      exact ⟨b, hs _ _ (fun e => hc (by subst e; simpa using hm)) hb, e⟩
  | ifc h => exact .ifc h
  | nilI => exact .nilI
  | dead h => exact .dead h
theorem VRel.kill (hs : ∀ (k : Nat) u, k ≠ r → σ[k]? = some u → σ'[k]? = some u) {x : V} {v : Value} (h : VRel Z σ x v) : VRel Z σ' (x.kill r) v := by
  cases h with
  | c h => exact .c (h.kill hs)
  | agg h => exact .agg (All2.map_left (h.mono fun _ _ r => r.kill hs))
  | tup _ _ => exact .dead
  | dead => exact .dead
theorem ORel.kill (hs : ∀ (k : Nat) u, k ≠ r → σ[k]? = some u → σ'[k]? = some u) {o : O} {v : Value} (h : ORel Z σ w o v) : ORel Z σ' w (o.kill r) v := by
  cases o with
  | box cs => obtain ⟨b, carr, t, h1, h2, h3⟩ := h; exact ⟨b, carr, t, h1, h2, All2.map_left (h3.mono fun _ _ r => r.kill hs)⟩
  | row t sz k es => obtain ⟨a, c, vals, h1, h0, h2, h3⟩ := h; exact ⟨a, c, vals, h1, h0, h2, All2.map_left (h3.mono fun _ _ r => r.kill hs)⟩
  | mp es => exact h
  | dead => trivial
theorem O.live_kill (o : O) : (o.kill r).live = o.live := by cases o <;> rfl
end

section
variable {P : Program} {F : Fp} {X : Ctx} {df : List Deferred} {Z : Zt} {σ : List Value} {H : List O} {w : World}

/-- A row grows: in its own block, or into a new one. -/
theorem Core.regrow (hc : Core X Z σ H w) {r : Nat} {t sz n n' : Nat} {es es' : List C} {v v' : Value} (hr : H[r]? = some (.row t sz n es)) (hv : σ[r]? = some v) (hrn : X.s0.length ≤ r) {w' : World} (hg : w.grownBy w' (blk v))
    (ho : ORel Z (σ.set r v') w' (.row t sz n' es') v') (hat : blk v' = blk v ∨ blk v' = some w.heap.size) (hin : ∀ b, blk v' = some b → b < w'.heap.size) :
    Core X Z (σ.set r v') ((H.map (O.kill r)).set r (.row t sz n' es')) w' := by
  have hrl : r < H.length := (List.getElem?_eq_some_iff.1 hr).1
  have hrl' : r < (H.map (O.kill r)).length := by simpa using hrl
  have hsl : r < σ.length := by rw [hc.h.len]; exact hrl
  have hmono : ∀ (k : Nat) u, k ≠ r → σ[k]? = some u → (σ.set r v')[k]? = some u := fun k u hk h => by rw [List.getElem?_set_ne (Ne.symm hk)]; exact h
  have hback : ∀ {k : Nat} {u : Value}, k ≠ r → (σ.set r v')[k]? = some u → σ[k]? = some u := fun hk h => by rwa [List.getElem?_set_ne (Ne.symm hk)] at h
  have hself : ∀ {u : Value}, (σ.set r v')[r]? = some u → u = v' := fun h => by rw [List.getElem?_set_self hsl] at h; injection h with h; exact h.symm
  have get : ∀ {k : Nat} {x : O}, ((H.map (O.kill r)).set r (.row t sz n' es'))[k]? = some x → (k = r ∧ x = .row t sz n' es') ∨ (k ≠ r ∧ ∃ y, H[k]? = some y ∧ x = y.kill r) := by
    intro k x hk
    by_cases e : k = r
    · subst e; rw [List.getElem?_set_self hrl'] at hk; injection hk with hk; exact .inl ⟨rfl, hk.symm⟩
    · rw [List.getElem?_set_ne (Ne.symm e), List.getElem?_map] at hk
      cases hy : H[k]? with
      | none => rw [hy] at hk; cases hk
      | some y => rw [hy] at hk; injection hk with hk; exact .inr ⟨e, y, rfl, hk.symm⟩
  -- an old block that is not the row's has not turned
  have hkeep : ∀ b, b < w.heap.size → some b ≠ blk v → w'.heap[b]? = w.heap[b]? := fun b hb hne => hg.block b hb hne
  have hother : ∀ {k : Nat} {y : O} {u : Value} {b : Nat}, k ≠ r → H[k]? = some y → y.live = true → σ[k]? = some u → blk u = some b → b < w.heap.size ∧ blk v ≠ some b ∧ blk v' ≠ some b := by
    intro k y u b hk hy hl hu hb
    have h1 := hc.blockLt hy hl hu hb
    have h2 : blk v ≠ some b := hc.h.sep k r y _ u v b hk hy hr hl rfl hu hv hb
    refine ⟨h1, h2, ?_⟩
    rcases hat with q | q
    · rw [q]; exact h2
    · rw [q]; intro e; injection e with e; omega
  have hvz : ∀ b, blk v' = some b → (∀ i, Z.cell b i = none) ∧ Z.mp b = none := by
    intro b hb
    rcases hat with q | q
    · rw [q] at hb; obtain ⟨_, q2, q3⟩ := hc.h.zsep r _ v b hr rfl hv hb; exact ⟨q2, q3⟩
    · rw [q] at hb; injection hb with hb; subst hb; exact hc.fresh
  refine ⟨⟨by simp [hc.h.len], fun k x u hk hu => ?_, fun k k' x x' u u' b hne hk hk' l l' su su' hb hb' => ?_, fun k x u b hk hx hu hb => ?_⟩, hc.z.keep (fun k hk hz => hkeep k hk ?_), hg.os.trans hc.os, hg.tape.trans hc.tape, hg.output.trans hc.output, Nat.le_trans hc.size hg.size, fun k hk hM => ?_, fun k x u b hk hx hu hb => ?_, hc.z0, hc.zc, hc.zm, fun k u hu => ?_⟩
  · rcases get hk with ⟨rfl, rfl⟩ | ⟨hne, y, hy, rfl⟩
    · rw [hself hu]; exact ho
    · have hu' := hback hne hu
      cases hl : y.live with
      | false => cases y <;> first | trivial | cases hl
      | true =>
        refine ((hc.h.obj k y u hy hu').block fun b hb => ?_).kill hmono
        obtain ⟨h1, h2, _⟩ := hother hne hy hl hu' hb
        exact hkeep b h1 (fun e => h2 e.symm)
  · rcases get hk with ⟨rfl, rfl⟩ | ⟨h1, y, hy, rfl⟩ <;> rcases get hk' with ⟨rfl, rfl⟩ | ⟨h2, y', hy', rfl⟩
    · exact absurd rfl hne
    · rw [O.live_kill] at l'
      have e := hself su; subst e
      exact (hother h2 hy' l' (hback h2 su') hb').2.2 hb
    · rw [O.live_kill] at l
      have e := hself su'; subst e
      exact (hother h1 hy l (hback h1 su) hb).2.2 hb'
    · rw [O.live_kill] at l l'
      exact hc.h.sep k k' y y' u u' b hne hy hy' l l' (hback h1 su) (hback h2 su') hb hb'
  · rcases get hk with ⟨rfl, rfl⟩ | ⟨h1, y, hy, rfl⟩
    · have e := hself hu; subst e
      exact ⟨hin b hb, hvz b hb⟩
    · rw [O.live_kill] at hx
      obtain ⟨q1, q2, q3⟩ := hc.h.zsep k y u b hy hx (hback h1 hu) hb
      exact ⟨Nat.lt_of_lt_of_le q1 hg.size, q2, q3⟩
  · intro e
    obtain ⟨_, q2, q3⟩ := hc.h.zsep r _ v k hr rfl hv e.symm
    rcases hz with ⟨o, u, hz⟩ | ⟨es, hz⟩
    · rw [q2] at hz; cases hz
    · rw [q3] at hz; cases hz
  · have hne : some k ≠ blk v := fun e => by
      have := (hc.own r _ v k hr rfl hv e.symm).2 hrn; omega
    rw [hkeep k (Nat.lt_of_lt_of_le hk hc.size) hne]; exact hc.frame k hk hM
  · rcases get hk with ⟨rfl, rfl⟩ | ⟨h1, y, hy, rfl⟩
    · have e := hself hu; subst e
      refine ⟨fun q => by omega, fun _ => ?_⟩
      rcases hat with q | q
      · rw [q] at hb; exact (hc.own k _ v b hr rfl hv hb).2 hrn
      · rw [q] at hb; injection hb with hb; subst hb; exact hc.size
    · rw [O.live_kill] at hx
      exact hc.own k y u b hy hx (hback h1 hu) hb
  · have hkl : k < X.s0.length := (List.getElem?_eq_some_iff.1 hu).1
    exact hmono k u (by omega) (hc.pre k u hu)

/-! ### What is appended -/
def evSrc (H : List O) (sz : Nat) : V → Option (Nat × List C)
  | .c (.d (.sl ys)) => if ys.all (fun y => y.length == sz) = true then some (ys.length, ys.flatten.map .d) else none
  | .c .nilS => some (0, [])
  | .c (.row r) => match H[r]? with
    | some (.row _ sz' n es) => if sz' = sz then some (n, es) else none
    | _ => none
  | _ => none
theorem flatten_idx {α : Type} {sz : Nat} : ∀ {xs : List (List α)} {j : Nat} {d : α}, (∀ x ∈ xs, x.length = sz) → xs.flatten[j]? = some d → ∃ (i k : Nat) (x : List α), j = i * sz + k ∧ xs[i]? = some x ∧ x[k]? = some d
  | [], j, d, _, h => by simp at h
  | y :: xs, j, d, hs, h => by
    have hy := hs y (by simp)
    rw [List.flatten_cons] at h
    rcases Nat.lt_or_ge j y.length with q | q
    · rw [List.getElem?_append_left q] at h
      exact ⟨0, j, y, by simp, by simp, h⟩
    · rw [List.getElem?_append_right q] at h
      obtain ⟨i, k, x, e, h1, h2⟩ := flatten_idx (fun x hx => hs x (by simp [hx])) h
      exact ⟨i + 1, k, x, by rw [Nat.add_mul]; omega, by simpa using h1, h2⟩
theorem cells_ex {b : Nat} : ∀ (l : List D) (o : Nat), (∀ (j : Nat) d, l[j]? = some d → ∃ v, Z.cell b (o + j) = some v ∧ DRel Z d v) → ∃ vs : List Value, All2 (DRel Z) l vs ∧ ∀ (j : Nat) u, vs[j]? = some u → Z.cell b (o + j) = some u
  | [], o, _ => ⟨[], .nil, fun j u hu => by simp at hu⟩
  | d :: l, o, h => by
    obtain ⟨u, hu, hd⟩ := h 0 d (by simp)
    obtain ⟨vs, h1, h2⟩ := cells_ex l (o + 1) (fun j d' hd' => by
      have := h (j + 1) d' (by simpa using hd')
      rwa [show o + 1 + j = o + (j + 1) from by omega])
    refine ⟨u :: vs, .cons hd h1, fun j x hx => ?_⟩
    cases j with
    | zero => simp at hx; subst hx; exact hu
    | succ j =>
      have := h2 j x (by simpa using hx)
      rwa [show o + (j + 1) = o + 1 + j from by omega]
theorem flatten_len {α : Type} {sz : Nat} : ∀ {xs : List (List α)}, (∀ x ∈ xs, x.length = sz) → xs.flatten.length = xs.length * sz
  | [], _ => by simp
  | y :: xs, h => by rw [List.flatten_cons, List.length_append, h y (by simp), flatten_len (fun x hx => h x (by simp [hx])), List.length_cons, Nat.add_mul]; omega
theorem src_ok (hc : Core X Z σ H w) {sz m : Nat} {x : V} {xv : Value} {news : List C} (hx : VRel Z σ x xv) (h : evSrc H sz x = some (m, news)) :
    ∃ a c vals, xv = .slice a m c ∧ All2 (CRel Z σ) news vals ∧ vals.length = m * sz ∧ (m = 0 ∨ ∃ ad, a = some ad ∧ ∀ j u, vals[j]? = some u → w.cell? (ad.add j) = some u) := by
  unfold evSrc at h
  split at h
  · rename_i ys
    split at h
    · rename_i hall
      injection h with h; injection h with h1 h2; subst h1 h2
      have hall' : ∀ y ∈ ys, y.length = sz := fun y hy => by have := List.all_eq_true.1 hall y hy; simpa using this
      cases hx with | c hx => cases hx with | d hx => cases hx with
      | sl _ a n c b o sz' hn hcap hm ha hs hz hd =>
        subst hn
        cases ys with
        | nil => exact ⟨a, c, [], rfl, .nil, by simp, .inl rfl⟩
        | cons y0 ys0 =>
          have e : sz' = sz := by rw [← hs 0 y0 (by simp), hall' y0 (by simp)]
          subst e
          obtain ⟨vals, g1, g2⟩ := cells_ex (Z := Z) (b := b) (y0 :: ys0).flatten o (fun j d hj => by
            obtain ⟨i, k, x, e, h1, h2⟩ := flatten_idx hall' hj
            obtain ⟨v, hv⟩ := hz i k x d h1 h2
            rw [e, ← Nat.add_assoc]
            exact ⟨v, hv, hd i k x d v h1 h2 hv⟩)
          refine ⟨a, c, vals, rfl, All2.map_left (g1.mono fun _ _ r => .d r), by rw [← g1.length, flatten_len hall'], .inr ⟨_, ha (by simp), fun j u hu => ?_⟩⟩
          rw [add_plain]
          exact hc.z.cell _ _ _ (g2 j u hu)
    · cases h
  · injection h with h; injection h with h1 h2; subst h1 h2
    cases hx with | c hx => cases hx with
    | nilS => exact ⟨none, 0, [], rfl, .nil, by simp, .inl rfl⟩
  · split at h
    · rename_i r rt sz' n es ho
      split at h
      · rename_i e; subst e
        injection h with h; injection h with h1 h2; subst h1 h2
        cases hx with | c hx => cases hx with
        | row hr =>
          obtain ⟨a', c', vals, e1, h0, ⟨h2, h3⟩, h4⟩ := hc.h.obj _ _ _ ho hr
          injection e1 with e1 e2 e3; subst e1 e2 e3
          refine ⟨_, _, vals, rfl, h4, h2, ?_⟩
          rcases h3 with ⟨h3, hn0⟩ | ⟨g, cap, cur, e', hg, hh, h5, h6, h7, h8⟩
          · exact .inl hn0
          · injection e' with e1 e2 e3; subst e1
            refine .inr ⟨_, rfl, fun j u hu => ?_⟩
            rw [← h8, List.getElem?_take] at hu
            split at hu
            · rw [add_plain, Nat.zero_add]; simp only [World.cell?, hh]; simpa using hu
            · cases hu
      · cases h
    · cases h
  · cases h
theorem run_append_zero {t e ty : Nat} (ht : P.underlying t = some (.slice e)) {ie : TI} (hi : TIok P e ie) {base a : Option Addr} {n cap c : Nat} (hn : n ≤ cap) :
    (Builtin.append_ #[t, t] ty #[.slice base n cap, .slice a 0 c]).run P w = .ok (.slice base n cap) w := by
  have hfc : ∀ w : World, (Builtin.firstCells ie.size 0 (.slice a 0 c)).run P w = .ok #[] w := by
    intro w
    cases a with
    | none => simp [Builtin.firstCells]
    | some a => simp [Builtin.firstCells, loadCells, loadCellsFrom]
  cases base with
  | none => simp [Builtin.append_, run_underlying ht, hi.run_sizeOf, Builtin.lenOf, hn, hfc]
  | some b => simp [Builtin.append_, run_underlying ht, hi.run_sizeOf, Builtin.lenOf, hn, hfc, storeCells]

def evAppend (F : Fp) (e : List (Nat × V)) (H : List O) (o : Oper) : Option (List Nat × List (Nat × V) × List O) :=
  match o.op with
  | .call c => match c.callee with
    | .builtin .append => match c.args.toList with
      | [s, x] => match c.argTypes.toList with
        | [t, t'] => if t = t' then (match F.T t with
          | some ⟨.slice te, _, _, _⟩ => match F.T te with
            | some ie => if 0 < ie.size ∧ ie.bytes ≤ 100000 then (match evSrc H ie.size (evO e x) with
              | some (m, news) => match evO e s with
                | .c .nilS => if m ≤ 1000000000 ∧ 0 < m then some ([], Env.put F e o.dst (.c (.row H.length)), H ++ [.row te ie.size m news]) else none
                | .c (.row r) => match H[r]? with
                  | some (.row te' sz n es) => if te' = te ∧ sz = ie.size ∧ n + m ≤ 1000000000 ∧ F.n0 ≤ r then some ([r], Env.put F (killE r e) o.dst (.c (.row r)), (H.map (O.kill r)).set r (.row te sz (n + m) ((es ++ news).map (C.kill r)))) else none
                  | _ => none
                | _ => none
              | none => none) else none
            | none => none
          | _ => none) else none
        | _ => none
      | _ => none
    | _ => none
  | _ => none
theorem append_ok (hT : Tok P F.T) {S : St} {a : Act} (hM : Models F X df Z σ S a w) {o : Oper} {rs : List Nat} {e' : List (Nat × V)} {H' : List O} (h : evAppend F S.env S.objs o = some (rs, e', H')) :
    ∃ val w' σ', (execOp a.eval o).run P w = .ok (.value val) w' ∧ Models F X df Z σ' { env := e', objs := H' } (a.put o.dst val) w' ∧ (∀ (k : Nat) u, k ∉ rs → σ[k]? = some u → σ'[k]? = some u) ∧ Spares σ rs w w' ∧ ∀ r ∈ rs, ∃ ob, S.objs[r]? = some ob ∧ ob.live = true := by
  have hv := fun x => evO_ok hM.env x
  unfold evAppend at h
  split at h
  · rename_i c hop
    obtain ⟨callee, args, argTypes⟩ := c
    cases callee with
    | value f => simp only [] at h; cases h
    | invoke r m => simp only [] at h; cases h
    | builtin bb =>
      cases bb <;> simp only [] at h <;> try (cases h; done)
      split at h
      · rename_i s x hsx
        split at h
        · rename_i t t' htt
          split at h
          · rename_i ett; subst ett
            have ha : args = #[s, x] := by have := congrArg List.toArray hsx; simpa using this
            have hta : argTypes = #[t, t] := by have := congrArg List.toArray htt; simpa using this
            subst ha hta
            split at h
            · rename_i te s1 s2 s3 ht
              have hu : P.underlying t = some (.slice te) := (hT _ _ ht).und
              cases he : F.T te with
              | none => simp only [he] at h; cases h
              | some ie =>
                simp only [he] at h
                have hie := hT _ _ he
                obtain ⟨inf, z, hinf, hisz, hib, hz, hzero, hzs, _⟩ := hie.info
                split at h
                · rename_i hpos
                  cases hsrc : evSrc S.objs ie.size (evO S.env x) with
                  | none => simp only [hsrc] at h; cases h
                  | some mn =>
                    obtain ⟨m, news⟩ := mn
                    simp only [hsrc] at h
                    obtain ⟨xa, xc, vals, hxv, hnews, hvl, hcell⟩ := src_ok hM.core (hv x) hsrc
                    have hexec : ∀ (val : Value) (w' : World), (Builtin.append_ #[t, t] o.type #[a.eval s, a.eval x]).run P w = .ok val w' → (execOp a.eval o).run P w = .ok (.value val) w' := by
                      intro val w' hr
                      simp [execOp, hop, resolve, invoke, builtin, hr]
                    have hm1 : ∀ {k : Nat}, k ≤ 1000000000 → k ≤ maxLen := fun hk => by simp only [maxLen]; omega
                    have hm2 : ∀ {k : Nat}, k ≤ 1000000000 → k * ie.bytes ≤ 140737488355328 := fun hk => by
                      have := Nat.mul_le_mul hk hpos.2
                      omega
                    split at h
                    · rename_i hs
                      split at h
                      · rename_i hmm
                        injection h with h; injection h with h0 h; injection h with h1 h2; subst h0 h1 h2
                        have hsv := hv s
                        rw [hs] at hsv
                        generalize hse : a.eval s = sv at hsv
                        cases hsv with | c hsv => cases hsv with
                        | nilS =>
                          obtain ⟨ad, rfl, hcell'⟩ := hcell.resolve_left (by omega)
                          obtain ⟨v', w', q1, q2, q3, q4, q5⟩ := run_append_own_at (P := P) w 0 t o.type te inf z ie.size ie.bytes hu hinf hz hisz hib (by rw [hzs]) hpos.1 (.slice none 0 0) 0 [] (World.ownsRow_nil w 0 te ie.size) ad m xc vals hvl hcell' hnews.one (hm1 (by omega)) (hm2 (by omega)) (Nat.zero_le _)
                          rw [Nat.zero_add, List.nil_append] at q2
                          have hv' : ∃ g cap, v' = .slice (some ⟨g, 0, none⟩) m cap := by
                            rcases q2.2 with ⟨e, hm0⟩ | ⟨g, cap, cur, e, _⟩
                            · omega
                            · exact ⟨g, cap, e⟩
                          obtain ⟨g, cap, rfl⟩ := hv'
                          have hgw : g = w.heap.size := by
                            rcases q5 with q | q
                            · simp [Value.ownBlock] at q
                            · simpa [Value.ownBlock] using q
                          subst hgw
                          have hsz : w.heap.size < w'.heap.size := (q2.lt _ rfl).2
                          -- the old objects stand in the new world
                          have hold : ∀ k, k < w.heap.size → w'.heap[k]? = w.heap[k]? := fun k hk => q3.block k hk (by simp [Value.ownBlock])
                          have hc := hM.core
                          have hc' : Core X Z σ S.objs w' := ⟨⟨hc.h.len, fun r ob u ho hu' => by
                              cases hl : ob.live with
                              | false => cases ob <;> first | (cases hl; done) | exact True.intro
                              | true => exact (hc.h.obj r ob u ho hu').block fun b hb => hold b (hc.blockLt ho hl hu' hb), hc.h.sep, fun r ob u b ho hl hu' hb => by
                              obtain ⟨g1, g2, g3⟩ := hc.h.zsep r ob u b ho hl hu' hb; exact ⟨by omega, g2, g3⟩⟩, hc.z.keep (fun k hk _ => hold k hk), q3.os.trans hc.os, q3.tape.trans hc.tape, q3.output.trans hc.output, Nat.le_trans hc.size q3.size, fun b hb hMb => (hold b (Nat.lt_of_lt_of_le hb hc.size)).trans (hc.frame b hb hMb), hc.own, hc.z0, hc.zc, hc.zm, hc.pre⟩
                          have hc'' := hc'.adopt (o := .row te ie.size m news) (v := .slice (some ⟨w.heap.size, 0, none⟩) m cap) ⟨_, cap, vals, rfl, hpos.1, q2, hnews.mono fun _ _ r => r.monoS (fun _ _ h => get_app h)⟩ (fun b hb => by
                            obtain rfl : b = w.heap.size := by injection hb with hb; exact hb.symm
                            exact ⟨hsz, hc.fresh.1, hc.fresh.2, hc.size, fun r ob u ho hl hu' hbb => absurd (hc.blockLt ho hl hu' hbb) (by omega)⟩)
                          refine ⟨_, w', σ ++ [.slice (some ⟨w.heap.size, 0, none⟩) m cap], hexec _ _ (by rw [hse, hxv]; exact q1), hM.put hc'' ?_ (Zle.refl Z) (fun _ _ h => get_app h) o.dst, fun k u _ h => get_app h, ⟨q3.size, fun k hk _ => hold k hk⟩, fun r hr => by cases hr⟩
                          rw [← hc.h.len]; exact .c (.row (by simp))
                      · cases h
                    · rename_i r hs
                      split at h
                      · rename_i te' sz n es ho
                        split at h
                        · rename_i hcond
                          obtain ⟨c1, c2, c3, c4⟩ := hcond
                          subst c1 c2
                          injection h with h; injection h with h0 h; injection h with h1 h2; subst h0 h1 h2
                          have hsv := hv s
                          rw [hs] at hsv
                          generalize hse : a.eval s = sv at hsv
                          cases hsv with | c hsv => cases hsv with
                          | row hr =>
                            rename_i ra rn rc
                            have hc := hM.core
                            have hrn : X.s0.length ≤ r := by rw [hM.n0]; exact c4
                            obtain ⟨a', c', rvals, e1, h0, hown, h4⟩ := hc.h.obj _ _ _ ho hr
                            injection e1 with e1 e2 e3; subst e1 e2 e3
                            have hcaps : rn ≤ rc := by
                              rcases hown.2 with ⟨e, hn0⟩ | ⟨g, cap, cur, e, _, _, h5, _⟩
                              · omega
                              · injection e with _ _ e3; omega
                            -- the result, whichever way
                            have res : ∃ v' w', (Builtin.append_ #[t, t] o.type #[.slice ra rn rc, .slice xa m xc]).run P w = .ok v' w' ∧ w'.ownsRow 0 te' ie.size v' (rn + m) (rvals ++ vals) ∧ w.grownBy w' (blk (.slice ra rn rc)) ∧ (blk v' = blk (.slice ra rn rc) ∨ blk v' = some w.heap.size) ∧ ∃ b2 c2, v' = .slice b2 (rn + m) c2 := by
                              by_cases hm0 : m = 0
                              · subst hm0
                                have hv0 : vals = [] := List.eq_nil_of_length_eq_zero (by simpa using hvl)
                                subst hv0
                                exact ⟨_, w, run_append_zero hu hie hcaps, by simpa using hown, ⟨rfl, rfl, rfl, Nat.le_refl _, fun _ _ _ => rfl⟩, .inl rfl, _, _, rfl⟩
                              · obtain ⟨ad, rfl, hcell'⟩ := hcell.resolve_left hm0
                                obtain ⟨v', w', q1, q2, q3, q4, q5⟩ := run_append_own_at (P := P) w 0 t o.type te' inf z ie.size ie.bytes hu hinf hz hisz hib (by rw [hzs]) hpos.1 _ rn rvals hown ad m xc vals hvl hcell' hnews.one (hm1 (by omega)) (hm2 (by omega)) (Nat.zero_le _)
                                have hform : ∃ g cap, v' = .slice (some ⟨g, 0, none⟩) (rn + m) cap := by
                                  rcases q2.2 with ⟨e, hm0'⟩ | ⟨g, cap, cur, e, _⟩
                                  · omega
                                  · exact ⟨g, cap, e⟩
                                obtain ⟨g, cap, rfl⟩ := hform
                                have e1 : Value.ownBlock (.slice ra rn rc) = blk (.slice ra rn rc) := by cases ra <;> rfl
                                rw [e1] at q3 q5
                                exact ⟨_, w', q1, q2, q3, q5, _, _, rfl⟩
                            obtain ⟨v', w', q1, q2, q3, q5, b2, c2', rfl⟩ := res
                            have hrl : r < σ.length := (List.getElem?_eq_some_iff.1 hr).1
                            have hmono : ∀ (k : Nat) u, k ≠ r → σ[k]? = some u → (σ.set r (.slice b2 (rn + m) c2'))[k]? = some u := fun k u hk h => by rw [List.getElem?_set_ne (Ne.symm hk)]; exact h
                            have hin : ∀ b, blk (.slice b2 (rn + m) c2') = some b → b < w'.heap.size := by
                              intro b hb
                              exact (q2.lt b (by cases b2 <;> first | (simp [blk, Value.ownBlock] at hb; done) | simpa [blk, Value.ownBlock] using hb)).2
                            have hc'' := hc.regrow ho hr hrn (n' := rn + m) (es' := (es ++ news).map (C.kill r)) (v' := .slice b2 (rn + m) c2') q3 ⟨b2, c2', rvals ++ vals, rfl, hpos.1, q2, All2.map_left ((h4.append hnews).mono fun _ _ q => q.kill hmono)⟩ q5 hin
                            refine ⟨_, w', _, hexec _ _ (by rw [hse, hxv]; exact q1), ⟨hc'', put_ok (fun t => ?_) hM.nt o.dst ?_, put_nt hM.nt o.dst _, hM.n0, by rw [put_df]; exact hM.df⟩, fun k u hk h => hmono k u (by simpa using hk) h, ⟨q3.size, fun k hk hne => q3.block k hk fun e => hne r (by simp) _ hr e.symm⟩, fun r' hr' => ?_⟩
                            · rw [killE_get]; exact (hM.env t).kill hmono
                            · exact .c (.row (by rw [List.getElem?_set_self hrl]))
                            · obtain rfl : r' = r := by simpa using hr'
                              exact ⟨_, ho, rfl⟩
                        · cases h
                      · cases h
                    · cases h
                · cases h
            · cases h
          · cases h
        · cases h
      · cases h
  · cases h
end
end Go.Proofs.YtmkacifjegnehaaDoor.Ab
