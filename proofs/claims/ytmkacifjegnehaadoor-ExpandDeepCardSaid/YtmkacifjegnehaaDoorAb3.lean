/-
  WHAT ONE OPERATION DOES TO THE ABSTRACT STATE (part 1: loads, stores, addresses, slices): each equation proved against the model's own. No program is named.
-/
import Derived.Test.YtmkacifjegnehaaDoorAb2
namespace Go.Proofs.YtmkacifjegnehaaDoor.Ab
open Go

/-! ### The types that a program names -/
inductive Kd where
  | int (k : IntKind)
  | bool
  | str
  | slice (e : Nat)
  | struct (fs : List (Nat × Nat))
  | map (k e : Nat)
  | other
def Kd.agg : Kd → Bool
  | .struct _ => true
  | _ => false
structure TI where
  kd : Kd
  size : Nat
  bytes : Nat
  zero : List C
def UndOk (P : Program) (t : TypeId) : Kd → Prop
  | .int k => P.underlying t = some (.int k)
  | .bool => P.underlying t = some .bool
  | .str => P.underlying t = some .string
  | .slice e => P.underlying t = some (.slice e)
  | .struct fs => ∃ arr : Array Field, P.underlying t = some (.struct arr) ∧ All2 (fun (p : Nat × Nat) (f : Field) => f.offset = p.1 ∧ ∃ i, P.info? f.type = some i ∧ i.size = p.2) fs arr.toList
  | .map k e => P.underlying t = some (.map k e)
  | .other => ∃ d, P.underlying t = some d ∧ (match d with | .struct _ | .array _ _ => true | _ => false) = false
def noZ : Zt := ⟨fun _ _ => none, fun _ => none⟩
/-- A struct of two whole numbers. -/
def pairKd (i : TI) : Bool := i.kd.agg && (match i.zero with
  | [.d (.int .i64 _), .d (.int .i64 _)] => true
  | _ => false)
def EqFact (P : Program) (t : TypeId) : Prop := ∀ (xo yo : Operand) (a b a' b' : Int) (w : World), (do eqGuard .eql t xo yo (.agg #[.int .i64 a, .int .i64 b]) (.agg #[.int .i64 a', .int .i64 b']); binOp .eql t (.agg #[.int .i64 a, .int .i64 b]) (.agg #[.int .i64 a', .int .i64 b']) : Sem Value).run P w = .ok (.bool (a == a' && b == b')) w
structure TIok (P : Program) (t : TypeId) (i : TI) : Prop where
  und : UndOk P t i.kd
  info : ∃ inf z, P.info? t = some inf ∧ inf.size = i.size ∧ inf.bytes = i.bytes ∧ inf.zero = some z ∧ All2 (CRel noZ []) i.zero z.cells.toList ∧ z.cells.size = i.size ∧ (if i.kd.agg then ∃ cs, z = .agg cs else z.oneCell' = true)
  eq2 : pairKd i = true → EqFact P t
def Tok (P : Program) (T : Nat → Option TI) : Prop := ∀ t i, T t = some i → TIok P t i
theorem noZ_le (Z : Zt) : Zle noZ Z := ⟨fun _ _ _ h => (by cases h), fun _ _ h => (by cases h)⟩

section
variable {P : Program} {X : Ctx} {Z : Zt} {σ : List Value} {H : List O} {w : World}

theorem CRel.of_noZ {c : C} {v : Value} (h : CRel noZ [] c v) : CRel Z σ c v := (h.monoZ (noZ_le Z)).monoS (fun _ _ h => by simp at h)
theorem TIok.run_sizeOf {t : TypeId} {i : TI} (h : TIok P t i) (w : World) : (sizeOf t).run P w = .ok i.size w := by
  obtain ⟨inf, z, h1, h2, _⟩ := h.info
  simp [sizeOf, typeInfo, h1, h2]
theorem TIok.run_isAgg {t : TypeId} {i : TI} (h : TIok P t i) (w : World) : (isAgg t).run P w = .ok i.kd.agg w := by
  have hu := h.und
  cases hk : i.kd with
  | struct fs => rw [hk] at hu; obtain ⟨arr, hu, _⟩ := hu; simp [isAgg, run_underlying hu, Kd.agg]
  | other =>
    rw [hk] at hu; obtain ⟨d, hu, hd⟩ := hu
    simp only [isAgg, Sem.run_bind, run_underlying hu, Result.andThen_ok, Kd.agg]
    cases d <;> first | rfl | (simp at hd)
  | _ => rw [hk] at hu; simp only [UndOk] at hu; simp [isAgg, run_underlying hu, Kd.agg]
theorem add_plain (g j k : Nat) : (⟨g, j, none⟩ : Addr).add k = ⟨g, j + k, none⟩ := by
  unfold Addr.add; split
  · rename_i h; subst h; rfl
  · rfl

/-! ### An object's cells -/
def O.cells? : O → Option (List C)
  | .box cs => some cs
  | .row _ _ _ es => some es
  | _ => none
def O.withCells (o : O) (cs : List C) : O := match o with
  | .box _ => .box cs
  | .row t sz n _ => .row t sz n cs
  | o => o
theorem Core.cells (hc : Core X Z σ H w) {r b : Nat} {o : O} {v : Value} {es : List C} (hr : H[r]? = some o) (hes : o.cells? = some es) (hv : σ[r]? = some v) (hb : blk v = some b) :
    ∃ (carr : Array Value) (t : TypeId), w.heap[b]? = some (.cells carr t (0, 0)) ∧ All2 (CRel Z σ) es (carr.toList.take es.length) := by
  have ho := hc.h.obj r o v hr hv
  cases o with
  | box cs =>
    injection hes with hes; subst hes
    obtain ⟨b', carr, t, rfl, h2, h3⟩ := ho
    injection hb with hb; subst hb
    refine ⟨carr, t, h2, ?_⟩
    rw [List.take_of_length_le (by rw [h3.length]; exact Nat.le_refl _)]
    exact h3
  | row t sz n cs =>
    injection hes with hes; subst hes
    obtain ⟨a, c, vals, rfl, h0, ⟨h2, h3⟩, h4⟩ := ho
    rcases h3 with ⟨h3, _⟩ | ⟨g, cap, cur, e, hg, hh, h5, h6, h7, h8⟩
    · injection h3 with h3; subst h3; cases hb
    · injection e with e1 e2 e3; subst e1; injection hb with hb; subst hb
      refine ⟨cur, t, hh, ?_⟩
      rw [h4.length, h2, h8]; exact h4
  | mp es => cases hes
  | dead => cases hes

def evCut (i : TI) (cs : List C) (off : Nat) : Option V :=
  if i.kd.agg = true then (if off + i.size ≤ cs.length then some (.agg ((cs.drop off).take i.size)) else none)
  else match cs[off]? with
    | some c => some (.c c)
    | none => none
def evLoad (T : Nat → Option TI) (H : List O) (t : Nat) (p : V) : Option V :=
  match T t with
  | none => none
  | some i => match p with
    | .c (.ptr r off) => match H[r]? with
      | some (.box cs) => evCut i cs off
      | some (.row _ _ _ es) => evCut i es off
      | _ => none
    | .c (.cptr ds) => evCut i (ds.map .d) 0
    | _ => none

theorem run_loadVar_of {t : TypeId} {i : TI} (hi : TIok P t i) {b off : Nat} {cs : List C} {vs : List Value} {v : V} (hcut : evCut i cs off = some v)
    (hrel : All2 (CRel Z σ) cs vs) (o0 : Nat) :
    ∃ val, (∀ w : World, (∀ (j : Nat) u, vs[j]? = some u → w.cell? ⟨b, o0 + j, none⟩ = some u) → (loadVar t ⟨b, o0 + off, none⟩).run P w = .ok val w) ∧ VRel Z σ v val := by
  unfold evCut at hcut
  cases ha : i.kd.agg with
  | true =>
    rw [ha, if_pos rfl] at hcut
    split at hcut
    · rename_i hle
      injection hcut with hcut; subst hcut
      have hlen := hrel.length
      have hl : ((vs.drop off).take i.size).length = i.size := by rw [List.length_take, List.length_drop]; omega
      have hr := fun (w : World) (hcell : ∀ (j : Nat) u, vs[j]? = some u → w.cell? ⟨b, o0 + j, none⟩ = some u) => run_loadCells_list (P := P) w ⟨b, o0 + off, none⟩ ((vs.drop off).take i.size) (fun j u hu => by
        rw [List.getElem?_take] at hu
        split at hu
        · rw [List.getElem?_drop] at hu
          rw [add_plain, Nat.add_assoc]; exact hcell _ u hu
        · cases hu)
      rw [hl] at hr
      refine ⟨_, fun w hcell => ?_, .agg (vs := ((vs.drop off).take i.size).toArray) (by simpa using (hrel.drop off).take i.size)⟩
      simp [loadVar, hi.run_isAgg, hi.run_sizeOf, ha, hr w hcell]
    · cases hcut
  | false =>
    rw [ha, if_neg (by simp)] at hcut
    cases hg : cs[off]? with
    | none => rw [hg] at hcut; cases hcut
    | some c =>
      rw [hg] at hcut; injection hcut with hcut; subst hcut
      obtain ⟨u, hu, hcu⟩ := hrel.get hg
      refine ⟨u, fun w hcell => ?_, .c hcu⟩
      simp [loadVar, hi.run_isAgg, ha, hcell off u hu]

theorem load_ok {T : Nat → Option TI} (hT : Tok P T) (hc : Core X Z σ H w) {t : Nat} {p v : V} {pv : Value} (hp : VRel Z σ p pv) (h : evLoad T H t p = some v) :
    ∃ val, (∀ w' : World, Zok Z w' → (∀ (r off : Nat) u b, p = .c (.ptr r off) → σ[r]? = some u → blk u = some b → w'.heap[b]? = w.heap[b]?) → (Instr.loadAt t pv).run P w' = .ok val w') ∧ VRel Z σ v val := by
  unfold evLoad at h
  cases hi : T t with
  | none => simp only [hi] at h; cases h
  | some i =>
    simp only [hi] at h
    have hti := hT t i hi
    cases hp with
    | agg _ => cases h
    | tup _ _ => cases h
    | dead => cases h
    | c hp =>
      cases hp with
      | ptr hs hb =>
        rename_i r off b sv
        have key : ∀ es o, H[r]? = some o → o.cells? = some es → evCut i es off = some v → ∃ val, (∀ w' : World, Zok Z w' → (∀ (r' off' : Nat) u b', V.c (.ptr r off) = .c (.ptr r' off') → σ[r']? = some u → blk u = some b' → w'.heap[b']? = w.heap[b']?) → (Instr.loadAt t (.pointer (some ⟨b, off, none⟩))).run P w' = .ok val w') ∧ VRel Z σ v val := by
          intro es o ho hes hcut
          obtain ⟨carr, ct, hh, hrel⟩ := hc.cells ho hes hs hb
          obtain ⟨val, h1, h2⟩ := run_loadVar_of (P := P) (b := b) hti hcut hrel 0
          refine ⟨val, fun w' _ hk => ?_, h2⟩
          have h1' := h1 w' (fun j u hu => by
            rw [List.getElem?_take] at hu
            split at hu
            · simp only [World.cell?, hk _ _ _ _ rfl hs hb, hh, Nat.zero_add]; simpa using hu
            · cases hu)
          rw [Nat.zero_add] at h1'
          simp [Instr.loadAt, Instr.sureAddr, h1']
        dsimp only at h
        split at h
        · rename_i cs ho; exact key cs _ ho rfl h
        · rename_i t' sz n es ho; exact key es _ ho rfl h
        · cases h
      | cptr hz =>
        rename_i ds b o
        dsimp only at h
        have hex : ∀ (n : Nat) (l : List D) (o : Nat), l.length = n → (∀ (j : Nat) d, l[j]? = some d → ∃ v, Z.cell b (o + j) = some v ∧ DRel Z d v) → ∃ vs : List Value, All2 (DRel Z) l vs ∧ ∀ (j : Nat) u, vs[j]? = some u → Z.cell b (o + j) = some u := by
          intro n
          induction n with
          | zero => intro l o hl _; obtain rfl : l = [] := List.eq_nil_of_length_eq_zero hl; exact ⟨[], .nil, fun j u hu => by simp at hu⟩
          | succ n ih =>
            intro l o hl h
            cases l with
            | nil => simp at hl
            | cons d l =>
              obtain ⟨u, hu, hd⟩ := h 0 d (by simp)
              obtain ⟨vs, h1, h2⟩ := ih l (o + 1) (by simpa using hl) (fun j d' hd' => by
                have := h (j + 1) d' (by simpa using hd')
                rwa [show o + 1 + j = o + (j + 1) from by omega])
              refine ⟨u :: vs, .cons hd h1, fun j x hx => ?_⟩
              cases j with
              | zero => simp at hx; subst hx; exact hu
              | succ j =>
                have := h2 j x (by simpa using hx)
                rwa [show o + (j + 1) = o + 1 + j from by omega]
        obtain ⟨vs, hrel, hcells⟩ := hex _ ds o rfl hz
        obtain ⟨val, h1, h2⟩ := run_loadVar_of (P := P) (Z := Z) (σ := σ) (b := b) hti h (All2.map_left (hrel.mono fun _ _ r => CRel.d r)) o
        rw [Nat.add_zero] at h1
        refine ⟨val, fun w' hz' _ => ?_, h2⟩
        simp [Instr.loadAt, Instr.sureAddr, h1 w' (fun j u hu => hz'.cell _ _ _ (hcells j u hu))]
      | d hd => cases hd <;> cases h
      | _ => cases h

/-! ### A store -/
def splice {α : Type} (cs : List α) (off : Nat) (new : List α) : List α := cs.take off ++ (new ++ cs.drop (off + new.length))
theorem splice_length {α : Type} {cs : List α} {off : Nat} {new : List α} (h : off + new.length ≤ cs.length) : (splice cs off new).length = cs.length := by
  simp [splice]; omega
theorem All2.splice {α β : Type} {R : α → β → Prop} {l : List α} {m : List β} {x : List α} {y : List β} (h : All2 R l m) (off : Nat) (k : All2 R x y) : All2 R (splice l off x) (splice m off y) := by
  unfold Ab.splice
  rw [k.length]
  exact (h.take off).append (k.append (h.drop _))
theorem take_splice {α : Type} {cs : List α} {off n : Nat} {new : List α} (h : off + new.length ≤ n) (hn : n ≤ cs.length) : (splice cs off new).take n = splice (cs.take n) off new := by
  unfold splice
  apply List.ext_getElem?
  intro i
  have m1 : min off cs.length = off := by omega
  have m2 : min off (min n cs.length) = off := by omega
  simp only [List.getElem?_take, List.getElem?_append, List.getElem?_drop, List.length_take, m1, m2]
  by_cases h1 : i < n
  · rw [if_pos h1]
    by_cases h2 : i < off
    · simp [h2, h1]
    · simp only [h2, if_false]
      by_cases h3 : i - off < new.length
      · simp [h3]
      · rw [if_neg h3, if_neg h3, if_pos (by omega)]
  · rw [if_neg h1, if_neg (by omega), if_neg (by omega), if_neg (by omega)]
def V.cells? : V → Option (List C)
  | .c x => some [x]
  | .agg cs => some cs
  | _ => none
theorem VRel.cells {x : V} {v : Value} {cs : List C} (h : VRel Z σ x v) (hx : x.cells? = some cs) : All2 (CRel Z σ) cs v.cells.toList := by
  cases h with
  | c h =>
    injection hx with hx; subst hx
    have h1 := h.one
    have : v.cells = #[v] := by cases v <;> first | rfl | cases h1
    rw [this]; exact .cons h .nil
  | agg h => injection hx with hx; subst hx; exact h
  | tup _ _ => cases hx
  | dead => cases hx
theorem All2.one {cs : List C} {vs : List Value} (h : All2 (CRel Z σ) cs vs) : ∀ u ∈ vs, u.oneCell' = true := by
  induction h with
  | nil => simp
  | cons r _ ih => intro u hu; rcases List.mem_cons.1 hu with rfl | hu; exact r.one; exact ih u hu
def evStore (T : Nat → Option TI) (H : List O) (t : Nat) (p x : V) : Option (List O) :=
  match T t with
  | none => none
  | some i => match x.cells? with
    | none => none
    | some cs => match p with
      | .c (.ptr r off) => if cs.length = i.size then (match H[r]? with
          | some (.box old) => if off + cs.length ≤ old.length then some (H.set r (.box (splice old off cs))) else none
          | some (.row t sz n old) => if off + cs.length ≤ old.length then some (H.set r (.row t sz n (splice old off cs))) else none
          | _ => none) else none
      | _ => none
theorem store_ok {T : Nat → Option TI} (hT : Tok P T) (hc : Core X Z σ H w) {t : Nat} {p x : V} {pv xv : Value} (hp : VRel Z σ p pv) (hx : VRel Z σ x xv) {H' : List O} (h : evStore T H t p x = some H') :
    ∃ w', (Instr.storeAt t pv xv).run P w = .ok () w' ∧ Core X Z σ H' w' ∧ w.heap.size ≤ w'.heap.size ∧ (∀ k, k < w.heap.size → (∀ (r off : Nat) u, p = .c (.ptr r off) → σ[r]? = some u → blk u ≠ some k) → w'.heap[k]? = w.heap[k]?) := by
  unfold evStore at h
  cases hi : T t with
  | none => simp only [hi] at h; cases h
  | some i =>
    simp only [hi] at h
    have hti := hT t i hi
    cases hcs : x.cells? with
    | none => simp only [hcs] at h; cases h
    | some cs =>
      simp only [hcs] at h
      have hcells := hx.cells hcs
      cases hp with
      | agg _ => cases h
      | tup _ _ => cases h
      | dead => cases h
      | c hp =>
        cases hp with
        | ptr hs hb =>
          rename_i r off b sv
          · dsimp only at h
            split at h
            · rename_i hsz
              have hsz' : xv.cells.size = i.size := by rw [← hsz, hcells.length]; simp
              have run : ∀ (carr : Array Value) (ct : TypeId), w.heap[b]? = some (.cells carr ct (0, 0)) → off + cs.length ≤ carr.size → (Instr.storeAt t (.pointer (some ⟨b, off, none⟩)) xv).run P w = .ok () (w.setRow b (splice carr.toList off xv.cells.toList).toArray) := by
                intro carr ct hh hle
                have hr := run_storeCells_at (P := P) b off ct xv.cells.toList 0 carr w hh (by have := hcells.length; simp at this ⊢; omega) hcells.one
                simp [Instr.storeAt, Instr.sureAddr, storeVar, hti.run_sizeOf, hsz', hr, splice]
              have hset : ∀ (carr : Array Value), (w.setRow b carr).os = w.os ∧ (w.setRow b carr).tape = w.tape ∧ (w.setRow b carr).output = w.output ∧ (w.setRow b carr).heap.size = w.heap.size ∧ ∀ k, k ≠ b → (w.setRow b carr).heap[k]? = w.heap[k]? := fun carr => ⟨rfl, rfl, rfl, by simp, fun k hk => setRow_other w b k carr hk⟩
              split at h
              · rename_i old ho
                split at h
                · rename_i hle
                  injection h with h; subst h
                  obtain ⟨b', carr, ct, e1, hh, hrel⟩ := hc.h.obj r _ sv ho hs
                  subst e1; injection hb with hb; subst hb
                  refine ⟨_, run carr ct hh (by have := hrel.length; simp at this; omega), ?_⟩
                  obtain ⟨q1, q2, q3, q4, q5⟩ := hset (splice carr.toList off xv.cells.toList).toArray
                  exact ⟨hc.write ho rfl hs rfl q1 q2 q3 q4 q5 rfl ⟨b', _, ct, rfl, setRow_heap w b' carr _ ct _ hh, by simpa using hrel.splice off hcells⟩, by simp, fun k _ hk => q5 k (fun e => hk _ _ _ rfl hs (by rw [e]; rfl))⟩
                · cases h
              · rename_i rt rsz rn old ho
                split at h
                · rename_i hle
                  injection h with h; subst h
                  obtain ⟨a, c, vals, e1, h0, ⟨h2, h3⟩, h4⟩ := hc.h.obj r _ sv ho hs
                  subst e1
                  rcases h3 with ⟨h3, _⟩ | ⟨g, cap, cur, e, hg, hh, h5, h6, h7, h8⟩
                  · injection h3 with h3; subst h3; cases hb
                  · injection e with e1 e2 e3; subst e1; injection hb with hb; subst hb
                    have hl1 := h4.length
                    have hl2 : rn * rsz ≤ cur.size := by rw [h7]; exact Nat.mul_le_mul_right _ h5
                    have hxl : xv.cells.toList.length = cs.length := hcells.length.symm
                    refine ⟨_, run cur rt hh (by omega), ?_⟩
                    obtain ⟨q1, q2, q3, q4, q5⟩ := hset (splice cur.toList off xv.cells.toList).toArray
                    refine ⟨?_, by simp, fun k _ hk => q5 k (fun e => hk _ _ _ rfl hs (by rw [e]; rfl))⟩
                    refine hc.write ho rfl hs rfl q1 q2 q3 q4 q5 rfl ⟨_, c, splice vals off xv.cells.toList, rfl, h0, ⟨by rw [splice_length (by omega)]; exact h2, .inr ⟨g, cap, _, by rw [e3], hg, setRow_heap w g cur _ rt _ hh, h5, h6, ?_, ?_⟩⟩, h4.splice off hcells⟩
                    · simp only [List.size_toArray]; rw [splice_length (by simp; omega)]; simpa using h7
                    · show (splice cur.toList off xv.cells.toList).take (rn * rsz) = _
                      rw [take_splice (by omega) (by simpa using hl2), h8]
                · cases h
              · cases h
            · cases h
        | d hd => cases hd <;> cases h
        | _ => cases h
end
end Go.Proofs.YtmkacifjegnehaaDoor.Ab
