/-
  WHAT ONE OPERATION DOES TO THE ABSTRACT STATE (part 4: slices built, lengths, bytes to a string; and all operations under one roof). No program is named.
-/
import Derived.Test.YtmkacifjegnehaaDoorAb5
import Derived.Laws.BytesArg
namespace Go.Proofs.YtmkacifjegnehaaDoor.Ab
open Go

section
variable {P : Program} {X : Ctx} {Z : Zt} {σ : List Value} {H : List O} {w : World}

/-! ### A slice built -/
def idxOk : Nat → List (Nat × V) → Bool
  | _, [] => true
  | k, p :: r => p.1 == k && idxOk (k + 1) r
def partsC (sz : Nat) : List (Nat × V) → Option (List C)
  | [] => some []
  | p :: r => match p.2.cells? with
    | none => none
    | some cs => if cs.length = sz then (match partsC sz r with
      | none => none
      | some l => some (cs ++ l)) else none
def partsD (sz : Nat) : List (Nat × V) → Option (List (List D))
  | [] => some []
  | p :: r => match p.2.cells? with
    | none => none
    | some cs => match toDs cs with
      | none => none
      | some ds => if ds.length = sz then (match partsD sz r with
        | none => none
        | some l => some (ds :: l)) else none
theorem partsC_of_D {sz : Nat} : ∀ {ps : List (Nat × V)} {xs : List (List D)}, partsD sz ps = some xs → ∃ cs, partsC sz ps = some cs ∧ toDs cs = some xs.flatten ∧ ∀ (i : Nat) (x : List D), xs[i]? = some x → x.length = sz
  | [], xs, h => by injection h with h; subst h; exact ⟨[], rfl, rfl, fun i x hx => by simp at hx⟩
  | p :: r, xs, h => by
    simp only [partsD] at h
    split at h
    · cases h
    · rename_i cs hcs
      split at h
      · cases h
      · rename_i ds hds
        split at h
        · rename_i hsz
          split at h
          · cases h
          · rename_i l hl
            injection h with h; subst h
            obtain ⟨cs', h1, h2, h3⟩ := partsC_of_D hl
            have hlen : cs.length = sz := by rw [← toDs_length hds]; exact hsz
            refine ⟨cs ++ cs', by simp only [partsC, hcs, h1]; rw [if_pos hlen], ?_, fun i x hx => ?_⟩
            · have app : ∀ (a b : List C) (da db : List D), toDs a = some da → toDs b = some db → toDs (a ++ b) = some (da ++ db) := by
                intro a
                induction a with
                | nil => intro b da db ha hb; injection ha with ha; subst ha; simpa using hb
                | cons c a ih =>
                  intro b da db ha hb
                  simp only [toDs] at ha
                  split at ha
                  · cases ha
                  · rename_i d hd
                    split at ha
                    · cases ha
                    · rename_i ds' hds'
                      injection ha with ha; subst ha
                      simp only [List.cons_append, toDs, hd, ih b ds' db hds' hb]
              simpa using app _ _ _ _ hds h2
            · cases i with
              | zero => simp at hx; subst hx; exact hsz
              | succ i => exact h3 i x (by simpa using hx)
        · cases h
theorem splice_eq {α : Type} {p q r new : List α} {off : Nat} (ho : p.length = off) (h : q.length = new.length) : splice (p ++ (q ++ r)) off new = p ++ (new ++ r) := by
  unfold splice
  subst ho
  rw [List.take_left, ← h, ← List.length_append, ← List.append_assoc p q r, List.drop_left]
theorem splice_app {α : Type} (cs : List α) (off : Nat) (a b : List α) (h : off + a.length + b.length ≤ cs.length) : splice (splice cs off a) (off + a.length) b = splice cs off (a ++ b) := by
  obtain ⟨p, q, hp, rfl⟩ : ∃ p q, p.length = off ∧ cs = p ++ q := ⟨cs.take off, cs.drop off, by simp; omega, by simp⟩
  obtain ⟨q1, q', hq1, rfl⟩ : ∃ q1 q', q1.length = a.length ∧ q = q1 ++ q' := ⟨q.take a.length, q.drop a.length, by simp at h ⊢; omega, by simp⟩
  obtain ⟨q2, r, hq2, rfl⟩ : ∃ q2 r, q2.length = b.length ∧ q' = q2 ++ r := ⟨q'.take b.length, q'.drop b.length, by simp at h ⊢; omega, by simp⟩
  rw [splice_eq hp hq1, ← List.append_assoc p a, splice_eq (by simp [hp]) hq2, ← List.append_assoc q1 q2, splice_eq hp (by simp [hq1, hq2])]
  simp
theorem fillSlots {sz : Nat} : ∀ (ps : List (Nat × V)) (pvs : List (Nat × Value)) (k : Nat) (cells : Array Value) (cs : List C), All2 (fun (p : Nat × V) (q : Nat × Value) => p.1 = q.1 ∧ VRel Z σ p.2 q.2) ps pvs → idxOk k ps = true → partsC sz ps = some cs → (k + ps.length) * sz ≤ cells.size →
    ∃ (cells' : Array Value) (new : List Value), Instr.fill (fun i => some (i * sz, sz)) cells pvs = some cells' ∧ cells'.toList = splice cells.toList (k * sz) new ∧ All2 (CRel Z σ) cs new ∧ new.length = ps.length * sz
  | [], pvs, k, cells, cs, hp, hi, hc, hle => by
    cases hp; injection hc with hc; subst hc
    exact ⟨cells, [], rfl, by simp [splice], .nil, by simp⟩
  | (i, x) :: ps, pvs, k, cells, cs, hp, hi, hc, hle => by
    cases hp with
    | cons r t =>
      rename_i q pvs
      obtain ⟨qi, qv⟩ := q
      obtain ⟨e, hv⟩ := r
      dsimp only at e hv; subst e
      simp only [idxOk, Bool.and_eq_true, beq_iff_eq] at hi
      obtain ⟨hik, hi'⟩ := hi
      simp only [partsC] at hc
      split at hc
      · cases hc
      · rename_i xc hxc
        split at hc
        · rename_i hsz
          split at hc
          · cases hc
          · rename_i l hl
            injection hc with hc; subst hc
            have hcells := hv.cells hxc
            have hlen := hcells.length
            have hs : qv.cells.size = sz := by simp at hlen; omega
            have hmul : (k + (ps.length + 1)) * sz = k * sz + sz + ps.length * sz := by rw [Nat.add_mul, Nat.add_mul]; omega
            simp only [List.length_cons] at hle
            rw [hmul] at hle
            have hpart := fill_part (k * sz) qv.cells.toList 0 cells (by simp [hs]; omega)
            have e0 : (qv.cells.zipIdx.foldl (fun (cs : Array Value) (x : Value × Nat) => cs.setIfInBounds (k * sz + x.2) x.1) cells).toList = splice cells.toList (k * sz) qv.cells.toList := by
              rw [← Array.foldl_toList, Array.toList_zipIdx]
              simpa using hpart
            have hsize : (qv.cells.zipIdx.foldl (fun (cs : Array Value) (x : Value × Nat) => cs.setIfInBounds (k * sz + x.2) x.1) cells).size = cells.size := by
              rw [← Array.length_toList, e0, splice_length (by simp [hs]; omega)]; simp
            obtain ⟨cells', new, g1, g2, g3, g4⟩ := fillSlots ps pvs (k + 1) (qv.cells.zipIdx.foldl (fun cs (c, j) => cs.setIfInBounds (k * sz + j) c) cells) l t hi' hl (by
              have e1 : (k + 1 + ps.length) * sz = k * sz + sz + ps.length * sz := by rw [Nat.add_mul, Nat.add_mul]; omega
              rw [e1]
              have hsize' : (qv.cells.zipIdx.foldl (fun (cs : Array Value) (x : Value × Nat) => match x with | (c, j) => cs.setIfInBounds (k * sz + j) c) cells).size = cells.size := hsize
              rw [hsize']; exact hle)
            refine ⟨cells', qv.cells.toList ++ new, ?_, ?_, hcells.append g3, ?_⟩
            · subst hik
              simp only [Instr.fill]
              rw [if_neg (by simp [hs]; omega)]
              exact g1
            · rw [g2]
              have e2 : (k + 1) * sz = k * sz + qv.cells.toList.length := by rw [Nat.add_mul]; simp [hs]
              rw [e2]
              have e3 : (qv.cells.zipIdx.foldl (fun (cs : Array Value) (x : Value × Nat) => match x with | (c, j) => cs.setIfInBounds (k * sz + j) c) cells).toList = splice cells.toList (k * sz) qv.cells.toList := e0
              rw [e3]
              exact splice_app _ _ _ _ (by simp [hs, g4]; omega)
            · simp [hs, g4, Nat.add_mul]; omega
        · cases hc
/-- The operation, its cells as they come out. -/
theorem buildSlice_run {T : Nat → Option TI} (hT : Tok P T) {t e n : Nat} {i ie : TI} {parts : List (Nat × V)} {pvs : Array (Nat × Value)} {cs : List C} (hi : T t = some i) (hk : i.kd = .slice e) (he : T e = some ie) (hp : All2 (fun (p : Nat × V) (q : Nat × Value) => p.1 = q.1 ∧ VRel Z σ p.2 q.2) parts pvs.toList) (h1 : idxOk 0 parts = true) (hn : parts.length = n) (h2 : partsC ie.size parts = some cs) (h3 : n * ie.size ≤ 16777216) (h4 : 0 < ie.size) :
    ∃ carr : Array Value, (Instr.buildSlice t n pvs).run P w = .ok (.slice (some ⟨w.heap.size, 0, none⟩) n n) (w.alloc (.cells carr e)) ∧ All2 (CRel Z σ) cs carr.toList ∧ carr.size = n * ie.size := by
  have hu : P.underlying t = some (.slice e) := by have := (hT _ _ hi).und; rw [hk] at this; exact this
  obtain ⟨inf, z, hinf, hsz, _, hz, hzero, hzs, _⟩ := (hT _ _ he).info
  have key : ∀ zero : Array Value, ∃ carr : Array Value, Instr.fill (fun i => some (i * ie.size, ie.size)) ((Array.range (n * ie.size)).map (zero[· % zero.size]!)) pvs.toList = some carr ∧ All2 (CRel Z σ) cs carr.toList ∧ carr.size = n * ie.size := by
    intro zero
    obtain ⟨cells', new, g1, g2, g3, g4⟩ := fillSlots (Z := Z) (σ := σ) parts pvs.toList 0 ((Array.range (n * ie.size)).map (zero[· % zero.size]!)) cs hp h1 h2 (by simp [hn])
    have g5 : cells'.toList = new := by
      rw [g2]
      unfold splice
      rw [Nat.zero_mul, Nat.zero_add, List.take_zero, List.nil_append, g4, hn, List.drop_eq_nil_of_le (by simp), List.append_nil]
    exact ⟨cells', g1, by rw [g5]; exact g3, by rw [← Array.length_toList, g5, g4, hn]⟩
  by_cases h0 : n * ie.size = 0
  · have hn0 : n = 0 := by rcases Nat.mul_eq_zero.1 h0 with q | q <;> omega
    subst hn0
    obtain rfl : parts = [] := List.eq_nil_of_length_eq_zero hn
    have hpv : pvs.toList = [] := List.eq_nil_of_length_eq_zero hp.length.symm
    injection h2 with h2; subst h2
    refine ⟨#[], ?_, .nil, by simp⟩
    simp [Instr.buildSlice, run_underlying hu, (hT _ _ he).run_sizeOf, hpv, Instr.fill, newRow]
    congr 2
    exact Array.eq_empty_of_size_eq_zero (by simp)
  · obtain ⟨carr, q1, q2, q3⟩ := key z.cells
    refine ⟨carr, ?_, q2, q3⟩
    have hgt : ¬ n * ie.size > 2 ^ 24 := by omega
    have hzv : (zeroValue e).run P w = .ok z w := by simp [zeroValue, typeInfo, hinf, hz]
    simp only [Instr.buildSlice, Sem.run_bind, run_underlying hu, Result.andThen_ok, (hT _ _ he).run_sizeOf, if_neg hgt, if_neg h0, hzv, Sem.run_pure, q1]
    simp [newRow]

theorem flatten_get {α : Type} {sz : Nat} : ∀ {xs : List (List α)} {i j : Nat} {x : List α} {d : α}, (∀ (i : Nat) (x : List α), xs[i]? = some x → x.length = sz) → xs[i]? = some x → x[j]? = some d → xs.flatten[i * sz + j]? = some d
  | [], i, j, x, d, _, hx, _ => by simp at hx
  | y :: xs, i, j, x, d, hs, hx, hd => by
    have hy := hs 0 y (by simp)
    have hj : j < x.length := (List.getElem?_eq_some_iff.1 hd).1
    cases i with
    | zero => simp at hx; subst hx; rw [List.flatten_cons, Nat.zero_mul, Nat.zero_add, List.getElem?_append_left hj]; exact hd
    | succ i =>
      rw [List.flatten_cons, List.getElem?_append_right (by rw [hy, Nat.add_mul]; omega), hy]
      have e : (i + 1) * sz + j - sz = i * sz + j := by rw [Nat.add_mul]; omega
      rw [e]
      exact flatten_get (fun i x h => hs (i + 1) x (by simpa using h)) (by simpa using hx) hd
/-- A new block of data reads as a slice. -/
theorem DRel.of_block {Z : Zt} {b : Nat} {vs : List Value} {sz n : Nat} {xs : List (List D)} (hz : ∀ i, Z.cell b i = vs[i]?) (hn : n = xs.length) (hs : ∀ (i : Nat) (x : List D), xs[i]? = some x → x.length = sz) (h : All2 (DRel Z) xs.flatten vs) (c : Nat) (hc : n ≤ c) (hcm : c ≤ maxLen) : DRel Z (.sl xs) (.slice (some ⟨b, 0, none⟩) n c) := by
  refine .sl xs _ n c b 0 sz hn hc hcm (fun _ => rfl) hs (fun i j x d hx hd => ?_) (fun i j x d v hx hd hv => ?_)
  · obtain ⟨v, hv, _⟩ := h.get (flatten_get hs hx hd)
    exact ⟨v, by rw [Nat.zero_add, hz]; exact hv⟩
  · rw [Nat.zero_add, hz] at hv
    exact h.get2 (flatten_get hs hx hd) hv

def evBuildSlice (T : Nat → Option TI) (rw : Bool) (H : List O) (t n : Nat) (ps : List (Nat × V)) : Option (V × List O) :=
  match T t with
  | some ⟨.slice e, _, _, _⟩ => match T e with
    | some ie => if idxOk 0 ps = true ∧ ps.length = n ∧ n * ie.size ≤ 16777216 ∧ 0 < ie.size then (match rw with
        | true => match partsC ie.size ps with
          | some cs => some (.c (.row H.length), H ++ [.row e ie.size n cs])
          | none => none
        | false => match partsD ie.size ps with
          | some xs => some (.c (.d (.sl xs)), H)
          | none => none) else none
    | none => none
  | _ => none
theorem buildSlice_ok {T : Nat → Option TI} (hT : Tok P T) (hc : Core X Z σ H w) {rw' : Bool} {t n : Nat} {ps : List (Nat × V)} {pvs : Array (Nat × Value)} (hp : All2 (fun (p : Nat × V) (q : Nat × Value) => p.1 = q.1 ∧ VRel Z σ p.2 q.2) ps pvs.toList) {v : V} {H' : List O} (h : evBuildSlice T rw' H t n ps = some (v, H')) :
    ∃ w' val Z' σ', (Instr.buildSlice t n pvs).run P w = .ok val w' ∧ Core X Z' σ' H' w' ∧ VRel Z' σ' v val ∧ Zle Z Z' ∧ (∀ (r : Nat) u, σ[r]? = some u → σ'[r]? = some u) ∧ Old w w' := by
  unfold evBuildSlice at h
  split at h
  · rename_i e s1 s2 s3 ht
    cases he : T e with
    | none => simp only [he] at h; cases h
    | some ie =>
      simp only [he] at h
      split at h
      · rename_i hcond
        obtain ⟨c1, c2, c3, c4⟩ := hcond
        have hnm : n ≤ maxLen := by
          have : n ≤ n * ie.size := Nat.le_mul_of_pos_right n c4
          simp only [maxLen]; omega
        cases rw' with
        | true =>
          dsimp only at h
          split at h
          · rename_i cs hcs
            injection h with h; injection h with h1 h2; subst h1 h2
            obtain ⟨carr, q1, q2, q3⟩ := buildSlice_run (w := w) hT ht rfl he hp c1 c2 hcs c3 c4
            have hb : blk (.slice (some ⟨w.heap.size, 0, none⟩) n n) = some w.heap.size := rfl
            refine ⟨_, _, Z, σ ++ [.slice (some ⟨w.heap.size, 0, none⟩) n n], q1, hc.alloc _ hb ⟨_, n, carr.toList, rfl, c4, World.ownsRow_lit w carr n (Nat.zero_le _) hnm q3, q2.mono fun _ _ r => r.monoS (fun _ _ h => get_app h)⟩, ?_, Zle.refl Z, fun r u h => get_app h, Old.alloc _ _⟩
            rw [← hc.h.len]; exact .c (.row (by simp))
          · cases h
        | false =>
          dsimp only at h
          split at h
          · rename_i xs hxs
            injection h with h; injection h with h1 h2; subst h1 h2
            obtain ⟨cs, p1, p2, p3⟩ := partsC_of_D hxs
            obtain ⟨carr, q1, q2, q3⟩ := buildSlice_run (w := w) hT ht rfl he hp c1 c2 p1 c3 c4
            have hle : Zle Z (Z.add w.heap.size carr.toList) := Zt.le_add hc.fresh.1
            have hxl : n = xs.length := by
              have : ∀ {ps : List (Nat × V)} {xs : List (List D)}, partsD ie.size ps = some xs → xs.length = ps.length := by
                intro ps
                induction ps with
                | nil => intro xs h; injection h with h; subst h; rfl
                | cons p r ih =>
                  intro xs h
                  simp only [partsD] at h
                  split at h
                  · cases h
                  · split at h
                    · cases h
                    · split at h
                      · split at h
                        · cases h
                        · rename_i hl; injection h with h; subst h; simp [ih hl]
                      · cases h
              rw [this hxs, c2]
            refine ⟨_, _, Z.add w.heap.size carr.toList, σ, q1, hc.allocZ carr e, ?_, hle, fun r u h => h, Old.alloc _ _⟩
            exact .c (.d (DRel.of_block (fun i => Zt.add_at Z _ _ i) hxl p3 ((toDs_ok q2 p2).mono fun _ _ r => r.mono hle) n (Nat.le_refl _) hnm))
          · cases h
      · cases h
  · cases h

/-! ### Lengths; bytes to a string -/
def evLen (T : Nat → Option TI) (H : List O) (t : Nat) (x : V) : Option V :=
  match T t with
  | some ⟨.str, _, _, _⟩ => match x with
    | .c (.d (.str l)) => some (.c (.d (.int .i64 l.length)))
    | _ => none
  | some ⟨.slice _, _, _, _⟩ => match x with
    | .c (.d (.sl xs)) => some (.c (.d (.int .i64 xs.length)))
    | .c .nilS => some (.c (.d (.int .i64 0)))
    | .c (.row r) => match H[r]? with
      | some (.row _ _ n _) => some (.c (.d (.int .i64 n)))
      | _ => none
    | _ => none
  | some ⟨.map _ _, _, _, _⟩ => match mapOf H x with
    | some es => some (.c (.d (.int .i64 es.length)))
    | none => none
  | _ => none
theorem len_ok {T : Nat → Option TI} (hT : Tok P T) (hc : Core X Z σ H w) {t ty : Nat} {x v : V} {xv : Value} (hx : VRel Z σ x xv) (h : evLen T H t x = some v) :
    ∃ val, (∀ w' : World, Zok Z w' → (∀ (r : Nat) u b, x = .c (.mp r) → σ[r]? = some u → blk u = some b → w'.heap[b]? = w.heap[b]?) → (Builtin.len_ #[t] ty #[xv]).run P w' = .ok val w') ∧ VRel Z σ v val := by
  unfold evLen at h
  split at h
  · rename_i s1 s2 s3 ht
    have hu : P.underlying t = some .string := (hT _ _ ht).und
    split at h
    · injection h with h; subst h
      cases hx with | c hx => cases hx with | d hx => cases hx with
      | str => exact ⟨_, fun w' _ _ => by simp [Builtin.len_, run_underlying hu, Sv, goInt, size_mk], .c (.d (.int _ _))⟩
    · cases h
  · rename_i e s1 s2 s3 ht
    have hu : P.underlying t = some (.slice e) := (hT _ _ ht).und
    split at h
    · injection h with h; subst h
      cases hx with | c hx => cases hx with | d hx => cases hx with
      | sl _ a n c b o sz hn => subst hn; exact ⟨_, fun w' _ _ => by simp [Builtin.len_, run_underlying hu, goInt], .c (.d (.int _ _))⟩
    · injection h with h; subst h
      cases hx with | c hx => cases hx with
      | nilS => exact ⟨_, fun w' _ _ => by simp [Builtin.len_, run_underlying hu, goInt], .c (.d (.int _ _))⟩
    · split at h
      · rename_i rt sz n es ho
        injection h with h; subst h
        cases hx with | c hx => cases hx with
        | row hr =>
          obtain ⟨a', c', vals, e1, _⟩ := hc.h.obj _ _ _ ho hr
          injection e1 with e1 e2 e3; subst e2
          exact ⟨_, fun w' _ _ => by simp [Builtin.len_, run_underlying hu, goInt], .c (.d (.int _ _))⟩
      · cases h
    · cases h
  · rename_i kt et s1 s2 s3 ht
    have hu : P.underlying t = some (.map kt et) := (hT _ _ ht).und
    split at h
    · rename_i es hes
      injection h with h; subst h
      rcases mapOf_ok hc hx hes with ⟨rfl, rfl⟩ | ⟨b, ents, rfl, hrel, hws⟩
      · exact ⟨_, fun w' _ _ => by simp [Builtin.len_, run_underlying hu, goInt], .c (.d (.int _ _))⟩
      · refine ⟨_, fun w' k1 k2 => by
          obtain ⟨clock, hw⟩ := hws w' k1 k2
          simp [Builtin.len_, run_underlying hu, MapKept.run_getObj_map hw, goInt]; rfl, ?_⟩
        have := hrel.length
        have e : ents.size = es.length := by rw [← Array.length_toList, ← this]
        rw [e]
        exact .c (.d (.int _ _))
    · cases h
  · cases h

def bytesOf : List C → Option (List Int)
  | [] => some []
  | .d (.int .u8 n) :: l => match bytesOf l with
    | some ns => some (n :: ns)
    | none => none
  | _ => none
theorem bytesOf_ok : ∀ {cs : List C} {vs : List Value} {ns : List Int}, All2 (CRel Z σ) cs vs → bytesOf cs = some ns → vs = ns.map (.int .u8)
  | [], vs, ns, h, hn => by cases h; injection hn with hn; subst hn; rfl
  | c :: cs, vs, ns, h, hn => by
    cases h with
    | cons r t =>
      unfold bytesOf at hn
      split at hn
      · rename_i e; cases e
      · rename_i n l e
        injection e with e1 e2; subst e1 e2
        split at hn
        · rename_i ns' hns
          injection hn with hn; subst hn
          rw [bytesOf_ok t hns]
          cases r with | d r => cases r; rfl
        · cases hn
      · cases hn
def evBytes (T : Nat → Option TI) (H : List O) (src : Nat) (x : V) : Option V :=
  match T src with
  | some ⟨.slice e, _, _, _⟩ => match T e with
    | some ⟨.int .u8, _, _, _⟩ => match x with
      | .c .nilS => some (.c (.d (.str [])))
      | .c (.row r) => match H[r]? with
        | some (.row _ _ n es) => match bytesOf es with
          | some ns => if ns.length = n then some (.c (.d (.str (ns.map fun n => UInt8.ofNat n.toNat)))) else none
          | none => none
        | _ => none
      | _ => none
    | _ => none
  | _ => none
theorem bytes_ok {T : Nat → Option TI} (hT : Tok P T) (hc : Core X Z σ H w) {src dst : Nat} {x v : V} {xv : Value} {s1 s2 : Nat} {s3 : List C} (hd : T dst = some ⟨.str, s1, s2, s3⟩) (hx : VRel Z σ x xv) (h : evBytes T H src x = some v) :
    ∃ val, (convert src dst xv).run P w = .ok val w ∧ VRel Z σ v val := by
  have hdu : P.underlying dst = some .string := (hT _ _ hd).und
  unfold evBytes at h
  split at h
  · rename_i e t1 t2 t3 ht
    have hu : P.underlying src = some (.slice e) := (hT _ _ ht).und
    split at h
    · rename_i u1 u2 u3 he
      have hue : P.underlying e = some (.int .u8) := (hT _ _ he).und
      split at h
      · injection h with h; subst h
        cases hx with | c hx => cases hx with
        | nilS => exact ⟨_, run_convert_bytes_nil w src e hu hue 0 0 dst hdu, .c (.d (.str []))⟩
      · rename_i r
        split at h
        · rename_i rt sz n es ho
          split at h
          · rename_i ns hns
            split at h
            · rename_i hl
              injection h with h; subst h
              cases hx with | c hx => cases hx with
              | row hr =>
                obtain ⟨a', c', vals, e1, h0, ⟨h2, h3⟩, h4⟩ := hc.h.obj _ _ _ ho hr
                injection e1 with e1 e2 e3; subst e1 e2 e3
                have hv := bytesOf_ok h4 hns
                rcases h3 with ⟨h3, hn0⟩ | ⟨g, cap, cur, e', hg, hh, h5, h6, h7, h8⟩
                · injection h3 with h3 h3' h3''; subst h3
                  have : ns = [] := List.eq_nil_of_length_eq_zero (by omega)
                  subst this
                  exact ⟨_, run_convert_bytes_nil w src e hu hue _ _ dst hdu, .c (.d (.str []))⟩
                · injection e' with e1 e2 e3; subst e1
                  refine ⟨_, run_convert_bytes_arg w src e hu hue g 0 _ _ ns hl (fun i hi => ?_) dst hdu, ?_⟩
                  · have : vals[i]? = some (.int .u8 (ns.getD i 0)) := by
                      rw [hv, List.getElem?_map, List.getElem?_eq_getElem (by omega)]
                      simp [List.getD_eq_getElem?_getD, List.getElem?_eq_getElem (show i < ns.length by omega)]
                    rw [← h8, List.getElem?_take] at this
                    split at this
                    · simp only [World.cell?, hh, Nat.zero_add]; simpa using this
                    · cases this
                  · exact .c (.d (.str _))
            · cases h
          · cases h
        · cases h
      · cases h
    · cases h
  · cases h
end
end Go.Proofs.YtmkacifjegnehaaDoor.Ab
