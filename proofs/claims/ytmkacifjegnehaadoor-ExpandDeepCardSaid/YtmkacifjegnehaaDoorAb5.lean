/-
  WHAT ONE OPERATION DOES TO THE ABSTRACT STATE (part 3: arithmetic, comparisons, conversions, structs, maps, new blocks). No program is named.
-/
import Derived.Test.YtmkacifjegnehaaDoorAb4
import Derived.Lib.SliceRun
import Derived.MapKept
namespace Go.Proofs.YtmkacifjegnehaaDoor.Ab
open Go Go.MapKept

section
variable {P : Program} {X : Ctx} {Z : Zt} {σ : List Value} {H : List O} {w : World}

/-! ### Arithmetic, comparisons -/
def evInt (op : BinOp) (k : IntKind) (a b : Int) : Option D :=
  match op with
  | .add => some (.int k (k.wrap (a + b)))
  | .sub => some (.int k (k.wrap (a - b)))
  | .mul => some (.int k (k.wrap (a * b)))
  | .rem => if b = 0 then none else some (.int k (a.tmod b))
  | .eql => some (.bo (a == b))
  | .neq => some (.bo (a != b))
  | .lss => some (.bo (decide (a < b)))
  | .leq => some (.bo (decide (a ≤ b)))
  | .gtr => some (.bo (decide (b < a)))
  | .geq => some (.bo (decide (b ≤ a)))
  | _ => none
def evStr (op : BinOp) (a b : List UInt8) : Option D :=
  match op with
  | .add => if a.length + b.length ≤ 4611686018427387904 then some (.str (a ++ b)) else none
  | .eql => some (.bo (a == b))
  | .neq => some (.bo (a != b))
  | _ => none
def evBo (op : BinOp) (a b : Bool) : Option D :=
  match op with
  | .eql => some (.bo (a == b))
  | .neq => some (.bo (!(a == b)))
  | _ => none
def evBin (T : Nat → Option TI) (op : BinOp) (t : Nat) (x y : V) : Option V :=
  match x with
  | .c (.d (.int k a)) => match y with
    | .c (.d (.int k' b)) => if k = k' then (evInt op k a b).map (fun d => .c (.d d)) else none
    | _ => none
  | .c (.d (.str a)) => match y with
    | .c (.d (.str b)) => (evStr op a b).map (fun d => .c (.d d))
    | _ => none
  | .c (.d (.bo a)) => match y with
    | .c (.d (.bo b)) => (match T t with
      | some ⟨.bool, _, _, _⟩ => (evBo op a b).map (fun d => .c (.d d))
      | _ => none)
    | _ => none
  | .c (.d (.sl (_ :: _))) => match y with
    | .c .nilS => match op with
      | .eql => (match T t with
        | some ⟨.slice _, _, _, _⟩ => some (.c (.d (.bo false)))
        | _ => none)
      | _ => none
    | _ => none
  | .agg [.d (.int .i64 a), .d (.int .i64 b)] => match y with
    | .agg [.d (.int .i64 a'), .d (.int .i64 b')] => match op with
      | .eql => (match T t with
        | some i => if pairKd i = true then some (.c (.d (.bo (a == a' && b == b')))) else none
        | none => none)
      | _ => none
    | _ => none
  | _ => none
theorem VRel.pair {Z : Zt} {σ : List Value} {a b : Int} {v : Value} (h : VRel Z σ (.agg [.d (.int .i64 a), .d (.int .i64 b)]) v) : v = .agg #[.int .i64 a, .int .i64 b] := by
  cases h with
  | agg h =>
    rename_i vs
    match vs, h with
    | ⟨l⟩, h => cases h with | cons r1 h => cases h with | cons r2 h => cases h; cases r1 with | d r1 => cases r1; cases r2 with | d r2 => cases r2; rfl
theorem size_mk (l : List UInt8) : (⟨l.toArray⟩ : ByteArray).size = l.length := by simp [ByteArray.size]
theorem bin_ok {T : Nat → Option TI} (hT : Tok P T) {op : BinOp} {t : Nat} {x y v : V} {xo yo : Operand} {xv yv : Value} (hx : VRel Z σ x xv) (hy : VRel Z σ y yv) (h : evBin T op t x y = some v) :
    ∃ val, (∀ w : World, (do eqGuard op t xo yo xv yv; binOp op t xv yv : Sem Value).run P w = .ok val w) ∧ VRel Z σ v val := by
  unfold evBin at h
  split at h
  · rename_i k a
    split at h
    · rename_i k' b
      split at h
      · rename_i e; subst e
        cases hx with | c hx => cases hx with | d hx => cases hx with | int => cases hy with | c hy => cases hy with | d hy => cases hy with
        | int =>
          cases hd : evInt op k a b with
          | none => rw [hd] at h; cases h
          | some d =>
            rw [hd] at h; injection h with h; subst h
            have hg : ∀ w : World, (eqGuard op t xo yo (.int k a) (.int k b)).run P w = .ok () w := by intro w; unfold eqGuard; split <;> simp
            cases op <;> simp only [evInt] at hd <;> first
              | (cases hd; done)
              | (injection hd with hd; subst hd; first | exact ⟨_, fun w => by simp [hg, binOp, Op.intArith], .c (.d (.int _ _))⟩ | exact ⟨.bool _, fun w => by simp [hg, binOp, Op.intCmp], .c (.d (.bo _))⟩)
              | (split at hd
                 · cases hd
                 · rename_i hb; injection hd with hd; subst hd; refine ⟨_, fun w => ?_, .c (.d (.int _ _))⟩; simp [hg, binOp, Op.intDiv, hb])
      · cases h
    · cases h
  · rename_i a
    split at h
    · rename_i b
      cases hx with | c hx => cases hx with | d hx => cases hx with | str => cases hy with | c hy => cases hy with | d hy => cases hy with
      | str =>
        cases hd : evStr op a b with
        | none => rw [hd] at h; cases h
        | some d =>
          rw [hd] at h; injection h with h; subst h
          have hg : ∀ w : World, (eqGuard op t xo yo (Sv a) (Sv b)).run P w = .ok () w := by intro w; unfold eqGuard Sv; split <;> simp
          cases op <;> simp only [evStr] at hd <;> first
            | (cases hd; done)
            | (split at hd
               · rename_i hle
                 injection hd with hd; subst hd
                 refine ⟨Sv (a ++ b), fun w => ?_, .c (.d (.str _))⟩
                 have e1 : ¬ (((⟨a.toArray⟩ : ByteArray).size + (⟨b.toArray⟩ : ByteArray).size : Nat) : Int) > IntKind.i64.max := by
                   rw [size_mk, size_mk]; simp [IntKind.max, IntKind.signed, IntKind.bits]; omega
                 have e2 : (⟨a.toArray⟩ : ByteArray) ++ ⟨b.toArray⟩ = ⟨(a ++ b).toArray⟩ := by
                   apply ByteArray.ext; simp
                 simp only [Sem.run_bind, hg, Result.andThen_ok]
                 simp only [binOp, Op.stringOp, Sv, if_neg e1, Sem.run_pure, e2]
               · cases hd)
            | (injection hd with hd; subst hd; refine ⟨_, fun w => ?_, .c (.d (.bo _))⟩; simp only [Sem.run_bind, hg, Result.andThen_ok]; simp [binOp, Op.stringOp, Sv, bne])
    · cases h
  · rename_i a
    split at h
    · rename_i b
      split at h
      · rename_i s1 s2 s3 ht
        have hu : P.underlying t = some .bool := (hT _ _ ht).und
        cases hx with | c hx => cases hx with | d hx => cases hx with | bo => cases hy with | c hy => cases hy with | d hy => cases hy with
        | bo =>
          cases hd : evBo op a b with
          | none => rw [hd] at h; cases h
          | some d =>
            rw [hd] at h; injection h with h; subst h
            have hg : ∀ w : World, (eqGuard op t xo yo (.bool a) (.bool b)).run P w = .ok () w := by intro w; unfold eqGuard; split <;> simp
            cases op <;> simp only [evBo] at hd <;> first
              | (cases hd; done)
              | (injection hd with hd; subst hd; refine ⟨_, fun w => ?_, .c (.d (.bo _))⟩; simp only [Sem.run_bind, hg, Result.andThen_ok]; first | exact run_eql_bool w t a b hu | exact run_neq_bool w t a b hu)
      · cases h
    · cases h
  · rename_i d0 ds
    split at h
    · split at h
      · split at h
        · rename_i e s1 s2 s3 ht
          injection h with h; subst h
          have hu : P.underlying t = some (.slice e) := (hT _ _ ht).und
          cases hx with | c hx => cases hx with | d hx => cases hx with
          | sl _ a n c b o sz hn hcap hm ha hs hz hd =>
            cases hy with | c hy => cases hy with
            | nilS =>
              have ea := ha (by simp)
              subst ea
              refine ⟨.bool false, fun w => ?_, .c (.d (.bo _))⟩
              have hg : (eqGuard .eql t xo yo (.slice (some ⟨b, o, none⟩) n c) (.slice none 0 0)).run P w = .ok () w := by unfold eqGuard; simp
              simp only [Sem.run_bind, hg, Result.andThen_ok]
              exact Lib.run_eql_slice_nil w t e (some ⟨b, o, none⟩) n c 0 0 hu
        · cases h
      · cases h
    · cases h
  · rename_i a b
    split at h
    · rename_i a' b'
      split at h
      · split at h
        · rename_i i hi
          split at h
          · rename_i hp
            injection h with h; subst h
            rw [hx.pair, hy.pair]
            exact ⟨_, fun w => (hT _ _ hi).eq2 hp xo yo a b a' b' w, .c (.d (.bo _))⟩
          · cases h
        · cases h
      · cases h
    · cases h
  · cases h

def evUn (op : UnOp) (x : V) : Option V :=
  match op with
  | .not => match x with
    | .c (.d (.bo b)) => some (.c (.d (.bo (!b))))
    | _ => none
  | .neg => match x with
    | .c (.d (.int k n)) => some (.c (.d (.int k (k.wrap (0 - n)))))
    | _ => none
  | _ => none
theorem un_ok {op : UnOp} {x v : V} {xv : Value} (hx : VRel Z σ x xv) (h : evUn op x = some v) :
    ∃ val, (∀ w : World, (Op.unary op xv).run P w = .ok val w) ∧ VRel Z σ v val := by
  unfold evUn at h
  split at h
  · split at h
    · cases hx with | c hx => cases hx with | d hx => cases hx with
      | bo => injection h with h; subst h; exact ⟨_, fun w => by simp [Op.unary], .c (.d (.bo _))⟩
    · cases h
  · split at h
    · cases hx with | c hx => cases hx with | d hx => cases hx with
      | int => injection h with h; subst h; exact ⟨_, fun w => by simp [Op.unary, Op.intArith], .c (.d (.int _ _))⟩
    · cases h
  · cases h

/-- A conversion of a whole number to another kind. -/
def evConv (T : Nat → Option TI) (dst : Nat) (x : V) : Option V :=
  match T dst with
  | some ⟨.int k, _, _, _⟩ => match x with
    | .c (.d (.int _ n)) => some (.c (.d (.int k (k.wrap n))))
    | _ => none
  | _ => none
theorem conv_ok {T : Nat → Option TI} (hT : Tok P T) {src dst : Nat} {x v : V} {xv : Value} {is : TI} (hs : T src = some is) (hx : VRel Z σ x xv) (h : evConv T dst x = some v) :
    ∃ val, (∀ w : World, (convert src dst xv).run P w = .ok val w) ∧ VRel Z σ v val := by
  unfold evConv at h
  split at h
  · rename_i k s1 s2 s3 ht
    have hu : P.underlying dst = some (.int k) := (hT _ _ ht).und
    split at h
    · cases hx with | c hx => cases hx with | d hx => cases hx with
      | int =>
        injection h with h; subst h
        have hsu : ∃ d, P.underlying src = some d := by
          have := (hT _ _ hs).und
          cases hk : is.kd <;> rw [hk] at this <;> first | exact ⟨_, this⟩ | (obtain ⟨arr, h1, _⟩ := this; exact ⟨_, h1⟩)
        obtain ⟨d, hd⟩ := hsu
        refine ⟨_, fun w => ?_, .c (.d (.int _ _))⟩
        simp only [convert, Sem.run_bind, run_underlying hd, run_underlying hu, Result.andThen_ok]
        cases d <;> simp [Conv.intToInt]
    · cases h
  · cases h

/-! ### A struct built -/
def fillC (fs : List (Nat × Nat)) (cs : List C) : List (Nat × V) → Option (List C)
  | [] => some cs
  | (i, v) :: rest => match fs[i]? with
    | none => none
    | some (off, sz) => match v.cells? with
      | none => none
      | some new => if new.length = sz ∧ off + new.length ≤ cs.length then fillC fs (splice cs off new) rest else none
theorem fill_part (off : Nat) : ∀ (new : List Value) (k : Nat) (cells : Array Value), off + k + new.length ≤ cells.size →
    ((new.zipIdx k).foldl (fun (cs : Array Value) (x : Value × Nat) => cs.setIfInBounds (off + x.2) x.1) cells).toList = splice cells.toList (off + k) new
  | [], k, cells, _ => by simp [splice]
  | v :: new, k, cells, h => by
    simp only [List.zipIdx_cons, List.foldl_cons]
    have h' : off + k + 1 + new.length ≤ cells.size := by simp at h; omega
    rw [fill_part off new (k + 1) _ (by simp; omega)]
    simp only [Array.toList_setIfInBounds, splice, List.length_cons]
    have hlt : off + k < cells.toList.length := by simp; omega
    apply List.ext_getElem?
    intro i
    have m1 : min (off + (k + 1)) cells.toList.length = off + (k + 1) := by simp; omega
    have m2 : min (off + k) cells.toList.length = off + k := by omega
    simp only [List.getElem?_append, List.getElem?_take, List.getElem?_drop, List.length_take, List.length_set, m1, m2, List.getElem?_set]
    by_cases c1 : i < off + k
    · simp [c1, show i < off + (k + 1) from by omega, show ¬ off + k = i from by omega]
    · by_cases c2 : i = off + k
      · subst c2
        simp [show off + k < off + (k + 1) from by omega]
        omega
      · obtain ⟨j, rfl⟩ : ∃ j, i = off + k + 1 + j := ⟨i - (off + k + 1), by omega⟩
        simp only [show ¬ (off + k + 1 + j < off + (k + 1)) from by omega, c1, if_false, show off + k + 1 + j - (off + (k + 1)) = j from by omega, show off + k + 1 + j - (off + k) = j + 1 from by omega, List.getElem?_cons_succ, List.length_cons]
        by_cases c3 : j < new.length
        · simp [c3]
        · simp only [c3, if_false, show ¬ (j + 1 < new.length + 1) from by omega, show ¬ (off + k = off + (k + 1) + new.length + (j - new.length)) from by omega]
          congr 1; omega
theorem fill_ok {fs : List (Nat × Nat)} : ∀ (parts : List (Nat × V)) (pvs : List (Nat × Value)) (cs : List C) (cells : Array Value) (cs' : List C), All2 (fun (p : Nat × V) (q : Nat × Value) => p.1 = q.1 ∧ VRel Z σ p.2 q.2) parts pvs → All2 (CRel Z σ) cs cells.toList → fillC fs cs parts = some cs' →
    ∃ cells', Instr.fill (fs.toArray[·]?) cells pvs = some cells' ∧ All2 (CRel Z σ) cs' cells'.toList
  | [], pvs, cs, cells, cs', hp, hc, h => by cases hp; injection h with h; subst h; exact ⟨cells, rfl, hc⟩
  | (i, x) :: parts, pvs, cs, cells, cs', hp, hc, h => by
    cases hp with
    | cons r t =>
      rename_i q pvs
      obtain ⟨qi, qv⟩ := q
      obtain ⟨e, hv⟩ := r
      dsimp only at e hv; subst e
      simp only [fillC] at h
      split at h
      · cases h
      · rename_i off sz hf
        split at h
        · cases h
        · rename_i new hnew
          split at h
          · rename_i hcond
            obtain ⟨h1, h2⟩ := hcond
            have hcells := hv.cells hnew
            have hl := hcells.length
            have hlc := hc.length
            have hsize : qv.cells.size = sz := by simp at hl; omega
            have hle : off + qv.cells.size ≤ cells.size := by simp at hlc hl; omega
            have hpart := fill_part off qv.cells.toList 0 cells (by simp; omega)
            obtain ⟨cells', g1, g2⟩ := fill_ok parts pvs (splice cs off new) (qv.cells.zipIdx.foldl (fun cs (c, j) => cs.setIfInBounds (off + j) c) cells) cs' t (by
              have e : (qv.cells.zipIdx.foldl (fun (cs : Array Value) (x : Value × Nat) => cs.setIfInBounds (off + x.2) x.1) cells).toList = splice cells.toList off qv.cells.toList := by
                rw [← Array.foldl_toList, Array.toList_zipIdx]
                simpa using hpart
              rw [e]; exact hc.splice off hcells) h
            refine ⟨cells', ?_, g2⟩
            have hf' : (fs.toArray)[i]? = some (off, sz) := by simpa using hf
            simp only [Instr.fill, hf']
            rw [if_neg (by simp [hsize]; omega)]
            exact g1
          · cases h
def evBuild (T : Nat → Option TI) (t : Nat) (parts : List (Nat × V)) : Option V :=
  match T t with
  | some ⟨.struct fs, _, _, zero⟩ => (fillC fs zero parts).map .agg
  | _ => none
theorem places_of {fs : List (Nat × Nat)} {arr : List Field} (h : All2 (fun (p : Nat × Nat) (f : Field) => f.offset = p.1 ∧ ∃ i, P.info? f.type = some i ∧ i.size = p.2) fs arr) :
    arr.mapM (fun f => (P.info? f.type).map fun i => (f.offset, i.size)) = some fs := by
  induction h with
  | nil => rfl
  | cons r _ ih => obtain ⟨e, i, hi, hs⟩ := r; simp [List.mapM_cons, hi, ih, e, hs]
theorem build_ok {T : Nat → Option TI} (hT : Tok P T) {t : Nat} {parts : List (Nat × V)} {pvs : Array (Nat × Value)} {v : V} (hp : All2 (fun (p : Nat × V) (q : Nat × Value) => p.1 = q.1 ∧ VRel Z σ p.2 q.2) parts pvs.toList) (h : evBuild T t parts = some v) :
    ∃ val, (∀ w : World, (Instr.build t pvs).run P w = .ok val w) ∧ VRel Z σ v val := by
  unfold evBuild at h
  split at h
  · rename_i fs s1 s2 zero ht
    have hti := hT _ _ ht
    obtain ⟨arr, hu, hfs⟩ := hti.und
    obtain ⟨inf, z, hinf, _, _, hz, hzero, _⟩ := hti.info
    cases hf : fillC fs zero parts with
    | none => rw [hf] at h; cases h
    | some cs =>
      rw [hf] at h; injection h with h; subst h
      obtain ⟨cells', g1, g2⟩ := fill_ok (Z := Z) (σ := σ) parts pvs.toList zero z.cells cs hp (hzero.mono fun _ _ r => r.of_noZ) hf
      refine ⟨_, fun w => run_build w t pvs cells' ?_, .agg g2⟩
      simp only [Program.built, hinf, hu, hz, places_of hfs]
      exact g1
  · cases h

/-! ### New blocks -/
def Old (w w' : World) : Prop := w.heap.size ≤ w'.heap.size ∧ ∀ k, k < w.heap.size → w'.heap[k]? = w.heap[k]?
theorem Old.alloc (w : World) (ob : Obj) : Old w (w.alloc ob) := ⟨by simp, fun k hk => Go.RowKit.Below.heap_alloc w ob k hk⟩
theorem alloc_ok {T : Nat → Option TI} (hT : Tok P T) (hc : Core X Z σ H w) {t : Nat} {i : TI} (hi : T t = some i) (old : Value) :
    ∃ w' val, (Instr.alloc t true old).run P w = .ok val w' ∧ Core X Z (σ ++ [val]) (H ++ [.box i.zero]) w' ∧ VRel Z (σ ++ [val]) (.c (.ptr H.length 0)) val ∧ Old w w' := by
  obtain ⟨inf, z, hinf, hs, _, hz, hzero, _⟩ := (hT _ _ hi).info
  refine ⟨w.alloc (.cells z.cells t), .pointer (some ⟨w.heap.size, 0, none⟩), ?_, hc.alloc _ rfl ⟨w.heap.size, z.cells, t, rfl, heap_alloc_new w _, hzero.mono fun _ _ r => r.of_noZ⟩, ?_, Old.alloc _ _⟩
  · simp [Instr.alloc, zeroValue, typeInfo, hinf, hz, newVar, newRow]
  · rw [← hc.h.len]; exact .c (.ptr (p := .pointer (some ⟨w.heap.size, 0, none⟩)) (by simp) rfl)
theorem box_ok (hc : Core X Z σ H w) (t : Nat) {x : V} {xv : Value} {cs : List C} (hx : VRel Z σ x xv) (hcs : x.cells? = some cs) :
    ∃ w' val, (Instr.box t xv).run P w = .ok val w' ∧ Core X Z (σ ++ [val]) (H ++ [.box cs]) w' ∧ VRel Z (σ ++ [val]) (.c (.ptr H.length 0)) val ∧ Old w w' := by
  refine ⟨w.alloc (.cells xv.cells t), .pointer (some ⟨w.heap.size, 0, none⟩), ?_, hc.alloc _ rfl ⟨w.heap.size, xv.cells, t, rfl, heap_alloc_new w _, (hx.cells hcs).mono fun _ _ r => r.monoS (fun _ _ h => get_app h)⟩, ?_, Old.alloc _ _⟩
  · simp [Instr.box, newVar, newRow]
  · rw [← hc.h.len]; exact .c (.ptr (p := .pointer (some ⟨w.heap.size, 0, none⟩)) (by simp) rfl)
theorem makeMap_ok (hc : Core X Z σ H w) (t : Nat) :
    ∃ w' val, (Instr.makeMap t none).run P w = .ok val w' ∧ Core X Z (σ ++ [val]) (H ++ [.mp []]) w' ∧ VRel Z (σ ++ [val]) (.c (.mp H.length)) val ∧ Old w w' := by
  refine ⟨w.alloc (.map #[] 0), .map (some w.heap.size), ?_, hc.alloc _ rfl ⟨w.heap.size, #[], 0, rfl, heap_alloc_new w _, .nil⟩, ?_, Old.alloc _ _⟩
  · simp [Instr.makeMap]
  · rw [← hc.h.len]; exact .c (.mp (by simp))

/-! ### Maps keyed by strings -/
def lookE : List (List UInt8 × Bool × List D) → List UInt8 → Option (Bool × List D)
  | [], _ => none
  | e :: es, k => if e.1 = k then some e.2 else lookE es k
def updE : List (List UInt8 × Bool × List D) → List UInt8 → Bool × List D → List (List UInt8 × Bool × List D)
  | [], k, x => [(k, x)]
  | e :: es, k, x => if e.1 = k then (k, x) :: es else e :: updE es k x
theorem Sv_inj {a b : List UInt8} (h : Sv a = Sv b) : a = b := by
  unfold Sv at h; injection h with h; injection h with h; simpa using h
theorem findNow_str {k : List UInt8} : ∀ (es : List (List UInt8 × Bool × List D)) (ents : List MapEntry) (i : Nat), MapRel Z es ents →
    (lookE es k = none ∧ Instr.findNow .string (Sv k) ents i = some none) ∨
    (∃ x m j, lookE es k = some x ∧ Instr.findNow .string (Sv k) ents i = some (some (i + j, m.val)) ∧ ents[j]? = some m ∧ m.key = Sv k ∧ Packs x.1 x.2.length m.val ∧ All2 (DRel Z) x.2 m.val.cells.toList)
  | [], _, i, h => by cases h; exact .inl ⟨rfl, rfl⟩
  | e :: es, _, i, h => by
    cases h with
    | cons r t =>
      rename_i m ents
      obtain ⟨hk, hp, hd⟩ := r
      by_cases hek : e.1 = k
      · refine .inr ⟨e.2, m, 0, by simp [lookE, hek], ?_, rfl, by rw [hk, hek], hp, hd⟩
        have : Instr.sameNow .string (Sv k) m.key = some true := by rw [hk, hek]; simp [Instr.sameNow, Sv, bytes_beq]
        simp [Instr.findNow, this]
      · have hs : Instr.sameNow .string (Sv k) m.key = some false := by
          rw [hk]
          have hne : ¬ ((⟨k.toArray⟩ : ByteArray) == ⟨e.1.toArray⟩) = true := fun h => hek (Sv_inj (by unfold Sv; rw [(bytes_beq _ _).1 h]))
          simp only [Instr.sameNow, Sv]
          simp at hne ⊢
          exact hne
        rcases findNow_str (k := k) es ents (i + 1) t with ⟨h1, h2⟩ | ⟨x, m', j, h1, h2, h3, h4⟩
        · exact .inl ⟨by simp [lookE, hek, h1], by simp [Instr.findNow, hs, h2]⟩
        · exact .inr ⟨x, m', j + 1, by simp [lookE, hek, h1], by simp [Instr.findNow, hs, h2]; omega, by simpa using h3, h4⟩
def packV (ag : Bool) (ds : List D) : V := if ag then .agg (ds.map .d) else match ds with
  | [d] => .c (.d d)
  | _ => .dead
theorem packV_ok {ag : Bool} {ds : List D} {v : Value} (hp : Packs ag ds.length v) (hd : All2 (DRel Z) ds v.cells.toList) : VRel Z σ (packV ag ds) v := by
  unfold packV Packs at *
  cases ag with
  | true =>
    simp only [if_true] at hp ⊢
    obtain ⟨cs, rfl, hcs⟩ := hp
    exact .agg (All2.map_left (hd.mono fun _ _ r => .d r))
  | false =>
    simp only [Bool.false_eq_true, if_false] at hp ⊢
    obtain ⟨h1, h2⟩ := hp
    match ds, h2, hd with
    | [d], _, hd =>
      have : v.cells = #[v] := by cases v <;> first | rfl | cases h1
      rw [this] at hd
      cases hd with | cons r _ => exact .c (.d r)
def zeroV (i : TI) : V := if i.kd.agg then .agg i.zero else match i.zero with
  | [c] => .c c
  | _ => .dead
theorem zeroV_ok {t : Nat} {i : TI} (hi : TIok P t i) : ∃ inf z, P.info? t = some inf ∧ inf.zero = some z ∧ VRel Z σ (zeroV i) z := by
  obtain ⟨inf, z, hinf, _, _, hz, hzero, _, hag⟩ := hi.info
  refine ⟨inf, z, hinf, hz, ?_⟩
  unfold zeroV
  cases ha : i.kd.agg with
  | true =>
    rw [ha] at hag
    simp only [if_true] at hag ⊢
    obtain ⟨cs, rfl⟩ := hag
    exact .agg (hzero.mono fun _ _ r => r.of_noZ)
  | false =>
    rw [ha] at hag
    simp only [Bool.false_eq_true, if_false] at hag ⊢
    have : z.cells = #[z] := by cases z <;> first | rfl | cases hag
    rw [this] at hzero
    generalize i.zero = zs at hzero
    cases hzero with | cons r t => cases t; exact .c r.of_noZ
def mapOf (H : List O) : V → Option (List (List UInt8 × Bool × List D))
  | .c (.d (.fm es)) => some es
  | .c (.mp r) => match H[r]? with
    | some (.mp es) => some es
    | _ => none
  | _ => none
def evLookup (T : Nat → Option TI) (H : List O) (t : Nat) (m k : V) : Option V :=
  match T t with
  | some ⟨.map kt et, _, _, _⟩ => match T kt with
    | some ⟨.str, _, _, _⟩ => match T et with
      | some ie => match mapOf H m with
        | some es => match k with
          | .c (.d (.str l)) => match lookE es l with
            | some x => some (.tup [packV x.1 x.2, .c (.d (.bo true))])
            | none => some (.tup [zeroV ie, .c (.d (.bo false))])
          | _ => none
        | none => none
      | none => none
    | _ => none
  | _ => none
theorem mapOf_ok (hc : Core X Z σ H w) {m : V} {mv : Value} {es : List (List UInt8 × Bool × List D)} (hm : VRel Z σ m mv) (h : mapOf H m = some es) :
    (mv = .map none ∧ es = []) ∨ ∃ b ents, mv = .map (some b) ∧ MapRel Z es ents.toList ∧ ∀ w' : World, Zok Z w' → (∀ (r : Nat) u b, m = .c (.mp r) → σ[r]? = some u → blk u = some b → w'.heap[b]? = w.heap[b]?) → ∃ clock, w'.heap[b]? = some (.map ents clock) := by
  unfold mapOf at h
  split at h
  · injection h with h; subst h
    cases hm with | c hm => cases hm with | d hm => cases hm with
    | fm0 => exact .inl ⟨rfl, rfl⟩
    | fm _ b ents hz hl hk hd =>
      refine .inr ⟨b, ents.toArray, rfl, All2.of_get (by simpa using hl) fun i e x he hx => ?_, fun w' hw' _ => hw'.mp b ents hz⟩
      have hx' : ents[i]? = some x := by simpa using hx
      obtain ⟨h1, h2⟩ := hk i e x he hx'
      refine ⟨h1, h2, All2.of_get ?_ fun j d v hd' hv => hd i e x j d v he hx' hd' (by simpa using hv)⟩
      unfold Packs at h2
      split at h2
      · obtain ⟨cs, e1, e2⟩ := h2; rw [e1]; simpa [Value.cells] using e2.symm
      · obtain ⟨e1, e2⟩ := h2
        have : x.val.cells = #[x.val] := by
          generalize x.val = v at e1
          cases v <;> first | rfl | cases e1
        rw [this, e2]; rfl
  · split at h
    · rename_i es' ho
      injection h with h; subst h
      cases hm with | c hm => cases hm with
      | mp hr =>
        obtain ⟨b, ents, clock, e1, h2, h3⟩ := hc.h.obj _ _ _ ho hr
        injection e1 with e1; injection e1 with e1; subst e1
        exact .inr ⟨_, ents, rfl, h3, fun w' _ hk => ⟨clock, by rw [hk _ _ _ rfl hr rfl]; exact h2⟩⟩
    · cases h
  · cases h
theorem lookup_ok {T : Nat → Option TI} (hT : Tok P T) (hc : Core X Z σ H w) {t : Nat} {m k v : V} {mv kv : Value} (hm : VRel Z σ m mv) (hk : VRel Z σ k kv) (h : evLookup T H t m k = some v) :
    ∃ val, (∀ w' : World, Zok Z w' → (∀ (r : Nat) u b, m = .c (.mp r) → σ[r]? = some u → blk u = some b → w'.heap[b]? = w.heap[b]?) → (Instr.lookup t mv kv true).run P w' = .ok val w') ∧ VRel Z σ v val := by
  unfold evLookup at h
  split at h
  · rename_i kt et s1 s2 s3 ht
    have hu : P.underlying t = some (.map kt et) := (hT _ _ ht).und
    split at h
    · rename_i s4 s5 s6 hkt
      have huk : P.underlying kt = some .string := (hT _ _ hkt).und
      split at h
      · rename_i ie he
        split at h
        · rename_i es hes
          split at h
          · rename_i l
            cases hk with | c hk => cases hk with | d hk => cases hk with
            | str =>
              have hkey : ∀ (w : World) (e : Bool), (Instr.checkKey e 10000 kt (Sv l)).run P w = .ok () w := fun w e => run_checkKey huk (by simp [IsKey, Sv]) e 9999
              have tup2 : ∀ (x : V) (xv : Value) (b : Bool), VRel Z σ x xv → VRel Z σ (.tup [x, .c (.d (.bo b))]) (.tuple #[xv, .bool b]) := by
                intro x xv b hx
                refine .tup (by simp) fun i y yv hy hyv => ?_
                match i, hy, hyv with
                | 0, hy, hyv => simp at hy hyv; subst hy hyv; exact hx
                | 1, hy, hyv => simp at hy hyv; subst hy hyv; exact .c (.d (.bo b))
                | i + 2, hy, hyv => simp at hy
              obtain ⟨inf, z, hinf, hz, hzv⟩ := zeroV_ok (Z := Z) (σ := σ) (hT _ _ he)
              rcases mapOf_ok hc hm hes with ⟨rfl, rfl⟩ | ⟨b, ents, rfl, hrel, hws⟩
              · simp only [lookE] at h
                injection h with h; subst h
                refine ⟨_, fun w' _ _ => ?_, tup2 _ _ _ hzv⟩
                simp [Instr.lookup, run_underlying hu, hkey, Instr.findKey, run_underlying huk, Instr.findNow, zeroValue, typeInfo, hinf, hz]
              · rcases findNow_str (k := l) es ents.toList 0 hrel with ⟨h1, h2⟩ | ⟨x, e, j, h1, h2, h3, h4, h5, h6⟩
                · simp only [h1] at h; injection h with h; subst h
                  refine ⟨_, fun w' k1 k2 => ?_, tup2 _ _ _ hzv⟩
                  obtain ⟨clock, hw⟩ := hws w' k1 k2
                  have hf := run_findKey (w := w') huk h2
                  simp [Instr.lookup, run_underlying hu, MapKept.run_getObj_map hw, hkey, hf, zeroValue, typeInfo, hinf, hz]
                · simp only [h1] at h; injection h with h; subst h
                  refine ⟨_, fun w' k1 k2 => ?_, tup2 _ _ _ (packV_ok h5 h6)⟩
                  obtain ⟨clock, hw⟩ := hws w' k1 k2
                  have hf := run_findKey (w := w') huk h2
                  simp [Instr.lookup, run_underlying hu, MapKept.run_getObj_map hw, hkey, hf]
          · cases h
        · cases h
      · cases h
    · cases h
  · cases h

/-! ### A store into a map -/
def toD : C → Option D
  | .d x => some x
  | .nilS => some (.sl [])
  | _ => none
def toDs : List C → Option (List D)
  | [] => some []
  | c :: l => match toD c with
    | none => none
    | some d => match toDs l with
      | none => none
      | some ds => some (d :: ds)
theorem toD_ok {c : C} {v : Value} {d : D} (h : CRel Z σ c v) (hd : toD c = some d) : DRel Z d v := by
  unfold toD at hd
  split at hd
  · injection hd with hd; subst hd; cases h; assumption
  · injection hd with hd; subst hd; cases h
    exact .sl [] none 0 0 0 0 0 rfl (Nat.le_refl _) (by simp [maxLen]) (fun h => absurd rfl h) (fun i x hx => by simp at hx) (fun i j x d hx => by simp at hx) (fun i j x d v hx => by simp at hx)
  · cases hd
theorem toDs_ok : ∀ {cs : List C} {vs : List Value} {ds : List D}, All2 (CRel Z σ) cs vs → toDs cs = some ds → All2 (DRel Z) ds vs
  | [], vs, ds, h, hd => by cases h; injection hd with hd; subst hd; exact .nil
  | c :: cs, vs, ds, h, hd => by
    cases h with
    | cons r t =>
      simp only [toDs] at hd
      split at hd
      · cases hd
      · rename_i d h1
        split at hd
        · cases hd
        · rename_i ds' h2
          injection hd with hd; subst hd
          exact .cons (toD_ok r h1) (toDs_ok t h2)
theorem toDs_length : ∀ {cs : List C} {ds : List D}, toDs cs = some ds → ds.length = cs.length
  | [], ds, hd => by injection hd with hd; subst hd; rfl
  | c :: cs, ds, hd => by
    simp only [toDs] at hd
    split at hd
    · cases hd
    · split at hd
      · cases hd
      · rename_i h2; injection hd with hd; subst hd; simp [toDs_length h2]
def V.isAgg : V → Bool
  | .agg _ => true
  | _ => false
def evUpdate (T : Nat → Option TI) (H : List O) (t : Nat) (m k x : V) : Option (List O) :=
  match T t with
  | some ⟨.map kt _, _, _, _⟩ => match T kt with
    | some ⟨.str, _, _, _⟩ => match m with
      | .c (.mp r) => match H[r]? with
        | some (.mp es) => match k with
          | .c (.d (.str l)) => match x.cells? with
            | some cs => match toDs cs with
              | some ds => some (H.set r (.mp (updE es l (x.isAgg, ds))))
              | none => none
            | none => none
          | _ => none
        | _ => none
      | _ => none
    | _ => none
  | _ => none
theorem updE_ok {k : List UInt8} {y : Bool × List D} {val : Value} (hp : Packs y.1 y.2.length val) (hd : All2 (DRel Z) y.2 val.cells.toList) (clock : Nat) :
    ∀ (es : List (List UInt8 × Bool × List D)) (ents : List MapEntry), MapRel Z es ents →
      (lookE es k = none → MapRel Z (updE es k y) (ents ++ [{ key := Sv k, val := val, born := clock }])) ∧
      (∀ j m, ents[j]? = some m → (∀ j', j' < j → ∀ m', ents[j']? = some m' → m'.key ≠ Sv k) → m.key = Sv k → MapRel Z (updE es k y) (ents.modify j fun e => { e with key := Sv k, val := val }))
  | [], _, h => by
    cases h
    exact ⟨fun _ => .cons ⟨rfl, hp, hd⟩ .nil, fun j m hm => by simp at hm⟩
  | e :: es, _, h => by
    cases h with
    | cons r t =>
      rename_i m ents
      obtain ⟨i1, i2⟩ := updE_ok hp hd clock es ents t
      constructor
      · intro hl
        simp only [lookE] at hl
        split at hl
        · cases hl
        · rename_i hne
          simp only [updE, if_neg hne, List.cons_append]
          exact .cons r (i1 hl)
      · intro j m' hm hbefore hkey
        cases j with
        | zero =>
          simp at hm; subst hm
          have he : e.1 = k := Sv_inj (by rw [← r.1, hkey])
          simp only [updE, if_pos he, List.modify_zero_cons]
          exact .cons ⟨rfl, hp, hd⟩ t
        | succ j =>
          have hne : ¬ e.1 = k := fun he => hbefore 0 (by omega) m (by simp) (by rw [r.1, he])
          simp only [updE, if_neg hne, List.modify_succ_cons]
          exact .cons r (i2 j m' (by simpa using hm) (fun j' hj' m'' hm'' => hbefore (j' + 1) (by omega) m'' (by simpa using hm'')) hkey)
theorem findNow_first {k : Value} {i : Nat} : ∀ (ents : List MapEntry) {j : Nat} {v : Value}, Instr.findNow .string k ents i = some (some (i + j, v)) → ∀ j', j' < j → ∀ m, ents[j']? = some m → m.key ≠ k ∨ ¬ ∃ s, k = .string s := by
  intro ents
  induction ents generalizing i with
  | nil => intro j v h; simp [Instr.findNow] at h
  | cons e ents ih =>
    intro j v h j' hj' m hm
    simp only [Instr.findNow] at h
    split at h
    · injection h with h; injection h with h; injection h with h1 h2; omega
    · rename_i hs
      cases j' with
      | zero =>
        simp at hm; subst hm
        by_cases hks : ∃ s, k = .string s
        · left
          obtain ⟨s, rfl⟩ := hks
          intro e'
          rw [e'] at hs
          simp [Instr.sameNow] at hs
          exact absurd ((bytes_beq s s).2 rfl) (by simp [hs])
        · exact .inr hks
      | succ j' =>
        have : i + j = i + 1 + (j - 1) := by omega
        rw [this] at h
        exact ih h j' (by omega) m (by simpa using hm)
    · cases h
theorem update_ok {T : Nat → Option TI} (hT : Tok P T) (hc : Core X Z σ H w) {t : Nat} {m k x : V} {mv kv xv : Value} (hm : VRel Z σ m mv) (hk : VRel Z σ k kv) (hx : VRel Z σ x xv) {H' : List O} (h : evUpdate T H t m k x = some H') :
    ∃ w', (Instr.mapUpdate t mv kv xv).run P w = .ok () w' ∧ Core X Z σ H' w' ∧ w.heap.size ≤ w'.heap.size ∧ (∀ k, k < w.heap.size → (∀ (r : Nat) u, m = .c (.mp r) → σ[r]? = some u → blk u ≠ some k) → w'.heap[k]? = w.heap[k]?) := by
  unfold evUpdate at h
  split at h
  · rename_i kt et s1 s2 s3 ht
    have hu : P.underlying t = some (.map kt et) := (hT _ _ ht).und
    split at h
    · rename_i s4 s5 s6 hkt
      have huk : P.underlying kt = some .string := (hT _ _ hkt).und
      split at h
      · rename_i r
        split at h
        · rename_i es ho
          split at h
          · rename_i l
            split at h
            · rename_i cs hcs
              split at h
              · rename_i ds hds
                injection h with h; subst h
                cases hk with | c hk => cases hk with | d hk => cases hk with
                | str =>
                cases hm with | c hm => cases hm with
                | mp hr =>
                rename_i b
                obtain ⟨b', ents, clock, e1, hw, hrel⟩ := hc.h.obj _ _ _ ho hr
                injection e1 with e1; injection e1 with e1; subst e1
                have hd : All2 (DRel Z) ds xv.cells.toList := toDs_ok (hx.cells hcs) hds
                have hp : Packs x.isAgg ds.length xv := by
                  unfold Packs
                  cases hx with
                  | c hx' => exact ⟨hx'.one, by injection hcs with hcs; subst hcs; exact toDs_length hds⟩
                  | agg hx' => injection hcs with hcs; subst hcs; exact ⟨_, rfl, by rw [toDs_length hds, hx'.length]; simp⟩
                  | tup _ _ => cases hcs
                  | dead => cases hcs
                have hkey : ∀ e : Bool, (Instr.checkKey e 10000 kt (Sv l)).run P w = .ok () w := fun e => run_checkKey huk (by simp [IsKey, Sv]) e 9999
                have wr : ∀ (ents' : Array MapEntry) (clock' : Nat), MapRel Z (updE es l (x.isAgg, ds)) ents'.toList → Core X Z σ (H.set r (.mp (updE es l (x.isAgg, ds)))) { w with heap := w.heap.setIfInBounds b (.map ents' clock') } ∧ w.heap.size ≤ (w.heap.setIfInBounds b (.map ents' clock')).size ∧ (∀ k, k < w.heap.size → (∀ (r' : Nat) u, V.c (.mp r) = .c (.mp r') → σ[r']? = some u → blk u ≠ some k) → (w.heap.setIfInBounds b (.map ents' clock'))[k]? = w.heap[k]?) := by
                  intro ents' clock' hrel'
                  obtain ⟨g1, g2⟩ := MapKept.heap_set (o' := .map ents' clock') hw
                  exact ⟨hc.write ho rfl hr rfl rfl rfl rfl (by simp) (fun k hk => g2 k hk) rfl ⟨b, ents', clock', rfl, g1, hrel'⟩, by simp, fun k _ hk => g2 k (fun e => hk _ _ rfl hr (by rw [e]; rfl))⟩
                rcases findNow_str (k := l) es ents.toList 0 hrel with ⟨h1, h2⟩ | ⟨y, e, j, h1, h2, h3, h4, h5, h6⟩
                · have hf := run_findKey (w := w) huk h2
                  refine ⟨_, ?_, wr (ents.push { key := Sv l, val := xv, born := clock }) (clock + 1) ?_⟩
                  · simp [Instr.mapUpdate, run_underlying hu, MapKept.run_getObj_map hw, hkey, hf, MapKept.run_setObj_map _ hw]
                  · have := (updE_ok (Z := Z) (k := l) (y := (x.isAgg, ds)) hp hd clock es ents.toList hrel).1 h1
                    simpa using this
                · have hf := run_findKey (w := w) huk h2
                  rw [Nat.zero_add] at hf
                  have h3' : ents[j]? = some e := by simpa using h3
                  have hbits : Instr.sameBits 10000 (Sv l) (Sv l) = true := by simp [Instr.sameBits, Sv, bytes_beq]
                  refine ⟨_, ?_, wr (ents.modify j fun e => { e with key := Sv l, val := xv }) clock ?_⟩
                  · simp [Instr.mapUpdate, run_underlying hu, MapKept.run_getObj_map hw, hkey, hf, h3', h4, Instr.keyThatStays, hbits, MapKept.run_setObj_map _ hw]
                  · have hfirst := findNow_first ents.toList h2
                    have := (updE_ok (Z := Z) (k := l) (y := (x.isAgg, ds)) hp hd clock es ents.toList hrel).2 j e h3 (fun j' hj' m' hm' => (hfirst j' hj' m' hm').resolve_right (fun q => q ⟨_, rfl⟩)) h4
                    simpa using this
              · cases h
            · cases h
          · cases h
        · cases h
      · cases h
    · cases h
  · cases h
end
end Go.Proofs.YtmkacifjegnehaaDoor.Ab
