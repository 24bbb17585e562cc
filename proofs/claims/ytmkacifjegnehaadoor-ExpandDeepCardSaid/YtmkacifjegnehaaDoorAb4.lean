/-
  WHAT ONE OPERATION DOES TO THE ABSTRACT STATE (part 2: addresses, slices, strings, arithmetic, lookups: what leaves the world alone). No program is named.
-/
import Derived.Test.YtmkacifjegnehaaDoorAb3
namespace Go.Proofs.YtmkacifjegnehaaDoor.Ab
open Go

section
variable {P : Program} {X : Ctx} {Z : Zt} {σ : List Value} {H : List O} {w : World}

/-! ### Addresses -/
def evField (T : Nat → Option TI) (s f : Nat) (p : V) : Option V :=
  match T s with
  | some ⟨.struct fs, _, _, _⟩ => match fs[f]? with
    | some (o, sz) => if sz = 0 then none else (match p with
      | .c (.ptr r off) => some (.c (.ptr r (off + o)))
      | .c (.cptr ds) => some (.c (.cptr (ds.drop o)))
      | _ => none)
    | none => none
  | _ => none
theorem field_ok {T : Nat → Option TI} (hT : Tok P T) {s f : Nat} {p v : V} {pv : Value} (hp : VRel Z σ p pv) (h : evField T s f p = some v) :
    ∃ val, (∀ w : World, (Instr.fieldAt s pv f).run P w = .ok val w) ∧ VRel Z σ v val := by
  unfold evField at h
  split at h
  · rename_i fs size bytes zero hi
    have hti := hT _ _ hi
    obtain ⟨arr, hu, hfs⟩ := hti.und
    split at h
    · rename_i o sz hf
      obtain ⟨fld, hfld, ho, inf, hinf, hsz⟩ := hfs.get hf
      dsimp only at ho hsz
      split at h
      · cases h
      · rename_i hne
        have hfld' : arr[f]? = some fld := by simpa using hfld
        have run : ∀ (w : World) (a : Addr), (Instr.fieldAt s (.pointer (some a)) f).run P w = .ok (.pointer (some (a.add o))) w := by
          intro w a
          simp [Instr.fieldAt, run_underlying hu, hfld', Instr.sureAddr, fieldPlace, sizeOf, typeInfo, hinf, hsz, hne, ho]
        cases hp with
        | c hp =>
          cases hp with
          | ptr hs hb =>
            injection h with h; subst h
            refine ⟨_, fun w => run w _, ?_⟩
            rw [add_plain]; exact .c (.ptr hs hb)
          | cptr hz =>
            rename_i ds b off
            injection h with h; subst h
            refine ⟨_, fun w => run w _, ?_⟩
            rw [add_plain]
            refine .c (.cptr fun j d hd => ?_)
            rw [List.getElem?_drop] at hd
            rw [Nat.add_assoc]; exact hz _ d hd
          | d hd => cases hd <;> cases h
          | _ => cases h
        | _ => cases h
    · cases h
  · cases h

def evIdx (T : Nat → Option TI) (H : List O) (t : Nat) (x i : V) : Option V :=
  match T t with
  | some ⟨.slice e, _, _, _⟩ => match T e with
    | some ie => match i with
      | .c (.d (.int _ n)) => match x with
        | .c (.d (.sl xs)) => if 0 ≤ n then (match xs[n.toNat]? with
            | some ds => if ds.length = ie.size then some (.c (.cptr ds)) else none
            | none => none) else none
        | .c (.row r) => match H[r]? with
          | some (.row _ sz k _) => if 0 ≤ n ∧ n < k ∧ sz = ie.size then some (.c (.ptr r (n.toNat * sz))) else none
          | _ => none
        | _ => none
      | _ => none
    | none => none
  | _ => none
theorem idx_ok {T : Nat → Option TI} (hT : Tok P T) (hc : Core X Z σ H w) {t : Nat} {x i v : V} {xv iv : Value} (hx : VRel Z σ x xv) (hi : VRel Z σ i iv) (h : evIdx T H t x i = some v) :
    ∃ val, (∀ w : World, (Instr.indexAt t xv iv).run P w = .ok val w) ∧ VRel Z σ v val := by
  unfold evIdx at h
  split at h
  · rename_i e s1 s2 s3 ht
    have hu : P.underlying t = some (.slice e) := (hT _ _ ht).und
    cases he : T e with
    | none => simp only [he] at h; cases h
    | some ie =>
      simp only [he] at h
      have hie := hT _ _ he
      split at h
      · rename_i k n
        cases hi with
        | c hi => cases hi with
          | d hd => cases hd with
            | int =>
              have run : ∀ (w : World) (a : Addr) (len cap : Nat), 0 ≤ n → n < len → (Instr.indexAt t (.slice (some a) len cap) (.int k n)).run P w = .ok (.pointer (some (a.add (n.toNat * ie.size)))) w := by
                intro w a len cap h0 h1
                simp [Instr.indexAt, asIntOf, run_underlying hu, h0, h1, hie.run_sizeOf]
              split at h
              · rename_i xs
                split at h
                · rename_i h0
                  split at h
                  · rename_i ds hds
                    split at h
                    · rename_i hsz
                      injection h with h; subst h
                      cases hx with
                      | c hx => cases hx with
                        | d hx => cases hx with
                          | sl _ a len c b o sz hn hcap hm ha hs hz hd =>
                            have hlt : n.toNat < xs.length := (List.getElem?_eq_some_iff.1 hds).1
                            have hne : xs ≠ [] := by rintro rfl; simp at hlt
                            have ea := ha hne
                            subst ea
                            have hsz' := hs _ _ hds
                            refine ⟨_, fun w => run w _ _ _ h0 (by rw [hn]; omega), ?_⟩
                            rw [add_plain]
                            refine .c (.cptr fun j d hj => ?_)
                            obtain ⟨v, hv⟩ := hz _ _ _ _ hds hj
                            rw [← hsz, hsz']
                            exact ⟨v, hv, hd _ _ _ _ _ hds hj hv⟩
                    · cases h
                  · cases h
                · cases h
              · rename_i r
                split at h
                · rename_i rt sz kk es ho
                  split at h
                  · rename_i hcond
                    obtain ⟨h0, h1, hsz⟩ := hcond
                    injection h with h; subst h
                    cases hx with
                    | c hx => cases hx with
                      | row hr =>
                        rename_i a len c
                        obtain ⟨a', c', vals, e1, hp0, ⟨h2, h3⟩, h4⟩ := hc.h.obj _ _ _ ho hr
                        injection e1 with e1 e2 e3; subst e1 e2 e3
                        rcases h3 with ⟨h3, _⟩ | ⟨g, cap, cur, e, hg, hh, h5, _⟩
                        · injection h3 with h3 h3' h3''; omega
                        · injection e with e1 e2 e3; subst e1
                          refine ⟨_, fun w => run w _ _ _ h0 (by omega), ?_⟩
                          rw [add_plain, Nat.zero_add, ← hsz]
                          exact .c (.ptr hr rfl)
                  · cases h
                · cases h
              · cases h
      · cases h
  · cases h

def evAt (T : Nat → Option TI) (t : Nat) (x i : V) : Option V :=
  match T t with
  | some ⟨.str, _, _, _⟩ => match x, i with
    | .c (.d (.str l)), .c (.d (.int _ n)) => if 0 ≤ n then (match l[n.toNat]? with
        | some b => some (.c (.d (.int .u8 b.toNat)))
        | none => none) else none
    | _, _ => none
  | _ => none
theorem at_ok {T : Nat → Option TI} (hT : Tok P T) {t : Nat} {x i v : V} {xv iv : Value} (hx : VRel Z σ x xv) (hi : VRel Z σ i iv) (h : evAt T t x i = some v) :
    ∃ val, (∀ w : World, (Instr.index t xv iv).run P w = .ok val w) ∧ VRel Z σ v val := by
  unfold evAt at h
  split at h
  · rename_i s1 s2 s3 ht
    have hu : P.underlying t = some .string := (hT _ _ ht).und
    split at h
    · rename_i l k n
      cases hi with
      | c hi => cases hi with
        | d hd => cases hd with
          | int =>
            cases hx with
            | c hx => cases hx with
              | d hx => cases hx with
                | str =>
                  split at h
                  · rename_i h0
                    split at h
                    · rename_i b hb
                      injection h with h; subst h
                      have hlt : n.toNat < l.length := (List.getElem?_eq_some_iff.1 hb).1
                      have hb' : (⟨l.toArray⟩ : ByteArray)[n.toNat]? = some b := by
                        have : (⟨l.toArray⟩ : ByteArray).size = l.length := by simp [ByteArray.size]
                        rw [getElem?_pos _ _ (by rw [this]; exact hlt)]
                        have := (List.getElem?_eq_some_iff.1 hb).2
                        simpa [ByteArray.getElem_eq_getElem_data] using this
                      refine ⟨_, fun w => ?_, .c (.d (.int .u8 b.toNat))⟩
                      simp [Instr.index, asIntOf, run_underlying hu, Sv, h0, hb']
                    · cases h
                  · cases h
    · cases h
  · cases h

/-! ### Slices of strings and of slices -/
def evLo : Option V → Option Nat
  | none => some 0
  | some (.c (.d (.int _ n))) => if 0 ≤ n then some n.toNat else none
  | _ => none
def evHi (len : Nat) : Option V → Option Nat
  | none => some len
  | some (.c (.d (.int _ n))) => if 0 ≤ n then some n.toNat else none
  | _ => none
def evSlice (T : Nat → Option TI) (t : Nat) (x : V) (lo hi : Option V) : Option V :=
  match T t with
  | some ⟨.str, _, _, _⟩ => match x with
    | .c (.d (.str l)) => match evLo lo, evHi l.length hi with
      | some a, some b => if a ≤ b ∧ b ≤ l.length then some (.c (.d (.str ((l.take b).drop a)))) else none
      | _, _ => none
    | _ => none
  | some ⟨.slice e, _, _, _⟩ => match T e with
    | some ie => match x with
      | .c (.d (.sl xs)) => match evLo lo, evHi xs.length hi with
        | some a, some b => if a ≤ b ∧ b ≤ xs.length ∧ xs.all (fun y => y.length == ie.size) then some (.c (.d (.sl ((xs.take b).drop a)))) else none
        | _, _ => none
      | _ => none
    | none => none
  | _ => none
inductive ORelV (Z : Zt) (σ : List Value) : Option V → Option Value → Prop
  | none : ORelV Z σ none none
  | some {x : V} {v : Value} (h : VRel Z σ x v) : ORelV Z σ (some x) (some v)
theorem bounds_run {isS : Bool} {len cap a b : Nat} {lo hi : Option V} {lov hiv : Option Value} (hlo : ORelV Z σ lo lov) (hhi : ORelV Z σ hi hiv) (ha : evLo lo = some a) (hb : evHi len hi = some b) (h1 : a ≤ b) (h2 : b ≤ cap) :
    (Instr.sliceBounds isS len cap lov hiv none).run P w = .ok (a, b, cap) w := by
  cases hlo with
  | none =>
    injection ha with ha; subst ha
    cases hhi with
    | none => injection hb with hb; subst hb; simp [Instr.sliceBounds]
    | some h =>
      unfold evHi at hb
      split at hb
      · rename_i e; cases e
      · rename_i k n e; injection e with e; subst e
        cases h with | c h => cases h with | d h => cases h with
          | int =>
            split at hb
            · rename_i h0; injection hb with hb; subst hb
              have h2' : n ≤ cap := by omega
              simp [Instr.sliceBounds, Instr.sliceBound, asIntOf, h0, h2']
            · cases hb
      · cases hb
  | some hl =>
    unfold evLo at ha
    split at ha
    · rename_i e; cases e
    · rename_i k n e; injection e with e; subst e
      cases hl with | c hl => cases hl with | d hl => cases hl with
        | int =>
          split at ha
          · rename_i h0; injection ha with ha; subst ha
            cases hhi with
            | none =>
              injection hb with hb; subst hb
              have h1' : n ≤ len := by omega
              simp [Instr.sliceBounds, Instr.sliceBound, asIntOf, h0, h1']
            | some h =>
              unfold evHi at hb
              split at hb
              · rename_i e; cases e
              · rename_i k' n' e; injection e with e; subst e
                cases h with | c h => cases h with | d h => cases h with
                  | int =>
                    split at hb
                    · rename_i h0'; injection hb with hb; subst hb
                      have h2' : n' ≤ cap := by omega
                      simp [Instr.sliceBounds, Instr.sliceBound, asIntOf, h0, h0', h2']
                      omega
                    · cases hb
              · cases hb
          · cases ha
    · cases ha

theorem slice_ok {T : Nat → Option TI} (hT : Tok P T) {t : Nat} {x v : V} {xv : Value} {lo hi : Option V} {lov hiv : Option Value} (hx : VRel Z σ x xv) (hlo : ORelV Z σ lo lov) (hhi : ORelV Z σ hi hiv) (h : evSlice T t x lo hi = some v) :
    ∃ val, (∀ w : World, (Instr.sliceAt t xv lov hiv none).run P w = .ok val w) ∧ VRel Z σ v val := by
  unfold evSlice at h
  split at h
  · rename_i s1 s2 s3 ht
    have hu : P.underlying t = some .string := (hT _ _ ht).und
    split at h
    · rename_i l
      split at h
      · rename_i a b ha hb
        split at h
        · rename_i hab
          injection h with h; subst h
          cases hx with | c hx => cases hx with | d hx => cases hx with
            | str =>
              refine ⟨.string ((⟨l.toArray⟩ : ByteArray).extract a b), fun w => ?_, ?_⟩
              · have hs : (⟨l.toArray⟩ : ByteArray).size = l.length := by simp [ByteArray.size]
                have hr := bounds_run (P := P) (w := w) (isS := false) hlo hhi ha hb hab.1 hab.2
                simp [Instr.sliceAt, run_underlying hu, Instr.slice, Sv, hs, hr]
              · have e : Value.string ((⟨l.toArray⟩ : ByteArray).extract a b) = Sv ((l.take b).drop a) := by
                  unfold Sv
                  congr 1
                  apply ByteArray.ext
                  rw [ByteArray.data_extract]
                  simp [List.drop_take]
                rw [e]
                exact .c (.d (.str _))
        · cases h
      · cases h
    · cases h
  · rename_i e s1 s2 s3 ht
    have hu : P.underlying t = some (.slice e) := (hT _ _ ht).und
    cases he : T e with
    | none => simp only [he] at h; cases h
    | some ie =>
      simp only [he] at h
      have hie := hT _ _ he
      split at h
      · rename_i xs
        split at h
        · rename_i a b ha hb
          split at h
          · rename_i hab
            injection h with h; subst h
            cases hx with | c hx => cases hx with | d hx => cases hx with
              | sl _ ad len c bl o sz hn hcap hm had hs hz hd =>
                subst hn
                have hr := fun w => bounds_run (P := P) (w := w) (isS := true) hlo hhi ha hb hab.1 (by omega : b ≤ c)
                refine ⟨_, fun w => by simp [Instr.sliceAt, run_underlying hu, Instr.slice, hr, hie.run_sizeOf]; rfl, ?_⟩
                have hall : ∀ (i : Nat) (y : List D), xs[i]? = some y → y.length = ie.size := fun i y hy => by
                  have := List.all_eq_true.1 hab.2.2 y (List.mem_of_getElem? hy)
                  simpa using this
                have gi : ∀ (i : Nat) y, ((xs.take b).drop a)[i]? = some y → xs[a + i]? = some y := by
                  intro i y hy
                  rw [List.getElem?_drop, List.getElem?_take] at hy
                  split at hy
                  · exact hy
                  · cases hy
                refine .c (.d (.sl _ _ _ _ bl (o + a * sz) sz (by simp; omega) (by omega) (by omega) (fun hne => ?_) (fun i y hy => hs _ _ (gi i y hy)) (fun i j y d hy hj => ?_) (fun i j y d u hy hj hu' => ?_)))
                · have hne' : xs ≠ [] := by rintro rfl; simp at hne
                  have hlt : a < b := by
                    rcases Nat.lt_or_ge a b with q | q
                    · exact q
                    · exact absurd (List.drop_eq_nil_of_le (by simp; omega)) hne
                  have : ¬ c = a := by omega
                  rw [if_neg this, had hne']
                  have hx0 : ∃ y, xs[a]? = some y := ⟨xs[a]'(by omega), List.getElem?_eq_getElem (by omega)⟩
                  obtain ⟨y, hy⟩ := hx0
                  have h1 := hs _ _ hy
                  have h2 := hall _ _ hy
                  simp only [Option.map_some, add_plain]
                  rw [← h2, h1]
                · have e1 : o + a * sz + i * sz + j = o + (a + i) * sz + j := by rw [Nat.add_mul]; omega
                  rw [e1]
                  exact hz _ _ _ _ (gi i y hy) hj
                · have e1 : o + a * sz + i * sz + j = o + (a + i) * sz + j := by rw [Nat.add_mul]; omega
                  rw [e1] at hu'
                  exact hd _ _ _ _ _ (gi i y hy) hj hu'
          · cases h
        · cases h
      · cases h
  · cases h
end
end Go.Proofs.YtmkacifjegnehaaDoor.Ab
