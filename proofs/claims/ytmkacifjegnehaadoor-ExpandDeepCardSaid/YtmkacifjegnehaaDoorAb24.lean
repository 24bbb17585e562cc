/-
  LISTS OF LIKE THINGS IN ROWS AND SLICES; places, appending, loops as relations. No program is named.
-/
import Derived.Test.YtmkacifjegnehaaDoorAb23
import Derived.IntWalk
namespace Go.Proofs.YtmkacifjegnehaaDoor.Ab
open Go

/-! ### A row whose entries are all written alike -/
def rowC {α : Type} (f : α → List D) (l : List α) : List C := (l.flatMap f).map .d
section
variable {α : Type} {f : α → List D} {l m : List α} {x : α}
theorem rowC_nil : rowC f [] = [] := rfl
theorem rowC_snoc : rowC f (l ++ [x]) = rowC f l ++ (f x).map .d := by simp [rowC]
theorem rowC_app : rowC f (l ++ m) = rowC f l ++ rowC f m := by simp [rowC]
theorem rowC_cons : rowC f (x :: l) = (f x).map .d ++ rowC f l := by simp [rowC]
theorem map_rowC {g : C → C} (hg : ∀ d, g (.d d) = .d d) : (rowC f l).map g = rowC f l := by
  simp only [rowC, List.map_map]
  exact List.map_congr_left fun d _ => hg d
theorem kill_rowC {r : Nat} : (rowC f l).map (C.kill r) = rowC f l := map_rowC fun _ => rfl
theorem into_rowC {s : List Nat} : (rowC f l).map (C.into s) = rowC f l := map_rowC fun _ => rfl
theorem out_rowC {s : List Nat} : (rowC f l).map (C.out s) = rowC f l := map_rowC fun _ => rfl
theorem sealR_rowC {r : Nat} {d : D} : (rowC f l).map (C.sealR r d) = rowC f l := map_rowC fun _ => rfl
theorem cut_rowC {n : Nat} : (rowC f l).map (C.cut n) = rowC f l := map_rowC fun _ => rfl
theorem refsCs_map : ∀ (ds : List D), refsCs (ds.map .d) = []
  | [] => rfl
  | d :: ds => by simp [refsCs, C.refs, refsCs_map ds]
theorem refsCs_rowC : refsCs (rowC f l) = [] := refsCs_map _
theorem refsCs_app : ∀ (a b : List C), refsCs (a ++ b) = refsCs a ++ refsCs b
  | [], b => rfl
  | c :: a, b => by simp [refsCs, refsCs_app a b]
theorem toDs_map : ∀ (ds : List D), toDs (ds.map .d) = some ds
  | [] => rfl
  | d :: ds => by simp [toDs, toD, toDs_map ds]
theorem toDs_rowC : toDs (rowC f l) = some (l.flatMap f) := toDs_map _
theorem toDs_app : ∀ (a b : List C), toDs (a ++ b) = (toDs a).bind fun x => (toDs b).bind fun y => some (x ++ y)
  | [], b => by cases h : toDs b <;> simp [toDs, h]
  | c :: a, b => by
    simp only [List.cons_append, toDs, toDs_app a b]
    cases toD c <;> simp
    cases toDs a <;> simp
    cases toDs b <;> simp
theorem chunks_flat {sz : Nat} (h : ∀ x, (f x).length = sz) : ∀ l : List α, chunks sz l.length (l.flatMap f) = l.map f
  | [] => rfl
  | x :: l => by
    simp only [List.length_cons, chunks, List.flatMap_cons, List.map_cons]
    rw [List.take_left' (h x), List.drop_left' (h x), chunks_flat h l]
theorem toDs_snoc {cs : List C} : toDs (rowC f l ++ cs) = (toDs cs).bind fun y => some (l.flatMap f ++ y) := by rw [toDs_app, toDs_rowC]; rfl
theorem chunks_more {sz : Nat} (h : ∀ x, (f x).length = sz) {ds : List D} (hd : ds.length = sz) : ∀ l : List α, chunks sz (l.length + 1) (l.flatMap f ++ ds) = l.map f ++ [ds]
  | [] => by simp [chunks, ← hd]
  | x :: l => by
    rw [List.length_cons, chunks, List.flatMap_cons, List.append_assoc, List.take_left' (h x), List.drop_left' (h x), chunks_more h hd l]
    rfl
theorem sealD_rowC {t sz : Nat} (h : ∀ x, (f x).length = sz) : sealD (.row t sz l.length (rowC f l)) = some (.sl (l.map f)) := by
  simp only [sealD, toDs_rowC, chunks_flat h]
theorem all_len {sz : Nat} (h : ∀ x, (f x).length = sz) : ((l.map f).all fun y => y.length == sz) = true := by
  simp [h]
theorem flat_map : (l.map f).flatten = l.flatMap f := by simp [List.flatMap_def]
end

/-! ### Places and appending -/
def getP {α : Type} (l : List α) (i : Int) : Option α := if 0 ≤ i then l[i.toNat]? else none
theorem getP_some {α : Type} {l : List α} {i : Int} {x : α} (h : getP l i = some x) : 0 ≤ i ∧ l[i.toNat]? = some x := by
  unfold getP at h
  split at h
  · exact ⟨by assumption, h⟩
  · cases h
def appP {α : Type} (l m : List α) : Option (List α) := cond (decide (l.length + m.length ≤ 1000000000)) (some (l ++ m)) none
theorem appP_some {α : Type} {l m r : List α} (h : appP l m = some r) : l.length + m.length ≤ 1000000000 ∧ r = l ++ m := by
  unfold appP at h
  cases hd : decide (l.length + m.length ≤ 1000000000) with
  | false => rw [hd] at h; cases h
  | true => rw [hd] at h; injection h with h; exact ⟨of_decide_eq_true hd, h.symm⟩
def subP {α : Type} (l : List α) (a b : Int) : Option (List α) := if 0 ≤ a ∧ 0 ≤ b ∧ a.toNat ≤ b.toNat ∧ b.toNat ≤ l.length then some ((l.take b.toNat).drop a.toNat) else none
theorem subP_some {α : Type} {l : List α} {a b : Int} {r : List α} (h : subP l a b = some r) : 0 ≤ a ∧ 0 ≤ b ∧ (a.toNat ≤ b.toNat ∧ b.toNat ≤ l.length) ∧ r = (l.take b.toNat).drop a.toNat := by
  unfold subP at h
  split at h
  · rename_i q; injection h with h; exact ⟨q.1, q.2.1, q.2.2, h.symm⟩
  · cases h
theorem cond_bind {α β : Type} {b : Bool} {x y : Option α} {f : α → Option β} : (cond b x y).bind f = cond b (x.bind f) (y.bind f) := by cases b <;> rfl
theorem bind_some' {α β : Type} {a : α} {f : α → Option β} : (some a).bind f = f a := rfl
theorem bind_assoc' {α β γ : Type} {x : Option α} {f : α → Option β} {g : β → Option γ} : (x.bind f).bind g = x.bind fun a => (f a).bind g := by cases x <;> rfl
def lenOk {α : Type} (l : List α) : Bool := decide (l.length ≤ 1000000000000)
theorem drop_cons {α : Type} {l : List α} {i : Nat} {x : α} {m : List α} (h : l.drop i = x :: m) : l[i]? = some x ∧ i < l.length ∧ l.drop (i + 1) = m := by
  have hi : i < l.length := by
    rcases Nat.lt_or_ge i l.length with q | q
    · exact q
    · rw [List.drop_eq_nil_of_le q] at h; cases h
  rw [List.drop_eq_getElem_cons hi] at h
  injection h with h1 h2
  exact ⟨by rw [List.getElem?_eq_getElem hi, h1], hi, h2⟩
theorem drop_nil {α : Type} {l : List α} {i : Nat} (h : l.drop i = []) : l.length ≤ i := by simpa using h
theorem wrap_nat {n : Nat} (h : n ≤ 9223372036854775807) : IntKind.i64.wrap (n : Int) = (n : Int) := IntWalk.i64_in _ (by omega)
theorem wrap_succ {n : Nat} (h : n ≤ 9000000000000000000) : IntKind.i64.wrap ((n : Int) + 1) = ((n + 1 : Nat) : Int) := by rw [IntWalk.i64_in _ (by omega)]; rfl
theorem toNat_cast (n : Nat) : ((n : Int)).toNat = n := rfl
theorem cast_nonneg (n : Nat) : (0 ≤ (n : Int)) = True := by simp
def foldO {α β : Type} (f : α → β → Option β) : List α → β → Option β
  | [], b => some b
  | x :: l, b => (f x b).bind fun b => foldO f l b
theorem some_bind {α β : Type} {x : Option α} {f : α → Option β} {y : β} (h : x.bind f = some y) : ∃ a, x = some a ∧ f a = some y := by
  cases x with
  | none => cases h
  | some a => exact ⟨a, rfl, h⟩

theorem ble_filter (n x : Nat) (l : List Nat) : List.filter (fun r => Nat.ble n r) (x :: l) = if n ≤ x then x :: List.filter (fun r => Nat.ble n r) l else List.filter (fun r => Nat.ble n r) l := by
  rw [List.filter_cons]
  by_cases h : n ≤ x
  · rw [if_pos h, if_pos (Nat.ble_eq ▸ h)]
  · rw [if_neg h, if_neg (fun q => h (Nat.ble_eq ▸ q))]
/-- A loop whose states stand in a relation; a measure falls. -/
theorem Runs.loop_rel {call : CallF} {F : Fp} {kA : Nat → Bool} {L : Nat → Lv} {pl : Plans} {c : Code} {K : Ex → List (Nat × V) → List O → Prop} (inv : Nat → List (Nat × V) → List O → Prop)
    (hstep : ∀ m e H, inv m e H → Runs call F kA L pl c e H (normK (fun e' H' => ∃ m', m' < m ∧ ∃ e2 H2, tidy F.n0 (mergeE e' (keysE e)) H' = (e2, H2) ∧ inv m' e2 H2) K)) {m : Nat} {e : List (Nat × V)} {H : List O} (h : inv m e H) : Runs call F kA L pl (.loop c) e H K :=
  Runs.loop_inv (ι := Nat × List (Nat × V) × List O) (fun i => i.2.1) (fun i => i.2.2) (fun i => inv i.1 i.2.1 i.2.2) (fun i => i.1) (fun i hi => (hstep i.1 i.2.1 i.2.2 hi).mono fun x e' H' hx => by
    cases x with
    | normal => obtain ⟨m', h1, e2, H2, h2, h3⟩ := hx; exact ⟨(m', e2, H2), h1, h3, h2⟩
    | exit id => exact hx
    | ret => exact hx
    | panic t cs => exact hx) (m, e, H) h
theorem finK_ret {I : Ip} {g : Nat} {fn : Func} {n0 : Nat} {T : Nat → Option TI} (hT : I.T = T) {res : List ResultVar} (hres : fn.results.toList = res) (hk : I.keepR g = false) {e e' : List (Nat × V)} {H H' H2 : List O} {vs vs' : List V} (h1 : resRaw T e H res = some vs) (h2 : sealAll n0 (vs.flatMap rowRefs) e H = (e', H')) (h3 : resOf T ⟨e', H'⟩ res = some vs') (h4 : (H'.take n0).map (O.cut n0) = H2) : finK I g fn n0 (.ret vs', H2) .ret e H := by
  subst hT hres h4
  simp only [finK, finX, h1, hk, h2, h3]
def byteD (b : UInt8) : List D := [.int .u8 (b.toNat : Int)]
abbrev byteI (b : UInt8) : Int := (b.toNat : Int)
theorem byteD_eq (b : UInt8) : byteD b = [.int .u8 (byteI b)] := rfl
theorem bytesOf_rowC : ∀ l : List UInt8, bytesOf (rowC byteD l) = some (l.map byteI)
  | [] => rfl
  | b :: l => by rw [rowC_cons]; simp only [byteD, List.map_cons, List.map_nil, List.cons_append, List.nil_append, bytesOf, bytesOf_rowC l]
theorem bytes_back (l : List UInt8) : (l.map byteI).map (fun n => UInt8.ofNat n.toNat) = l := by
  rw [List.map_map]
  conv => rhs; rw [← List.map_id l]
  exact List.map_congr_left fun b _ => by simp [byteI]
/-- The same state is tried again: a loop by steps. -/
def loopO {σ ρ : Type} (f : σ → Option (σ ⊕ ρ)) : Nat → σ → Option ρ
  | 0, _ => none
  | m + 1, s => (f s).bind fun r => match r with
    | .inl s => loopO f m s
    | .inr x => some x
def allO {α β : Type} (f : α → β → Option Bool) : List α → List β → Option Bool
  | x :: l, y :: m => (f x y).bind fun b => cond b (allO f l m) (some false)
  | [], _ => some true
  | _ :: _, [] => none
theorem Runs.again {call : CallF} {F : Fp} {kA : Nat → Bool} {L : Nat → Lv} {pl : Plans} {c : Code} {K : Ex → List (Nat × V) → List O → Prop} {e e2 : List (Nat × V)} {H H2 : List O} (ht : tidy F.n0 e H = (e2, H2)) (h : Runs call F kA L pl (.loop c) e2 H2 K) : Runs call F kA L pl (.loop c) (tidy F.n0 e H).1 (tidy F.n0 e H).2 K := by
  rw [ht]; exact h
theorem wrapL1 : IntKind.i64.wrap 1 = 1 := rfl
theorem wrapL2 : IntKind.i64.wrap 2 = 2 := rfl
theorem wrapL3 : IntKind.i64.wrap 3 = 3 := rfl
theorem wrapL4 : IntKind.i64.wrap 4 = 4 := rfl
theorem wrapL5 : IntKind.i64.wrap 5 = 5 := rfl
attribute [go_sem] List.getElem?_map Int.toNat_natCast toDs_snoc bind_some' wrapL1 wrapL2 wrapL3 wrapL4 wrapL5 ble_filter List.filter_nil List.flatten_cons List.flatten_nil and_self and_true true_and resRaw resOf datV bytesOf_rowC bytes_back List.length_map kill_rowC into_rowC out_rowC sealR_rowC cut_rowC refsCs_rowC refsCs_app toDs_rowC List.map_append flat_map O.kill C.kill V.kill killE O.sealR C.sealR V.sealR sealE O.cut C.cut V.cut
end Go.Proofs.YtmkacifjegnehaaDoor.Ab
