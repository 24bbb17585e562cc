/-
  ALL THE CONTRACTS TOGETHER; the interpreter that knows Inlines by its contract.
-/
import Derived.Test.YtmkacifjegnehaaDoorFin7
import Derived.Test.YtmkacifjegnehaaDoorItoa
namespace Go.Proofs.YtmkacifjegnehaaDoor
open Go Go.Proofs Go.Proofs.YtmkacifjegnehaaDoor.Ab
set_option maxRecDepth 10000
theorem exprIH : ∀ n, ExprIH n
  | 0 => { e57 := fun h => by simp [exprP] at h, e72 := fun h => by simp [unaryP] at h, e81 := fun h => by simp [primP] at h, e85 := fun h => by simp [namedP] at h, e86 := fun h => by simp [exprsP] at h, e87 := fun h => by simp [refP] at h, e92 := fun h => by simp [gotP] at h, e98 := fun h => by simp [argP] at h }
  | n + 1 => { e57 := W57 (exprIH n), e72 := W72 (exprIH n), e81 := W81 (exprIH n), e85 := W85 (exprIH n), e86 := W86 (exprIH n), e87 := W87 (exprIH n), e92 := W92 (exprIH n), e98 := W98 (exprIH n) }
theorem stmtIH : ∀ n, StmtIH n
  | 0 => { e58 := fun h => by simp [seqP] at h, e74 := fun h => by simp [stepP] at h, e83 := fun h => by simp [stmtP] at h, e33 := fun h => by simp [bodyP] at h, e88 := fun h => by simp [optsP] at h }
  | n + 1 => { e58 := W58 (exprIH n) (stmtIH n), e74 := W74 (exprIH n) (stmtIH n), e83 := W83 (exprIH n) (stmtIH n), e33 := W33 (exprIH n) (stmtIH n), e88 := W88 (exprIH n) (stmtIH n) }
theorem deepIH : ∀ n, DeepIH n
  | 0 => { e37 := fun h => by simp [deepA] at h, e39 := fun h => by simp [deepS] at h }
  | n + 1 => { e37 := W37 (deepIH n), e39 := W39 (deepIH n) }
theorem expIH : ∀ n, ExpIH n
  | 0 => { e67 := fun h => by simp [refX] at h, e68 := fun h => by simp [astX] at h }
  | n + 1 => { e67 := W67 (expIH n), e68 := W68 (expIH n) }
theorem expSH : ∀ n, ExpSH n
  | 0 => { e17 := fun h => by simp [stmtsE] at h, e45 := fun h => by simp [stmtE] at h, e66 := fun h => by simp [callE] at h }
  | n + 1 => { e17 := W17 (expIH n) (expSH n), e45 := W45 (expIH n) (expSH n), e66 := W66 (expIH n) (expSH n) }
theorem parse_calls {n : Nat} {s : Bytes} {l : List Uni} {c a : Int} (h : parseP n s = some (l, c, a)) : callW ip 6 [sI s] [] = some (.ret [slV uniD l, mI (c, a)], []) := W6 (exprIH n) (stmtIH n) (deepIH n) h
theorem inl_calls {n : Nat} {l : List Uni} {r : Xr (List Uni)} (h : inlX n l = some r) : ACalls Tryd.prog 7 [slV uniD l] [] (fun r' H' => r' = .ret (res7 r) ∧ H' = []) := A7 sound (expSH n) h
/-! ### Two trees that are written alike are one -/
theorem strs_inj {l m : List Bytes} (h : l.map strD = m.map strD) : l = m := (List.map_inj_right fun x y h => by simpa [strD] using h).1 h
theorem bos_inj {l m : List Bool} (h : l.map boD = m.map boD) : l = m := (List.map_inj_right fun x y h => by simpa [boD] using h).1 h
theorem ints_inj {l m : List Int} (h : l.map intD = m.map intD) : l = m := (List.map_inj_right fun x y h => by simpa [intD] using h).1 h
mutual
theorem astD_inj : ∀ (a b : Ast), astD a = astD b → a = b
  | ⟨k, n, s, t, ⟨x, y, z⟩, ks, az⟩, ⟨k', n', s', t', ⟨x', y', z'⟩, ks', az'⟩, h => by
    simp only [astD, refD, List.cons_append, List.nil_append, List.cons.injEq, D.int.injEq, D.str.injEq, D.sl.injEq, true_and, and_true] at h
    obtain ⟨h1, h2, h3, h4, h5, h6, h7, h8, h9⟩ := h
    rw [h1, h2, h3, h4, strs_inj h5, astsD_inj _ _ h6, bos_inj h7, astsD_inj _ _ h8, argsD_inj _ _ h9]
theorem astsD_inj : ∀ (l m : List Ast), astsD l = astsD m → l = m
  | [], [], _ => rfl
  | [], _ :: _, h => by simp [astsD] at h
  | _ :: _, [], h => by simp [astsD] at h
  | a :: l, b :: m, h => by
    simp only [astsD, List.cons.injEq] at h
    rw [astD_inj a b h.1, astsD_inj l m h.2]
theorem argD_inj : ∀ (a b : Arg), argD a = argD b → a = b
  | ⟨x, y, e⟩, ⟨x', y', e'⟩, h => by
    simp only [argD, List.cons.injEq, D.bo.injEq] at h
    rw [h.1, h.2.1, astD_inj e e' h.2.2]
theorem argsD_inj : ∀ (l m : List Arg), argsD l = argsD m → l = m
  | [], [], _ => rfl
  | [], _ :: _, h => by simp [argsD] at h
  | _ :: _, [], h => by simp [argsD] at h
  | a :: l, b :: m, h => by
    simp only [argsD, List.cons.injEq] at h
    rw [argD_inj a b h.1, argsD_inj l m h.2]
end
theorem asts_inj {l m : List Ast} (h : l.map astD = m.map astD) : l = m := astsD_inj l m (by rw [astsD_map, astsD_map, h])
theorem args_inj {l m : List Arg} (h : l.map argD = m.map argD) : l = m := argsD_inj l m (by rw [argsD_map, argsD_map, h])
theorem ast_ext {a b : Ast} (h1 : a.kind = b.kind) (h2 : a.n = b.n) (h3 : a.name = b.name) (h4 : a.label = b.label) (h5 : a.ref.names.map strD = b.ref.names.map strD) (h6 : a.ref.index.map astD = b.ref.index.map astD) (h7 : a.ref.has.map boD = b.ref.has.map boD) (h8 : a.kids.map astD = b.kids.map astD) (h9 : a.args.map argD = b.args.map argD) : a = b := by
  obtain ⟨k, n, s, t, ⟨x, y, z⟩, ks, az⟩ := a
  obtain ⟨k', n', s', t', ⟨x', y', z'⟩, ks', az'⟩ := b
  dsimp only at *
  rw [h1, h2, h3, h4, strs_inj h5, asts_inj h6, bos_inj h7, asts_inj h8, args_inj h9]
theorem dvar_inj {a b : DVar} (h : dvarD a = dvarD b) : a = b := by
  obtain ⟨s, x, z, y, e, c, l⟩ := a
  obtain ⟨s', x', z', y', e', c', l'⟩ := b
  simp only [dvarD, List.cons.injEq, D.int.injEq, D.str.injEq, D.sl.injEq, D.bo.injEq, true_and, and_true] at h
  obtain ⟨h1, h2, a1, a2, a3, a4, a5, a6, a7, a8, a9, h3, b1, b2, b3, b4, b5, b6, b7, b8, b9, h4, h5⟩ := h
  rw [h1, h2, ast_ext a1 a2 a3 a4 a5 a6 a7 a8 a9, h3, ast_ext b1 b2 b3 b4 b5 b6 b7 b8 b9, h4, ints_inj h5]
theorem decl_ext {a b : Decl} (h1 : a.type = b.type) (h2 : a.named = b.named) (h3 : a.vars.map dvarD = b.vars.map dvarD) (h4 : a.pos = b.pos) : a = b := by
  obtain ⟨x, y, z, w⟩ := a
  obtain ⟨x', y', z', w'⟩ := b
  dsimp only at *
  rw [h1, h2, (List.map_inj_right fun x y h => dvar_inj h).1 h3, h4]
theorem decls_inj {l m : List Decl} (h : l.map declD = m.map declD) : l = m := (List.map_inj_right fun x y h => by
  simp only [declD, List.cons.injEq, D.int.injEq, D.str.injEq, D.sl.injEq, true_and, and_true] at h
  exact decl_ext h.1 h.2.1 h.2.2.1 h.2.2.2).1 h
mutual
theorem stmtD_inj : ∀ (a b : Stmt), stmtD a = stmtD b → a = b
  | ⟨k, p, nm, tx, n, so, ra, ke, ⟨x, y, z⟩, e, es, az, d, os, bd⟩, ⟨k', p', nm', tx', n', so', ra', ke', ⟨x', y', z'⟩, e', es', az', d', os', bd'⟩, h => by
    simp only [stmtD, List.cons.injEq, D.int.injEq, D.str.injEq, D.sl.injEq, D.bo.injEq, true_and, and_true] at h
    obtain ⟨h1, h2, h3, h4, h5, h6, h7, h8, r1, r2, r3, a1, a2, a3, a4, a5, a6, a7, a8, a9, h9, h10, d1, d2, d3, d4, h11, h12⟩ := h
    rw [h1, h2, h3, h4, h5, h6, h7, h8, strs_inj r1, asts_inj r2, bos_inj r3, ast_ext a1 a2 a3 a4 a5 a6 a7 a8 a9, asts_inj h9, args_inj h10, decl_ext d1 d2 d3 d4, optsD_inj _ _ h11, stmtsD_inj _ _ h12]
theorem stmtsD_inj : ∀ (l m : List Stmt), stmtsD l = stmtsD m → l = m
  | [], [], _ => rfl
  | [], _ :: _, h => by simp [stmtsD] at h
  | _ :: _, [], h => by simp [stmtsD] at h
  | a :: l, b :: m, h => by
    simp only [stmtsD, List.cons.injEq] at h
    rw [stmtD_inj a b h.1, stmtsD_inj l m h.2]
theorem optsD_inj : ∀ (l m : List (List Stmt)), optsD l = optsD m → l = m
  | [], [], _ => rfl
  | [], _ :: _, h => by simp [optsD] at h
  | _ :: _, [], h => by simp [optsD] at h
  | a :: l, b :: m, h => by
    simp only [optsD, List.cons.injEq, D.sl.injEq, and_true] at h
    rw [stmtsD_inj a b h.1, optsD_inj l m h.2]
end
theorem stmts_inj {l m : List Stmt} (h : l.map stmtD = m.map stmtD) : l = m := stmtsD_inj l m (by rw [stmtsD_map, stmtsD_map, h])
theorem unis_inj {l m : List Uni} (h : l.map uniD = m.map uniD) : l = m := (List.map_inj_right fun a b h => by
  obtain ⟨k, p, nm, tx, ns, ac, c, d, ds, bd⟩ := a
  obtain ⟨k', p', nm', tx', ns', ac', c', d', ds', bd'⟩ := b
  simp only [uniD, List.cons.injEq, D.int.injEq, D.str.injEq, D.sl.injEq, D.bo.injEq, true_and, and_true] at h
  obtain ⟨h1, h2, h3, h4, h5, h6, a1, a2, a3, a4, a5, a6, a7, a8, a9, d1, d2, d3, d4, h7, h8⟩ := h
  rw [h1, h2, h3, h4, strs_inj h5, h6, ast_ext a1 a2 a3 a4 a5 a6 a7 a8 a9, decl_ext d1 d2 d3 d4, decls_inj h7, stmts_inj h8]).1 h
/-! ### Inlines by its contract: at fuel 200, else at any -/
open Classical in
noncomputable def prim7 (args : List V) (H : List O) : Option (Res × List O) := if h : ∃ x : List Uni × Xr (List Uni), args = [slV uniD x.1] ∧ H = [] ∧ inlX 200 x.1 = some x.2 then some (.ret (res7 (Classical.choose h).2), [])
  else if h : ∃ x : Nat × List Uni × Xr (List Uni), args = [slV uniD x.2.1] ∧ H = [] ∧ inlX x.1 x.2.1 = some x.2.2 then some (.ret (res7 (Classical.choose h).2.2), []) else none
theorem prim7_ok {args : List V} {H : List O} {r : Res × List O} (h : prim7 args H = some r) : ∃ n l x, args = [slV uniD l] ∧ H = [] ∧ inlX n l = some x ∧ r = (.ret (res7 x), []) := by
  unfold prim7 at h
  split at h
  · rename_i hx
    injection h with h
    obtain ⟨h1, h2, h3⟩ := Classical.choose_spec hx
    exact ⟨200, _, _, h1, h2, h3, h.symm⟩
  · split at h
    · rename_i hx
      injection h with h
      obtain ⟨h1, h2, h3⟩ := Classical.choose_spec hx
      exact ⟨_, _, _, h1, h2, h3, h.symm⟩
    · cases h
noncomputable def prim2 : CallF := fun g args H => match g with
  | 3 => none
  | 4 => none
  | 5 => none
  | 7 => prim7 args H
  | g => callW ip g args H
theorem prim2_ok : SoundCall Tryd.prog prim2 := by
  intro g args H r H' h
  unfold prim2 at h
  split at h
  · cases h
  · cases h
  · cases h
  · obtain ⟨n, l, x, rfl, rfl, h3, h4⟩ := prim7_ok h
    cases h4
    exact ⟨enters_of Tryd.func7 rfl rfl, inl_calls h3⟩
  · exact sound _ args H r H' h
noncomputable def ip2 : Ip := { ip with prim := prim2 }
theorem ip2_ok : IpOk Tryd.prog ip2 := { ip_ok with prim := prim2_ok }
theorem sound2 : SoundCall Tryd.prog (callW ip2) := callW_ok ip2_ok
theorem up {g : Nat} {args : List V} {H : List O} {r : Res × List O} (h : callW ip g args H = some r) (h3 : g ≠ 3) (h4 : g ≠ 4) (h5 : g ≠ 5) (h7 : g ≠ 7) : callW ip2 g args H = some r := by
  refine callW_prim ?_
  show prim2 g args H = some r
  unfold prim2
  split
  · exact absurd rfl h3
  · exact absurd rfl h4
  · exact absurd rfl h5
  · exact absurd rfl h7
  · exact h
theorem V7 {l : List Uni} {r : Xr (List Uni)} (h : inlX 200 l = some r) : callW ip2 7 [slV uniD l] [] = some (.ret (res7 r), []) := by
  refine callW_prim ?_
  show prim7 _ _ = _
  have hx : ∃ x : List Uni × Xr (List Uni), ([slV uniD l] : List V) = [slV uniD x.1] ∧ ([] : List O) = [] ∧ inlX 200 x.1 = some x.2 := ⟨(l, r), rfl, rfl, h⟩
  unfold prim7
  rw [dif_pos hx]
  obtain ⟨h1, _, h3⟩ := Classical.choose_spec hx
  generalize Classical.choose hx = y at h1 h3 ⊢
  simp only [slV, List.cons.injEq, V.c.injEq, C.d.injEq, D.sl.injEq, and_true] at h1
  rw [← unis_inj h1, h] at h3
  injection h3 with h3
  rw [← h3]
theorem V7x {n : Nat} {l : List Uni} {r : Xr (List Uni)} (h : inlX n l = some r) : ∃ n' r', callW ip2 7 [slV uniD l] [] = some (.ret (res7 r'), []) ∧ inlX n' l = some r' := by
  by_cases h6 : ∃ r, inlX 200 l = some r
  · obtain ⟨r', h6⟩ := h6
    exact ⟨200, r', V7 h6, h6⟩
  have hx : ∃ x : Nat × List Uni × Xr (List Uni), ([slV uniD l] : List V) = [slV uniD x.2.1] ∧ ([] : List O) = [] ∧ inlX x.1 x.2.1 = some x.2.2 := ⟨(n, l, r), rfl, rfl, h⟩
  have hn : ¬ ∃ x : List Uni × Xr (List Uni), ([slV uniD l] : List V) = [slV uniD x.1] ∧ ([] : List O) = [] ∧ inlX 200 x.1 = some x.2 := by
    rintro ⟨x, h1, _, h3⟩
    simp only [slV, List.cons.injEq, V.c.injEq, C.d.injEq, D.sl.injEq, and_true] at h1
    rw [← unis_inj h1] at h3
    exact h6 ⟨_, h3⟩
  refine ⟨(Classical.choose hx).1, (Classical.choose hx).2.2, callW_prim ?_, ?_⟩
  · show prim7 _ _ = _
    unfold prim7
    rw [dif_neg hn, dif_pos hx]
  · obtain ⟨h1, _, h3⟩ := Classical.choose_spec hx
    generalize Classical.choose hx = y at h1 h3 ⊢
    simp only [slV, List.cons.injEq, V.c.injEq, C.d.injEq, D.sl.injEq, and_true] at h1
    rw [← unis_inj h1] at h3
    exact h3
theorem V6 {n : Nat} {s : Bytes} {l : List Uni} {c a : Int} (h : parseP n s = some (l, c, a)) : callW ip2 6 [sI s] [] = some (.ret [slV uniD l, mI (c, a)], []) := up (parse_calls h) (by decide) (by decide) (by decide) (by decide)
end Go.Proofs.YtmkacifjegnehaaDoor
