/- YtidmjeehcmpjnaaDoorAppS: 'append(s, x)' on a slice of the call's own: where the result lies: in the slice's own block or in a new one. Conditions: the sizes are below 2 to the 47. -/
import Derived.Test.YtidmjeehcmpjnaaDoorBase
namespace Go.Proofs.YtidmjeehcmpjnaaDoor
open Go.ChangeShapes Go.WideShapes Go.ChangeAt Go.RowKit
set_option linter.unusedVariables false
section
variable {P : Program} {w : World}
theorem run_append_where (base : Nat) (t ty e : TypeId) (i : TypeInfo) (z : Value) (size bytes : Nat) (ht : P.underlying t = some (.slice e)) (hi : P.info? e = some i) (hz : i.zero = some z)
    (hsize : i.size = size) (hby : i.bytes = bytes) (hzs : z.cells.size = size) (hsz : 0 < size)
    (v : Value) (n : Nat) (xs : List Value) (hown : w.ownsRow base e size v n xs)
    (a : Addr) (c : Nat) (news : List Value) (hl : news.length = 1 * size) (hnews : ∀ j u, news[j]? = some u → w.cell? (a.add j) = some u) (h1 : ∀ u ∈ news, u.oneCell' = true)
    (h63 : n + 1 ≤ maxLen) (hbytes : (n + 1) * bytes ≤ 140737488355328) (hbase : base ≤ w.heap.size) :
    ∃ v' w', (Builtin.append_ #[t, t] ty #[v, .slice (some a) 1 c]).run P w = .ok v' w' ∧ w'.ownsRow base e size v' (n + 1) (xs ++ news) ∧ w.grownBy w' v.ownBlock ∧
      (∀ b, v'.ownBlock = some b → v.ownBlock = some b ∨ w.heap.size ≤ b) := by
  subst hsize
  subst hby
  have hsmall : n + 1 ≤ 9223372036854775807 := by simp only [maxLen] at h63; omega
  have hlen : (xs ++ news).length = (n + 1) * i.size := by rw [List.length_append, hown.1, hl, Nat.add_mul]
  have fresh : ∀ (old : Nat), ∀ (row : Option Nat),
      (w.drew.alloc (.cells (xs.toArray ++ news.toArray ++ Builtin.zeroCells z.cells (grownCap w (n + 1) old e - (n + 1))) e)).ownsRow base e i.size
        (.slice (some ⟨w.heap.size, 0, none⟩) (n + 1) (grownCap w (n + 1) old e)) (n + 1) (xs ++ news) ∧
      w.grownBy (w.drew.alloc (.cells (xs.toArray ++ news.toArray ++ Builtin.zeroCells z.cells (grownCap w (n + 1) old e - (n + 1))) e)) row := by
    intro old row
    have hge := grownCap_ge w (n + 1) old e
    refine ⟨⟨hlen, .inr ⟨w.heap.size, _, _, rfl, hbase, heap_alloc_new w.drew _, hge, grownCap_le_maxLen w (n + 1) old e h63, ?_, ?_⟩⟩, ⟨rfl, rfl, rfl, by simp, fun k hk _ => heap_alloc_old w.drew _ hk⟩⟩
    · simp only [Array.size_append, List.size_toArray, size_zeroCells, hzs, hown.1, hl, ← Nat.add_mul]
      congr 1
      omega
    · simp only [Array.toList_append, List.append_assoc]
      rw [← List.append_assoc, ← hlen]
      exact List.take_left
  rcases hown.2 with ⟨rfl, rfl⟩ | ⟨g, cap, cur, rfl, hbg, hg, hnc, hcm, hcs, htake⟩
  · have hx : xs = [] := List.eq_nil_of_length_eq_zero (by simpa using hown.1)
    subst hx
    have hr := run_append_nil (P := P) w t ty e i z ht hi hz a 1 c news hl hnews (by omega) (by omega) (by have hb := hbytes; simp only [Nat.zero_add] at hb; omega)
    have hgr := fresh 0 (Value.ownBlock (.slice none 0 0))
    simp only [Nat.zero_add, List.nil_append, Array.empty_append] at hgr ⊢
    exact ⟨_, _, hr, hgr.1, hgr.2, fun b hb => .inr (by cases hb; exact Nat.le_refl _)⟩
  · by_cases hroom : n + 1 ≤ cap
    · have hfit : n * i.size + news.length ≤ cur.size := by rw [hl, hcs, ← Nat.add_mul]; exact Nat.mul_le_mul_right _ hroom
      have hr := run_append_room (P := P) w t ty e i ht hi g n cap cur hg a 1 c news hl hnews h1 hroom hfit
      refine ⟨_, _, hr, ⟨hlen, .inr ⟨g, cap, _, rfl, hbg, setRow_heap w g cur _ e _ hg, hroom, hcm, ?_, ?_⟩⟩, ⟨rfl, rfl, rfl, by simp, fun k _ hk => setRow_other w g k _ (fun e => hk (by simp [Value.ownBlock, e]))⟩, fun b hb => .inl (by cases hb; rfl)⟩
      · simp only [List.size_toArray, List.length_append, List.length_take, List.length_drop, Array.length_toList]
        omega
      · rw [htake, ← hlen]
        exact List.take_left
    · have holds : ∀ j u, xs[j]? = some u → w.cell? ((⟨g, 0, none⟩ : Addr).add j) = some u := hown.cells (g := g) rfl
      have hr := run_append_grow (P := P) w t ty e i z ht hi hz ⟨g, 0, none⟩ n cap xs hown.1 holds a 1 c news hl hnews (by omega) (by omega) (growslice_fits (by omega) hbytes)
      have hgr := fresh cap (Value.ownBlock (.slice (some ⟨g, 0, none⟩) n cap))
      exact ⟨_, _, hr, hgr.1, hgr.2, fun b hb => .inr (by cases hb; exact Nat.le_refl _)⟩
end
/-- 'append(v, x)' for one new element of one cell: the new row, and where it lies. -/
theorem wpList_app1w {ops : Array Oper} {rest : List Oper} {o : Oper} {a : Act} {Q : Exit → Act → World → Prop} (w : World) (hgd : o.guard = none) (s x : Operand) (T E : TypeId) (ho : o.op = .call { callee := .builtin .append, args := #[s, x], argTypes := #[T, T] })
    (base bytes : Nat) (y : Value) (z : Value) (ht : Tryd.prog.underlying T = some (.slice E)) (hinfo : (Tryd.prog.info? E).map (fun i => (i.zero, i.size, i.bytes)) = some (some z, 1, bytes)) (hz : z.cells.size = 1) (h1 : y.oneCell' = true)
    (v : Value) (n : Nat) (xs : List Value) (hown : w.ownsRow base E 1 v n xs) (hs : a.eval s = v) (hx : a.eval x = .slice (some ⟨w.heap.size, 0, none⟩) 1 1) (h63 : n + 1 ≤ 9223372036854775807) (hb : (n + 1) * bytes ≤ 140737488355328) (hbase : base ≤ w.heap.size)
    (h : ∀ v' w', w'.ownsRow base E 1 v' (n + 1) (xs ++ [y]) → Wr w w' (fun b => v.ownBlock = some b) → (∀ b, v'.ownBlock = some b → v.ownBlock = some b ∨ w.heap.size ≤ b) → wpList Tryd.prog ops Q rest (a.put o.dst v') w') :
    wpList Tryd.prog ops Q (o :: rest) a (w.alloc (.cells #[y] E)) := by
  obtain ⟨i, hi, hz0, hz1, hz2⟩ := info_parts hinfo
  refine wpList_plain hgd fun K hK => ?_
  obtain ⟨v', w', hr, h2, h3, h4⟩ := run_append_where (P := Tryd.prog) (w := w.alloc (.cells #[y] E)) base T o.type E i z 1 bytes ht hi hz0 hz1 hz2 hz (by decide) v n xs (hown.alloc _) ⟨w.heap.size, 0, none⟩ 1 [y] rfl (by
    intro j u hj
    rw [Addr.add_lit, Nat.zero_add, cell_of_row _ w.heap.size j #[y] E (0, 0) (heap_alloc_new w _)]
    simpa using hj) (by intro u hu; simp at hu; subst hu; exact h1) (by unfold maxLen; omega) hb (by simp; omega)
  unfold Oper.wp execOp
  simp only [ho, resolve, invoke, builtin, Sem.run_bind, Sem.run_pure, Result.andThen_ok, List.map_toArray, List.map_cons, List.map_nil, hs, hx, hr]
  refine hK _ _ (h v' w' h2 ((Wr.of_below ((Below.refl _ _).alloc (Nat.le_refl _) _)).trans (Wr.of_grown h3)) fun b hb => ?_)
  rcases h4 b hb with h | h
  · exact .inl h
  · exact .inr (by simp only [World.size_alloc] at h; omega)
theorem wpList_want {ops : Array Oper} {rest : List Oper} {o : Oper} {a : Act} {w : World} {Q : Exit → Act → World → Prop} (hw : Region.wanted o (yielded ops a.tmps) = true) (h : o.wp Tryd.prog a w (wpList Tryd.prog ops Q rest) Q) : wpList Tryd.prog ops Q (o :: rest) a w := by
  unfold wpList; rw [if_pos hw]; exact .inl h
theorem wpList_app2g {ops : Array Oper} {rest : List Oper} {o : Oper} {a : Act} {Q : Exit → Act → World → Prop} (w : World) (hgd : Region.wanted o (yielded ops a.tmps) = true) (s x : Operand) (T E : TypeId) (ho : o.op = .call { callee := .builtin .append, args := #[s, x], argTypes := #[T, T] })
    (base base2 sz bytes : Nat) (z : Value) (ht : Tryd.prog.underlying T = some (.slice E)) (hinfo : (Tryd.prog.info? E).map (fun i => (i.zero, i.size, i.bytes)) = some (some z, sz, bytes)) (hz : z.cells.size = sz) (hsz : 0 < sz)
    (v vs : Value) (n m : Nat) (xs ys : List Value) (hown : w.ownsRow base E sz v n xs) (hsrc : w.ownsRow base2 E sz vs m ys) (h1 : ∀ u ∈ ys, u.oneCell' = true) (hs : a.eval s = v) (hx : a.eval x = vs) (h63 : n + m ≤ 9223372036854775807) (hb : (n + m) * bytes ≤ 140737488355328) (hbase : base ≤ w.heap.size)
    (h : ∀ v' w', w'.ownsRow base E sz v' (n + m) (xs ++ ys) → Wr w w' (fun b => v.ownBlock = some b) → (∀ B w0, B ≤ base → Below B w0 w → Below B w0 w') → wpList Tryd.prog ops Q rest (a.put o.dst v') w') :
    wpList Tryd.prog ops Q (o :: rest) a w := by
  obtain ⟨i, hi, hz0, hz1, hz2⟩ := info_parts hinfo
  have fin : ∀ v' w', w'.ownsRow base E sz v' (n + m) (xs ++ ys) → w.grownBy w' v.ownBlock → wpList Tryd.prog ops Q rest (a.put o.dst v') w' := fun v' w' ho2 hg => by
    have hw := Wr.of_grown hg
    refine h v' w' ho2 hw fun B w0 hB hb0 => ?_
    refine Below.wr hb0 hw (by omega) fun k hk => ?_
    have := (hown.lt k hk).1
    omega
  rcases hsrc.2 with ⟨hv, hm⟩ | ⟨g, cap, cur, hv, hbg, hgg, hmc, hcm, hcs, htk⟩
  · subst hv hm
    have hy : ys = [] := List.eq_nil_of_length_eq_zero (by simpa using hsrc.1)
    subst hy
    refine wpList_want hgd ?_
    have hrun := run_append_owned_none (P := Tryd.prog) (w := w) base T o.type E i sz ht hi v n xs hown
    have hf := fin v w (by simpa using hown) (World.grownBy.refl _ _)
    unfold Oper.wp
    simp [execOp, ho, resolve, invoke, builtin, hs, hx, hrun, Result.andThen]
    exact hf
  · subst hv
    refine wpList_want hgd (wp_append_own w s x T ho base E i z sz bytes ht hi hz0 hz1 hz2 hz hsz v n xs hs hown ⟨g, 0, none⟩ m cap ys hx hsrc.1 (hsrc.cells rfl) h1 (by unfold maxLen; omega) hb hbase ?_)
    intro v' w' ho2 hg _
    exact fin v' w' ho2 hg
end Go.Proofs.YtidmjeehcmpjnaaDoor
