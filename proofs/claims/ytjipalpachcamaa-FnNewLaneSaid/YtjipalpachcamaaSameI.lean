/- YtjipalpachcamaaSameI: two equal lists of numbers are found equal; and appending one list of the call's own to another. No conditions but on the lengths. -/
import Derived.Test.YtjipalpachcamaaAlive
import Derived.Test.YtjipalpachcamaaMemI
import Derived.Laws.AppendOwnNone
import Derived.Deep.RegionLaw
namespace Go.Proofs.Ytjipalpachcamaa
open Go.ChangeShapes Go.WideShapes Go.ChangeAt Go.RowKit

set_option maxHeartbeats 1000000 in
theorem sameInts_same (v u : Value) (xs : List Int) (w : World) (h : RdI .i64 w v xs) (h' : RdI .i64 w u xs) :
    Calls Try.prog 40 #[v, u] w fun e w' => e = .returned (.bool true) ∧ Below w.heap.size w w' := by
  obtain ⟨a, c, b, off, rfl, hlc, hm, hb, hcell⟩ := h.form
  obtain ⟨a', c', b', off', rfl, hlc', hm', hb', hcell'⟩ := h'.form
  go_enter Try.func40, Try.ntmps40
  go_wp2_with fail
  go_loopg [5] xs.length (fun g i wr => ∃ k : Nat, k + g = xs.length ∧ i = .int .i64 k ∧ Below w.heap.size w wr)
  case atStart => exact ⟨0, by omega, rfl, Below.refl _ _⟩
  case round =>
    obtain ⟨k, hk, rfl, hbl⟩ := hrel
    by_cases hlt : k < xs.length
    · obtain ⟨x, hx⟩ := get_lt hlt
      obtain ⟨rfl, hc⟩ := hcell k x hx
      obtain ⟨rfl, hc2⟩ := hcell' k x hx
      have hne : xs ≠ [] := by rintro rfl; simp at hlt
      have hc3 : wr.cell? ⟨b, off + k, none⟩ = some (.int .i64 x) := (hbl.cell (hb hne)).trans hc
      have hc4 : wr.cell? ⟨b', off' + k, none⟩ = some (.int .i64 x) := (hbl.cell (hb' hne)).trans hc2
      clear hcell hcell' hc hc2 hx
      go_wp2
      go_quiet (fail)
      go_wp2
      go_roundg (xs.length - (k + 1))
      case measure => omega
      case rel => exact ⟨k + 1, by omega, by go_num, by first | exact hbl | exact hbl.drew | exact ⟨hbl.os, hbl.tape, hbl.output, hbl.size, hbl.block⟩⟩
    · clear hcell hcell'
      go_wp2
      go_ret
      exact ⟨rfl, hbl⟩
/-- 'append(v, vs...)', both the call's own. -/
theorem wpList_app2 {ops : Array Oper} {rest : List Oper} {o : Oper} {a : Act} {Q : Exit → Act → World → Prop} (w : World) (hgd : o.guard = none) (s x : Operand) (T E : TypeId) (ho : o.op = .call { callee := .builtin .append, args := #[s, x], argTypes := #[T, T] })
    (base base2 sz bytes : Nat) (z : Value) (ht : Try.prog.underlying T = some (.slice E)) (hinfo : (Try.prog.info? E).map (fun i => (i.zero, i.size, i.bytes)) = some (some z, sz, bytes)) (hz : z.cells.size = sz) (hsz : 0 < sz)
    (v vs : Value) (n m : Nat) (xs ys : List Value) (hown : w.ownsRow base E sz v n xs) (hsrc : w.ownsRow base2 E sz vs m ys) (h1 : ∀ u ∈ ys, u.oneCell' = true) (hs : a.eval s = v) (hx : a.eval x = vs) (h63 : n + m ≤ 9223372036854775807) (hb : (n + m) * bytes ≤ 140737488355328) (hbase : base ≤ w.heap.size)
    (h : ∀ v' w', w'.ownsRow base E sz v' (n + m) (xs ++ ys) → Wr w w' (fun b => v.ownBlock = some b) → (∀ B w0, B ≤ base → Below B w0 w → Below B w0 w') → wpList Try.prog ops Q rest (a.put o.dst v') w') :
    wpList Try.prog ops Q (o :: rest) a w := by
  obtain ⟨i, hi, hz0, hz1, hz2⟩ := info_parts hinfo
  have fin : ∀ v' w', w'.ownsRow base E sz v' (n + m) (xs ++ ys) → w.grownBy w' v.ownBlock → wpList Try.prog ops Q rest (a.put o.dst v') w' := fun v' w' ho2 hg => by
    have hw := Wr.of_grown hg
    refine h v' w' ho2 hw fun B w0 hB hb0 => ?_
    refine Below.wr hb0 hw (by omega) fun k hk => ?_
    have := (hown.lt k hk).1
    omega
  rcases hsrc.2 with ⟨hv, hm⟩ | ⟨g, cap, cur, hv, hbg, hgg, hmc, hcm, hcs, htk⟩
  · subst hv hm
    have hy : ys = [] := List.eq_nil_of_length_eq_zero (by simpa using hsrc.1)
    subst hy
    refine wpList_append_own_none hgd s x T ho base E i sz ht hi v n xs hs hown hx ?_
    exact fin _ _ (by simpa using hown) (World.grownBy.refl _ _)
  · subst hv
    refine wpList_append_own w hgd s x T ho base E i z sz bytes ht hi hz0 hz1 hz2 hz hsz v n xs hs hown ⟨g, 0, none⟩ m cap ys hx hsrc.1 (hsrc.cells rfl) h1 (by unfold maxLen; omega) hb hbase ?_
    intro v' w' ho2 hg _
    exact fin v' w' ho2 hg
/-- 'append(v, x, ..)' for m new elements in a region that draws its order: the new row; what was below stays. -/
theorem step_appN {ops : Array Oper} {o : Oper} {a : Act} {K : Act → World → Prop} {Q : Exit → Act → World → Prop} {Els : Prop} (w : World) (hgd : o.guard = none) (s x : Operand) (T E : TypeId) (ho : o.op = .call { callee := .builtin .append, args := #[s, x], argTypes := #[T, T] })
    (base sz bytes m : Nat) (us : List Value) (z : Value) (ht : Try.prog.underlying T = some (.slice E)) (hinfo : (Try.prog.info? E).map (fun i => (i.zero, i.size, i.bytes)) = some (some z, sz, bytes)) (hz : z.cells.size = sz) (hsz : 0 < sz) (hus : us.length = m * sz) (h1 : ∀ u ∈ us, u.oneCell' = true)
    (v : Value) (n : Nat) (xs : List Value) (hown : w.ownsRow base E sz v n xs) (hs : a.eval s = v) (hx : a.eval x = .slice (some ⟨w.heap.size, 0, none⟩) m m) (h63 : n + m ≤ 9223372036854775807) (hb : (n + m) * bytes ≤ 140737488355328) (hbase : base ≤ w.heap.size)
    (h : ∀ v' w', w'.ownsRow base E sz v' (n + m) (xs ++ us) → Wr w w' (fun b => v.ownBlock = some b) → (∀ B w0, B ≤ base → Below B w0 w → Below B w0 w') → K (a.put o.dst v') w') :
    if Region.wanted o (yielded ops a.tmps) = true then Oper.wp Try.prog o a (w.alloc (.cells us.toArray E)) K Q else Els := by
  have hwt : Region.wanted o (yielded ops a.tmps) = true := by simp [Region.wanted, hgd]
  rw [if_pos hwt]
  obtain ⟨i, hi, hz0, hz1, hz2⟩ := info_parts hinfo
  refine wp_append_own _ s x T ho base E i z sz bytes ht hi hz0 hz1 hz2 hz hsz v n xs hs (hown.alloc _) ⟨w.heap.size, 0, none⟩ m m us hx hus ?_ h1 (by unfold maxLen; omega) hb (by simp; omega) ?_
  · intro j u hj
    rw [Addr.add_lit, Nat.zero_add, cell_of_row _ w.heap.size j us.toArray E (0, 0) (heap_alloc_new w _)]
    simpa using hj
  · intro v' w' ho2 hg _
    have hw : Wr w w' (fun b => v.ownBlock = some b) := (Wr.of_below ((Below.refl _ _).alloc (Nat.le_refl _) _)).trans (Wr.of_grown hg)
    refine h v' w' ho2 hw fun B w0 hB hb0 => ?_
    refine Below.wr hb0 hw (by omega) fun k hk => ?_
    have := (hown.lt k hk).1
    omega
theorem oneI (xs : List Int) : ∀ u ∈ xs.map (Value.int .i64), u.oneCell' = true := by
  intro u hu
  obtain ⟨_, _, rfl⟩ := List.mem_map.1 hu
  rfl
end Go.Proofs.Ytjipalpachcamaa
