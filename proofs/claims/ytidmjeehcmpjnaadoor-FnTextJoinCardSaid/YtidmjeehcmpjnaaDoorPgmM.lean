/- YtidmjeehcmpjnaaDoorPgmM: lists of instructions in memory, and the kinds of open blocks as a list. No Go function is walked here. No conditions. -/
import Derived.Test.YtidmjeehcmpjnaaDoorCodeM
import Derived.Test.YtidmjeehcmpjnaaDoorPgmQ
namespace Go.Proofs.YtidmjeehcmpjnaaDoor
open Go.ChangeShapes Go.WideShapes Go.ChangeAt Go.RowKit
set_option linter.unusedVariables false

/-- The first m elements of an owned row. -/
theorem own_take {w : World} {base e sz n g cap m : Nat} {cs : List Value} (h : w.ownsRow base e sz (.slice (some ⟨g, 0, none⟩) n cap) n cs) (hm : m ≤ n) : w.ownsRow base e sz (.slice (some ⟨g, 0, none⟩) m cap) m (cs.take (m * sz)) := by
  have hle : m * sz ≤ n * sz := Nat.mul_le_mul_right sz hm
  refine ⟨by rw [List.length_take, h.1]; omega, ?_⟩
  rcases h.2 with ⟨h', _⟩ | ⟨g', cap', cur, h', hb, hg, hnc, hcm, hcs, htk⟩
  · simp at h'
  · simp only [Value.slice.injEq, Option.some.injEq, Addr.mk.injEq, and_true, true_and] at h'
    obtain ⟨rfl, rfl⟩ := h'
    refine .inr ⟨g, cap, cur, rfl, hb, hg, Nat.le_trans hm hnc, hcm, hcs, ?_⟩
    rw [← htk, List.take_take, Nat.min_eq_left hle]
/-- The cells of a list of instructions. -/
def CdsAt (w : World) (b off : Nat) (cs : List Cd) : Prop := ∀ i c, cs[i]? = some c → w.cell? ⟨b, off + i * 4, none⟩ = some (.int .i64 c.op) ∧ w.cell? ⟨b, off + i * 4 + 1, none⟩ = some (.int .i64 c.a) ∧ w.cell? ⟨b, off + i * 4 + 2, none⟩ = some (.int .i64 c.b) ∧ w.cell? ⟨b, off + i * 4 + 3, none⟩ = some (.int .i64 c.c)
theorem RdC.opened {w : World} {v : Value} {cs : List Cd} (h : RdC w v cs) :
    ∃ a n b off, v = .slice a cs.length n ∧ cs.length ≤ n ∧ n ≤ 9223372036854775807 ∧ (cs ≠ [] → b < w.heap.size ∧ a = some ⟨b, off, none⟩) ∧ CdsAt w b off cs := by
  obtain ⟨a, n, b, off, hv, h1, h2, h3, h4⟩ := h.form
  refine ⟨a, n, b, off, hv, h1, h2, fun hne => ⟨h3 hne, ?_⟩, fun i c hi => (h4 i c hi).2⟩
  obtain ⟨c, hc⟩ := get_lt (List.length_pos_iff.2 hne)
  exact (h4 0 c hc).1
theorem ne_of_get {cs : List Cd} {k : Nat} {c : Cd} (hx : cs[k]? = some c) : cs ≠ [] := by rintro rfl; simp at hx
theorem CdsAt.get {w wr : World} {cs : List Cd} {a : Option Addr} {b off B : Nat} (h : CdsAt w b off cs) (hb : cs ≠ [] → b < B ∧ a = some ⟨b, off, none⟩) (hbl : Below B w wr) {k : Nat} {c : Cd} (hx : cs[k]? = some c) :
    wr.cell? ⟨b, off + k * 4, none⟩ = some (.int .i64 c.op) ∧ wr.cell? ⟨b, off + k * 4 + 1, none⟩ = some (.int .i64 c.a) ∧ wr.cell? ⟨b, off + k * 4 + 2, none⟩ = some (.int .i64 c.b) ∧ wr.cell? ⟨b, off + k * 4 + 3, none⟩ = some (.int .i64 c.c) := by
  have hq := fun o => hbl.cell (p := ⟨b, o, none⟩) (hb (ne_of_get hx)).1
  obtain ⟨h1, h2, h3, h4⟩ := h k c hx
  exact ⟨(hq _).trans h1, (hq _).trans h2, (hq _).trans h3, (hq _).trans h4⟩
/-- The kinds of the open blocks, the outermost first. -/
def kinds (s : List Fr) : List Int := (s.map Fr.kind).reverse
theorem kinds_length (s : List Fr) : (kinds s).length = s.length := by simp [kinds]
theorem kinds_cons (f : Fr) (s : List Fr) : kinds (f :: s) = kinds s ++ [f.kind] := by simp [kinds]
theorem kinds_top (f : Fr) (s : List Fr) : (kinds (f :: s))[s.length]? = some f.kind := by rw [kinds_cons, List.getElem?_append_right (by rw [kinds_length]; exact Nat.le_refl _)]; simp [kinds_length]
theorem kinds_set (f : Fr) (s : List Fr) (x : Int) : (kinds (f :: s)).set s.length x = kinds s ++ [x] := by rw [kinds_cons, List.set_append_right _ _ (by rw [kinds_length]; exact Nat.le_refl _)]; simp [kinds_length]
theorem kinds_take (f : Fr) (s : List Fr) : (kinds (f :: s)).take s.length = kinds s := by rw [kinds_cons, List.take_append_of_le_length (by rw [kinds_length]; exact Nat.le_refl _), List.take_of_length_le (by rw [kinds_length]; exact Nat.le_refl _)]
theorem valid_fin {cs : List Cd} {s : List Fr} (hv : ∀ j c, j < cs.length → cs[j]? = some c → cValid c = true) (hs : stk cs cs.length = some s) : pValid cs = (decide (s.length = 0) && decide ((cs.length : Int) ≤ 40)) := by
  have ha : cs.all cValid = true := by
    rw [List.all_eq_true]
    intro c hc
    obtain ⟨j, hj⟩ := List.mem_iff_getElem?.1 hc
    exact hv j c (List.getElem?_eq_some_iff.1 hj).1 hj
  unfold pValid sOk
  have e : decide (cs.length ≤ 40) = decide ((cs.length : Int) ≤ 40) := by
    by_cases h : cs.length ≤ 40
    · rw [decide_eq_true h, decide_eq_true (by omega)]
    · rw [decide_eq_false h, decide_eq_false (by omega)]
  rw [ha, hs, Bool.true_and, Bool.and_comm, e]
  cases s <;> simp [closed]
theorem kinds_open (k : Nat) (op : Int) (s : List Fr) : (kinds (⟨k, op, -1⟩ :: s)).map (Value.int .i64) = (kinds s).map (Value.int .i64) ++ [.int .i64 op] := by
  rw [kinds_cons]; simp [Fr.kind]
theorem kinds_else (p k : Nat) (op : Int) (s : List Fr) : kinds (⟨p, op, k⟩ :: s) = kinds s ++ [12] := by
  rw [kinds_cons]; simp only [Fr.kind]; rw [if_neg (by omega)]
theorem valid_snoc {cs : List Cd} {k : Nat} {c : Cd} (hv : ∀ j c, j < k → cs[j]? = some c → cValid c = true) (hc : cs[k]? = some c) (h : cValid c = true) : ∀ j c, j < k + 1 → cs[j]? = some c → cValid c = true := by
  intro j d hj hd
  by_cases hjk : j = k
  · subst hjk; rw [hc] at hd; rw [← Option.some.inj hd]; exact h
  · exact hv j d (by omega) hd
end Go.Proofs.YtidmjeehcmpjnaaDoor
