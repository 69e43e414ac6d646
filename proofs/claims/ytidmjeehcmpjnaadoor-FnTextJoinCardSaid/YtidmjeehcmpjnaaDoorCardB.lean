/- YtidmjeehcmpjnaaDoorCardB: the frame of this seat's cards: a builder that keeps the world's shape, what the listed variables hold, and the witness. No Go function is walked here. No conditions. -/
import Derived.Test.YtidmjeehcmpjnaaDoorBase
import Derived.Test.YtidmjeehcmpjnaaDoorTie
import Derived.Test.YtidmjeehcmpjnaaDoorCards
import Derived.Test.YtidmjeehcmpjnaaDoorTxtP
import Derived.SevenTiedAt
import Derived.Lay
import Derived.LaidMore
import Derived.OpenVars
import Derived.HandedShaped
import Derived.Lib.LaidTab
import Derived.Lib.LaidU8
import Derived.Stop.LaidErr
import Derived.Shelf.Vars
namespace Go.Proofs.YtidmjeehcmpjnaaDoor
open Go.ChangeShapes Go.WideShapes Go.ChangeAt Go.RowKit
set_option linter.unusedVariables false
section
variable {H : Type} {enc : TypeId × Value → H}
/-- The wrap with a condition on the world, the world's shape kept. -/
theorem handed_and_shaped {a : Assume} {C : Checked} {os : Os} {f : FuncId} {fn : Func} {s : ChangeSpec} {conds : List PathCond} {apart fresh handsOn again : Bool} {X : World → Array Value → Prop}
    (hX : ∀ (w w' : World) (args : Array Value), w.heap = w'.heap → X w args → X w' args)
    (own : ownKnob C.prog.godebug = none) (started : os.Started) (noInit : C.prog.inits.idxOf? f = none) (hfn : C.prog.funcs[f]? = some fn)
    (witness : ∃ (w : World) (tape : Tape) (i : Input), w.os = os ∧ (w.forCall tape i).Shaped C.prog ∧ i.vars = [] ∧ Input.okWide C.prog (w.forCall tape i) .any w.heap.size f i ∧
      ((s.pre enc C.prog fn conds apart (w.forCall tape i).memory i.args ∧ X (w.forCall tape i).memory i.args) ∧ sizedMet enc C.prog fn (OpenSpec.ofChange s) apart (w.forCall tape i).memory i.args) ∧ a.holds C.prog (lone (Frame.enter C.prog f i.args .normal) [] (w.forCall tape i)))
    (contract : ∀ (W : World) (base : Nat) (args : Array Value) (ds gs : List (DataW H)) (before : List MemPlace),
      (∀ (j : Nat) t v, fn.params[j]? = some t → args[j]? = some v → Value.okWide C.prog W .any base t v) →
      DataW.Whole enc C.prog fn.params.toList s.vars apart W args.toList ds gs before →
      (DataW.weightsEach C.prog (fn.params.toList ++ s.plain.varTypes C.prog) (ds ++ gs)).all (· ≤ reachBytes) = true → W.ShapedOpen C.prog → X W args →
      Calls C.prog f args W fun e W' => ∃ v, e = .returned v ∧ s.post enc C.prog fn apart fresh handsOn again W args v W') :
    ReturnsInHanded a C os f .any (fun w args => (s.pre enc C.prog fn conds apart w args ∧ X w args) ∧ sizedMet enc C.prog fn (OpenSpec.ofChange s) apart w args) (s.post enc C.prog fn apart fresh handsOn again) := by
  refine returnsInHanded_of_calls own started noInit witness ?_
  intro w tape i _ hsh _ hok hpre hholds
  obtain ⟨_, _, _, fn', hfn', _, _, _, _, hval⟩ := hok
  have e : fn' = fn := Option.some.inj (hfn'.symm.trans hfn)
  subst e
  obtain ⟨⟨⟨ds, gs, before, hw, hc⟩, hx⟩, hz⟩ := hpre
  have hw' := DataW.Whole.of_heap (w' := w.forCall tape i) (by rfl) hw
  refine (contract (w.forCall tape i) w.heap.size i.args ds gs before hval hw' (hz.weights hw) hsh (hX _ _ _ (by rfl) hx)).mono fun e W' ⟨v, he, hp⟩ => ?_
  subst he
  exact ChangeSpec.post_blind hp
end
theorem var_below {W W' : World} {n : String} {cs : Array Value} (h : W.var? Tryd.prog n = some cs) (hb : Below W.heap.size W W') : W'.var? Tryd.prog n = some cs := by
  unfold World.var? at h ⊢
  cases hg : Tryd.prog.globalNamed n with
  | none => rw [hg] at h; cases h
  | some g =>
    rw [hg] at h
    simp only [Option.bind_some] at h ⊢
    have hlt : g < W.heap.size := by
      cases hh : W.heap[g]? with
      | none => rw [hh] at h; cases h
      | some o => exact (Array.getElem?_eq_some_iff.1 hh).1
    rw [hb.block g hlt]; exact h

theorem gNames : Tryd.prog.globalNamed "loop.example/lanekernel/impl.opNames" = some 0 := by kernel_rfl
theorem tNames : (Tryd.prog.globals[0]?).map (·.type) = some 66 := by kernel_rfl
theorem gPow : Tryd.prog.globalNamed "internal/strconv.uint64pow10" = some 3 := by kernel_rfl
theorem tPow : (Tryd.prog.globals[3]?).map (·.type) = some 117 := by kernel_rfl
theorem cellsStr : Tryd.prog.cellsOf 9 = 1 := by kernel_rfl
theorem cellsU64 : Tryd.prog.cellsOf 101 = 1 := by kernel_rfl
theorem cellsPow : Tryd.prog.cellsOf 117 = 20 := by kernel_rfl

/-- The names of the operations, read off the variable. -/
theorem names_of_reads {W : World} (h : Lib.VarReads Tryd.prog W "loop.example/lanekernel/impl.opNames" Rows.laid_loop_example_lanekernel_impl_opNames) (i : Nat) (x : List UInt8) (hi : nmL[i]? = some x) :
    W.cell? ⟨0, i, none⟩ = some (.string ⟨x.toArray⟩) := by
  obtain ⟨g, t, cs, fuel, p, hg, ht, hv, hd⟩ := h
  obtain rfl := Option.some.inj (gNames.symm.trans hg)
  obtain rfl := Option.some.inj (tNames.symm.trans ht)
  obtain ⟨xs, m, _, ex, _, hl, hel⟩ := DataW.trod_array Tryd.underlying66 hd
  have h15 : nmL.length = 15 := by decide
  have hlt : i < 15 := by have := (List.getElem?_eq_some_iff.1 hi).1; omega
  have hE := hel i hlt
  rw [cellsStr, Nat.mul_one, List.getElem?_eq_getElem (by omega)] at hE
  obtain ⟨s, e1, e2, _⟩ := DataW.trod_string Tryd.underlying9 hE
  have e3 : xs.map (·.1) = nmL.map fun l => (DataW.lit (.string l) : DataW Unit) := (DataW.agg.inj (Prod.mk.inj ex).1).symm
  have e4 : (xs.map (·.1))[i]? = (nmL.map fun l => (DataW.lit (.string l) : DataW Unit))[i]? := by rw [e3]
  rw [List.getElem?_map, List.getElem?_map, List.getElem?_eq_getElem (by omega : i < xs.length), hi, e2] at e4
  simp only [Option.map_some, Option.some.injEq, DataW.lit.injEq, Lit.string.injEq] at e4
  rw [World.var?_cell hg hv i]
  have h0 : ((cs.toList.drop i).take 1)[0]? = some (.string s) := by rw [e1]; rfl
  have h1 : cs.toList[i]? = some (.string s) := by simpa using h0
  have h2 : s = ⟨x.toArray⟩ := by rw [← e4]
  rw [← h2]
  simpa using h1

/-- What the listed variables hold, as the contracts on texts ask it. -/
structure LaidA (w : World) : Prop where
  pow : Lib.TabIs Tryd.prog w "internal/strconv.uint64pow10" .u64 Lib.pow10Tab
  names : ∀ (i : Nat) (x : List UInt8), nmL[i]? = some x → w.cell? ⟨0, i, none⟩ = some (.string ⟨x.toArray⟩)
structure LaidB (w : World) : Prop extends LaidA w where
  syn : ∃ tp p, w.var? Tryd.prog "strconv.ErrSyntax" = some #[.iface tp p]
  rng : ∃ tp p, w.var? Tryd.prog "strconv.ErrRange" = some #[.iface tp p]
  max : ∃ m, w.cell? ⟨4, 0, none⟩ = some (.int .i64 m)
theorem LaidA.below {w w' : World} (h : LaidA w) (hb : Below w.heap.size w w') : LaidA w' :=
  ⟨var_below h.pow hb, fun i x hi => (hb.cell (World.block_lt_of_cell? w _ (h.names i x hi))).trans (h.names i x hi)⟩
theorem LaidB.below {w w' : World} (h : LaidB w) (hb : Below w.heap.size w w') : LaidB w' := by
  obtain ⟨ta, pa, ha⟩ := h.syn
  obtain ⟨tb, pb, hb2⟩ := h.rng
  obtain ⟨m, hm⟩ := h.max
  exact ⟨h.toLaidA.below hb, ⟨ta, pa, var_below ha hb⟩, ⟨tb, pb, var_below hb2 hb⟩, ⟨m, (hb.cell (World.block_lt_of_cell? w _ hm)).trans hm⟩⟩

theorem datumPow : (Rows.laid_internal_strconv_uint64pow10 : DataW Unit) = Lib.tabData .u64 Lib.pow10Tab := by kernel_rfl
theorem datumNames : (Rows.laid_loop_example_lanekernel_impl_opNames : DataW Unit) = .agg (nmL.map fun l => .lit (.string l)) := rfl
theorem pow_of_reads {W : World} (h : Lib.VarReads Tryd.prog W "internal/strconv.uint64pow10" Rows.laid_internal_strconv_uint64pow10) : Lib.TabIs Tryd.prog W "internal/strconv.uint64pow10" .u64 Lib.pow10Tab := by
  obtain ⟨g, t, cs, fuel, p, hg, ht, hv, hd⟩ := h
  obtain rfl := Option.some.inj (gPow.symm.trans hg)
  obtain rfl := Option.some.inj (tPow.symm.trans ht)
  rw [datumPow] at hd
  unfold Lib.TabIs
  rw [hv, ← Lib.cells_of_tab Tryd.underlying117 Tryd.underlying101 cellsU64 cellsPow hd]
def laidA : List (String × DataW Unit) := Rows.fnExactCodeTextRow.laid
def laidB : List (String × DataW Unit) := Rows.fnExactReadCodeRow.laid
theorem laidA_of {W : World} (h : laidMetH Tryd.prog laidA W) : LaidA W := by
  rw [MakeChecks.laidMetH_plain _ _ _ (by kernel_rfl)] at h
  exact ⟨pow_of_reads (Lib.laidMet.reads h (.tail _ (.tail _ (.head _)))), names_of_reads (Lib.laidMet.reads h (.tail _ (.tail _ (.tail _ (.head _)))))⟩

theorem gES : Tryd.prog.globalNamed "strconv.ErrSyntax" = some 1 := by kernel_rfl
theorem gEST : (Tryd.prog.globals[1]?).map (·.type) = some 74 := by kernel_rfl
theorem gER : Tryd.prog.globalNamed "strconv.ErrRange" = some 2 := by kernel_rfl
theorem gERT : (Tryd.prog.globals[2]?).map (·.type) = some 74 := by kernel_rfl
theorem cellsEs : Tryd.prog.cellsOf 125 = 1 := by kernel_rfl
theorem starES : "*" ++ "errors.errorString" = "*errors.errorString" := by decide
theorem rowES (u : TypeId) (h : Tryd.prog.typeName? 3 u = some "*errors.errorString") : u = 123 :=
  typeName_ptr_named (nm := "errors.errorString") (by rw [starES]; kernel_rfl) (by kernel_rfl) (by decide) u (by rw [starES]; exact h)
theorem laidB_of {W : World} (h : laidMetH Tryd.prog laidB W) (hs : W.ShapedOpen Tryd.prog) : LaidB W := by
  rw [MakeChecks.laidMetH_plain _ _ _ (by kernel_rfl)] at h
  refine ⟨⟨pow_of_reads (Lib.laidMet.reads h (.tail _ (.tail _ (.head _)))), names_of_reads (Lib.laidMet.reads h (.tail _ (.tail _ (.tail _ (.tail _ (.tail _ (.tail _ (.head _))))))))⟩, ?_, ?_, ?_⟩
  · obtain ⟨a, s, hv, _⟩ := laid_sentinel h.tail.tail.tail.tail.tail gES gEST Tryd.underlying74 rowES Tryd.underlying123 Tryd.underlying125 rfl rfl Tryd.underlying9 cellsEs cellsStr
    exact ⟨_, _, hv⟩
  · obtain ⟨a, s, hv, _⟩ := laid_sentinel h.tail.tail.tail.tail gER gERT Tryd.underlying74 rowES Tryd.underlying123 Tryd.underlying125 rfl rfl Tryd.underlying9 cellsEs cellsStr
    exact ⟨_, _, hv⟩
  · exact cell_of_shapedOpen_int (t := 3) (zero := #[.int .i64 0]) hs (of_decide_eq_true (by kernel_rfl)) (by kernel_rfl) rfl (by kernel_rfl) (by kernel_rfl) Tryd.underlying3
theorem vars_one {H : Type} {enc : TypeId × Value → H} {P : Program} {W : World} {sp : Nat → Bool} {n : String} : ∀ {gs : List (DataW H)} {q : List MemPlace}, DataW.TrodVars enc P W sp [n] gs q → ∃ g, gs = [g]
  | [g], _, _ => ⟨g, rfl⟩
  | [], _, h => h.elim
  | _ :: _ :: _, _, h => by
    obtain ⟨_, _, _, _, _, _, _, _, _, _, hs, _⟩ := h
    exact hs.elim
theorem varsKept : varsRowed Tryd.prog ["loop.example/lanekernel/impl.opNames"] = true := by kernel_rfl
end Go.Proofs.YtidmjeehcmpjnaaDoor
