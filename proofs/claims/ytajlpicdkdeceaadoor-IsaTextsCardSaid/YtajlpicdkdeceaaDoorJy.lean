import Derived.Test.YtajlpicdkdeceaaDoorJd
import Derived.LaidLaws
import Derived.LaidSub
import Derived.ChangeVars
import Derived.Stop.Joined
import Derived.Stop.LaidErr
import Derived.Lib.LaidTab
import Derived.Handed
namespace Go.Proofs.YtajlpicdkdeceaaDoor
open Go.RowKit
set_option linter.unusedSimpArgs false
set_option linter.unusedVariables false
open Go.ChangeShapes Go.WideShapes Go.Shelf

/-- the rows' builder, with what is listed and with the world's shape both -/
theorem handed_laid_shaped {H : Type} {enc : TypeId × Value → H} {a : Assume} {C : Checked} {os : Os} {f : FuncId} {fn : Func} {s : ChangeSpec} {conds : List PathCond} {apart fresh handsOn again : Bool} {X : World → Array Value → Prop}
    (hX : ∀ (w w' : World) (args : Array Value), w.heap = w'.heap → X w args → X w' args)
    (own : ownKnob C.prog.godebug = none) (started : os.Started) (noInit : C.prog.inits.idxOf? f = none) (hfn : C.prog.funcs[f]? = some fn)
    (witness : ∃ (w : World) (tape : Tape) (i : Input), w.os = os ∧ (w.forCall tape i).Shaped C.prog ∧ i.vars = [] ∧ Input.okWide C.prog (w.forCall tape i) .any w.heap.size f i ∧
      ((s.pre enc C.prog fn conds apart (w.forCall tape i).memory i.args ∧ X (w.forCall tape i).memory i.args) ∧ sizedMet enc C.prog fn (OpenSpec.ofChange s) apart (w.forCall tape i).memory i.args) ∧ a.holds C.prog (lone (Frame.enter C.prog f i.args .normal) [] (w.forCall tape i)))
    (walk : ∀ (W : World) (base : Nat) (args : Array Value) (ds gs : List (DataW H)) (before : List MemPlace),
      (∀ (j : Nat) t v, fn.params[j]? = some t → args[j]? = some v → Value.okWide C.prog W .any base t v) →
      DataW.Whole enc C.prog fn.params.toList s.vars apart W args.toList ds gs before →
      (DataW.weightsEach C.prog (fn.params.toList ++ s.plain.varTypes C.prog) (ds ++ gs)).all (· ≤ reachBytes) = true → W.ShapedOpen C.prog → X W args →
      Calls C.prog f args W fun e W' => ∃ v, e = .returned v ∧ s.post enc C.prog fn apart fresh handsOn again W args v W') :
    ReturnsInHanded a C os f .any (fun w args => (s.pre enc C.prog fn conds apart w args ∧ X w args) ∧ sizedMet enc C.prog fn (OpenSpec.ofChange s) apart w args) (s.post enc C.prog fn apart fresh handsOn again) := by
  refine returnsInHanded_of_calls own started noInit witness ?_
  intro w tape i _ hsh _ hok hpre _
  obtain ⟨_, _, _, fn', hfn', _, _, _, _, hval⟩ := hok
  obtain rfl : fn' = fn := Option.some.inj (hfn'.symm.trans hfn)
  obtain ⟨⟨⟨ds, gs, before, hw, _⟩, hx⟩, hz⟩ := hpre
  refine (walk (w.forCall tape i) w.heap.size i.args ds gs before hval (DataW.Whole.of_heap (w' := w.forCall tape i) (by rfl) hw) (hz.weights hw) hsh (hX _ _ _ (by rfl) hx)).mono fun e W' ⟨v, he, hp⟩ => ?_
  subst he
  exact ChangeSpec.post_blind hp
/-- what the rows list -/
def laidL : List (String × DataW Unit) := [("math/bits.deBruijn32tab", Rows.laid_math_bits_deBruijn32tab), ("math/bits.deBruijn64tab", Rows.laid_math_bits_deBruijn64tab), ("internal/strconv.uint64pow10", Rows.laid_internal_strconv_uint64pow10), ("unicode/utf8.acceptRanges", Rows.laid_unicode_utf8_acceptRanges), ("strconv.ErrRange", Rows.laid_strconv_ErrRange), ("strconv.ErrSyntax", Rows.laid_strconv_ErrSyntax), ("unicode/utf8.first", Rows.laid_unicode_utf8_first)]
theorem gS : Tryd.prog.globalNamed "strconv.ErrSyntax" = some 1 := by kernel_rfl
theorem gSType : (Tryd.prog.globals[1]?).map (·.type) = some 58 := by kernel_rfl
theorem gR : Tryd.prog.globalNamed "strconv.ErrRange" = some 2 := by kernel_rfl
theorem gRType : (Tryd.prog.globals[2]?).map (·.type) = some 58 := by kernel_rfl
theorem gP : Tryd.prog.globalNamed "internal/strconv.uint64pow10" = some 3 := by kernel_rfl
theorem gPType : (Tryd.prog.globals[3]?).map (·.type) = some 115 := by kernel_rfl
theorem cells123 : Tryd.prog.cellsOf 123 = 1 := by kernel_rfl
theorem cells9 : Tryd.prog.cellsOf 9 = 1 := by kernel_rfl
theorem star9 : "*" ++ "errors.errorString" = "*errors.errorString" := by decide
theorem row121 (u : TypeId) (h : Tryd.prog.typeName? 3 u = some "*errors.errorString") : u = 121 :=
  typeName_ptr_named (nm := "errors.errorString") (by rw [star9]; kernel_rfl) (by kernel_rfl) (by decide) u (by rw [star9]; exact h)
theorem pow_data : (Rows.laid_internal_strconv_uint64pow10 : DataW Unit) = Lib.tabData .u64 Lib.pow10Tab := by rfl
theorem env_of_laid {W : World} (h : laidMetH Tryd.prog laidL W) (hsh : W.ShapedOpen Tryd.prog) : Env W := by
  have h1 := (laidMetH_iff.1 h).1
  have e : (laidL.filter fun x => x.2.handleName?.isNone) = laidL := rfl
  rw [e] at h1
  have hp := h1.tail.tail
  have hr := hp.tail.tail
  have hs := hr.tail
  rw [pow_data] at hp
  obtain ⟨a0, s0, hv0, _, _, _⟩ := laid_sentinel hr gR gRType Tryd.underlying58 row121 Tryd.underlying121 Tryd.underlying123 rfl rfl Tryd.underlying9 cells123 cells9
  obtain ⟨a1, s1, hv1, _, _, _⟩ := laid_sentinel hs gS gSType Tryd.underlying58 row121 Tryd.underlying121 Tryd.underlying123 rfl rfl Tryd.underlying9 cells123 cells9
  obtain ⟨m, hm⟩ := Tryd.laysM146.s1_3 W hsh
  exact ⟨⟨m, hm⟩, Nat.lt_of_le_of_lt (Nat.zero_le _) (World.block_lt_of_cell? (a := ⟨0, 0, none⟩) _ hm), Lib.tabIs_of_head gP gPType Tryd.underlying115 Tryd.underlying31 (by kernel_rfl) (by kernel_rfl) hp, ⟨_, _, hv1⟩, _, _, hv0⟩
/-! ### one start that fits -/
def synS : ByteArray := ⟨#[105, 110, 118, 97, 108, 105, 100, 32, 115, 121, 110, 116, 97, 120]⟩
def rngS : ByteArray := ⟨#[118, 97, 108, 117, 101, 32, 111, 117, 116, 32, 111, 102, 32, 114, 97, 110, 103, 101]⟩
/-- the integers of a datum, in turn -/
def litsOf : List (DataW Unit) → List Value
  | [] => []
  | .lit (.int k n) :: r => .int k n :: litsOf r
  | .agg [.lit (.int k n), .lit (.int k' n')] :: r => .int k n :: .int k' n' :: litsOf r
  | _ :: r => litsOf r
def cellsD : DataW Unit → Array Value
  | .agg l => (litsOf l).toArray
  | _ => #[]
noncomputable def low : Nat := (World.holding Tryd.prog default ⟨#[], #[], []⟩).heap.size
def put9 (o : Obj) (cs : Array Value) : Obj := match o with
  | .cells _ t frozen => .cells cs t frozen
  | o => o
noncomputable def laidWorld (os : Os) : World :=
  let w0 := World.holding Tryd.prog os ⟨#[.cells #[.string synS] 123, .cells #[.string rngS] 123], #[], []⟩
  { w0 with heap := ((((((w0.heap.modify 1 (put9 · #[.iface 121 (.pointer (some ⟨low, 0, none⟩))])).modify 2 (put9 · #[.iface 121 (.pointer (some ⟨low + 1, 0, none⟩))])).modify 3 (put9 · (cellsD Rows.laid_internal_strconv_uint64pow10))).modify 4 (put9 · (cellsD Rows.laid_unicode_utf8_first))).modify 5 (put9 · (cellsD Rows.laid_unicode_utf8_acceptRanges))).modify 6 (put9 · (cellsD Rows.laid_math_bits_deBruijn32tab))).modify 7 (put9 · (cellsD Rows.laid_math_bits_deBruijn64tab)) }
theorem laidWorld_met (os : Os) (args : Array Value) : laidMetH Tryd.prog laidL ((laidWorld os).forCall (fun _ _ => 0) ⟨#[], args, []⟩).memory := by
  exact laidMet_of_run' 8 (by kernel_rfl) (by kernel_rfl)
end Go.Proofs.YtajlpicdkdeceaaDoor
