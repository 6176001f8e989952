/- From what the parse laws' rows list (the library's variables, a type's handle among them) to what the walks ask; and a world that has it. -/
import Derived.Test.YtebblpmocheelaaGreatDoorParY
import Derived.LaidHandle
import Derived.LaidSub
import Derived.Test.YtebblpmocheelaaGreatDoorRows
import Derived.Lib.LaidIn
import Derived.Lib.LaidU8T
import Derived.Lib.LaidTab
import Derived.Stop.LaidErr
import Derived.Deep.DeepHandedRow
import Derived.Deep.DeepWitnessRowRef
import Derived.ProofKit
import Derived.OpenShut
import Derived.SizedLaws
import Derived.Shelf.Vars
namespace Go.Proofs.YtebblpmocheelaaGreatDoor
open Go.ChangeShapes Go.WideShapes Go.ChangeAt Go.RowKit Go.Lib Go.Shelf

/-- What every row here lists. -/
def laidL : List (String × DataW Unit) := Rows.parseIsRow.laid
/-- .. the handle left out. -/
def laidP : List (String × DataW Unit) := [("math/bits.deBruijn32tab", Rows.laid_math_bits_deBruijn32tab), ("math/bits.deBruijn64tab", Rows.laid_math_bits_deBruijn64tab), ("internal/strconv.uint64pow10", Rows.laid_internal_strconv_uint64pow10), ("unicode/utf8.acceptRanges", Rows.laid_unicode_utf8_acceptRanges), ("strconv.ErrRange", Rows.laid_strconv_ErrRange), ("strconv.ErrSyntax", Rows.laid_strconv_ErrSyntax), ("unicode/utf8.first", Rows.laid_unicode_utf8_first)]
theorem laidP_eq : (laidL.filter fun x => x.2.handleName?.isNone) = laidP := by kernel_rfl
theorem laidT_eq : (laidL.filter fun x => x.2.handleName?.isSome) = [("errors.errorType", Rows.laid_errors_errorType)] := by kernel_rfl

theorem own : ownKnob Tryz.prog.godebug = none := by kernel_rfl
theorem laid_plain {W : World} (h : laidMetH Tryz.prog laidL W) : laidMet Tryz.prog laidP W := by
  have := (laidMetH_iff.1 h).1
  rw [laidP_eq] at this
  exact this
theorem et_global : Tryz.prog.globalNamed "errors.errorType" = some 0 := by kernel_rfl
theorem et_rtype : (Tryz.prog.cutTypes.find? (·.1 == "internal/reflectlite.rtype")).map (·.2) = some 158 := by kernel_rfl
theorem et_row : ((List.range 252).filter fun t => Tryz.prog.rowNamed t [101, 114, 114, 111, 114]) = [58] := by kernel_rfl
theorem et_size : Tryz.prog.types.size = 252 := by kernel_rfl
theorem et_of_row {W : World} (h : laidMetH Tryz.prog laidL W) : W.cell? ⟨0, 0, none⟩ = some (.iface 158 (.agg #[.pointer (some ⟨9, 58, none⟩)])) := by
  have h' := (laidMetH_iff.1 h).2
  rw [laidT_eq] at h'
  obtain ⟨name, u, ty, e1, e2, e3, e4, e5⟩ := h' _ (List.mem_singleton.2 rfl)
  have en : name = [101, 114, 114, 111, 114] := (Option.some.inj e1).symm
  subst en
  obtain rfl := Option.some.inj (et_rtype.symm.trans e2)
  have hm : ty ∈ (List.range 252).filter fun t => Tryz.prog.rowNamed t [101, 114, 114, 111, 114] := List.mem_filter.2 ⟨List.mem_range.2 (by rw [← et_size]; exact e3), e4⟩
  rw [et_row] at hm
  obtain rfl := List.mem_singleton.1 hm
  have hh : typeHandle Tryz.prog 58 = .pointer (some ⟨9, 58, none⟩) := by kernel_rfl
  rw [hh] at e5
  simpa using World.var?_cell et_global e5 0

theorem pow_eq : (Rows.laid_internal_strconv_uint64pow10 : DataW Unit) = tabData .u64 pow10Tab := by kernel_rfl
theorem acc_eq : (Rows.laid_unicode_utf8_acceptRanges : DataW Unit) = acceptData := by kernel_rfl
theorem first_eq : Rows.laid_unicode_utf8_first = firstData := by kernel_rfl

theorem tabIs_of_reads {W : World} {name : String} {k : IntKind} {zs : List Int} {g : Nat} {t e : TypeId} {n : Nat}
    (hg : Tryz.prog.globalNamed name = some g) (hty : (Tryz.prog.globals[g]?).map (·.type) = some t) (ht : Tryz.prog.underlying t = some (.array n e)) (he : Tryz.prog.underlying e = some (.int k)) (hce : Tryz.prog.cellsOf e = 1) (hct : Tryz.prog.cellsOf t = n)
    (h : VarReads Tryz.prog W name (tabData k zs)) : TabIs Tryz.prog W name k zs := by
  obtain ⟨g', t', cs, fuel, p, hg', ht', hvar, hd⟩ := h
  obtain rfl := Option.some.inj (hg.symm.trans hg')
  obtain rfl := Option.some.inj (hty.symm.trans ht')
  unfold TabIs
  rw [hvar, ← cells_of_tab ht he hce hct hd]

theorem pow_type : (Tryz.prog.globals[3]?).map (·.type) = some 187 := by kernel_rfl
theorem pow_cells : Tryz.prog.cellsOf 187 = 20 := by kernel_rfl
theorem u64_cells : Tryz.prog.cellsOf 130 = 1 := by kernel_rfl
theorem u64_int : Tryz.prog.underlying 130 = some (.int .u64) := Tryz.underlying130
theorem star : "*" ++ "errors.errorString" = "*errors.errorString" := by decide
theorem rowErr (u : TypeId) (h : Tryz.prog.typeName? 3 u = some "*errors.errorString") : u = 222 :=
  typeName_ptr_named (nm := "errors.errorString") (by rw [star]; kernel_rfl) (by kernel_rfl) (by decide) u (by rw [star]; exact h)
theorem gSyn : Tryz.prog.globalNamed "strconv.ErrSyntax" = some 7 := by kernel_rfl
theorem gRan : Tryz.prog.globalNamed "strconv.ErrRange" = some 8 := by kernel_rfl
theorem gSynT : (Tryz.prog.globals[7]?).map (·.type) = some 58 := by kernel_rfl
theorem gRanT : (Tryz.prog.globals[8]?).map (·.type) = some 58 := by kernel_rfl
theorem errCells : Tryz.prog.cellsOf 224 = 1 := by kernel_rfl
theorem strCells : Tryz.prog.cellsOf 9 = 1 := by kernel_rfl

theorem env_of_row {W : World} (hL : laidMetH Tryz.prog laidL W) (hs : W.ShapedOpen Tryz.prog) : PEnv W := by
  have h := laid_plain hL
  have hpow : VarReads Tryz.prog W "internal/strconv.uint64pow10" (tabData .u64 pow10Tab) := laidMet.reads h (by rw [← pow_eq]; exact .tail _ (.tail _ (.head _)))
  have hacc : VarReads Tryz.prog W "unicode/utf8.acceptRanges" acceptData := laidMet.reads h (by rw [← acc_eq]; exact .tail _ (.tail _ (.tail _ (.head _))))
  have hfst : VarReads Tryz.prog W "unicode/utf8.first" firstData := laidMet.reads h (by rw [← first_eq]; exact .tail _ (.tail _ (.tail _ (.tail _ (.tail _ (.tail _ (.head _)))))))
  obtain ⟨a1, s1, hv1, -, -, -⟩ := laid_sentinel (laidMet.tail (laidMet.tail (laidMet.tail (laidMet.tail h)))) gRan gRanT Tryz.underlying58 rowErr Tryz.underlying222 Tryz.underlying224 rfl rfl Tryz.underlying9 errCells strCells
  obtain ⟨a2, s2, hv2, -, -, -⟩ := laid_sentinel (laidMet.tail (laidMet.tail (laidMet.tail (laidMet.tail (laidMet.tail h))))) gSyn gSynT Tryz.underlying58 rowErr Tryz.underlying222 Tryz.underlying224 rfl rfl Tryz.underlying9 errCells strCells
  refine ⟨{
    tabs := utf8Tabs_of_readsT (U8Types.of196 Tryz.lays196) ⟨by kernel_rfl, by kernel_rfl, by kernel_rfl, by kernel_rfl, by kernel_rfl, by kernel_rfl, by kernel_rfl⟩ hfst hacc
    pow := tabIs_of_reads gPow pow_type Tryz.underlying187 u64_int u64_cells pow_cells hpow
    len := cell_of_shapedOpen_int (t := 3) (zero := #[.int .i64 0]) hs (of_decide_eq_true (by kernel_rfl)) (by kernel_rfl) rfl (by kernel_rfl) (by kernel_rfl) Tryz.underlying3
    esyn := ⟨_, _, by have h0 := World.var?_cell gSyn hv2 0; simpa using h0⟩
    eran := ⟨_, _, by have h0 := World.var?_cell gRan hv1 0; simpa using h0⟩ }, et_of_row hL⟩

/-! ### One world that fits -/
abbrev rangeS : ByteArray := { data := #[118, 97, 108, 117, 101, 32, 111, 117, 116, 32, 111, 102, 32, 114, 97, 110, 103, 101] }
abbrev syntaxS : ByteArray := { data := #[105, 110, 118, 97, 108, 105, 100, 32, 115, 121, 110, 116, 97, 120] }
def tab32 : List Int := [0, 1, 28, 2, 29, 14, 24, 3, 30, 22, 20, 15, 25, 17, 4, 8, 31, 27, 13, 23, 21, 19, 16, 7, 26, 12, 18, 6, 11, 5, 10, 9]
def tab64 : List Int := [0, 1, 56, 2, 57, 49, 28, 3, 61, 58, 42, 50, 38, 29, 17, 4, 62, 47, 59, 36, 45, 43, 51, 22, 53, 39, 33, 30, 24, 18, 12, 5, 63, 55, 48, 27, 60, 41, 37, 16, 46, 35, 44, 21, 52, 32, 23, 11, 54, 26, 40, 15, 34, 20, 31, 10, 25, 14, 19, 9, 13, 8, 7, 6]
/-- So many blocks has the settled world. -/
noncomputable def low : Nat := (World.holding Tryz.prog default ⟨#[], #[], []⟩).heap.size
noncomputable def laidWorld (os : Os) : World :=
  let w0 := World.holding Tryz.prog os ⟨#[.cells #[.string rangeS] 224, .cells #[.string syntaxS] 224], #[], []⟩
  let put (h : Array Obj) (g : Nat) (cs : Array Value) : Array Obj := h.modify g fun
    | .cells _ t frozen => .cells cs t frozen
    | o => o
  let h1 := put w0.heap 1 (firstTab.map fun z => Value.int .u8 z).toArray
  let h2 := put h1 2 ((List.range 16).flatMap fun i => [Value.int .u8 (accLo i), Value.int .u8 (accHi i)]).toArray
  let h3 := put h2 4 (tab32.map fun z => Value.int .u8 z).toArray
  let h4 := put h3 5 (tab64.map fun z => Value.int .u8 z).toArray
  let h5 := put h4 3 (pow10Tab.map fun z => Value.int .u64 z).toArray
  let h6 := put h5 8 #[.iface 222 (.pointer (some ⟨low, 0, none⟩))]
  let h7 := put h6 7 #[.iface 222 (.pointer (some ⟨low + 1, 0, none⟩))]
  let h8 := put h7 0 #[.iface 158 (.agg #[.pointer (some ⟨9, 58, none⟩)])]
  { w0 with heap := h8 }

set_option maxRecDepth 1000000 in
theorem laid_met (os : Os) (args : Array Value) : laidMetH Tryz.prog laidL ((laidWorld os).forCall (fun _ _ => 0) ⟨#[], args, []⟩).memory := by
  refine laidMetH_of_parts ?_ (by kernel_rfl)
  rw [laidP_eq]
  exact (LaidIn.of_run (l := laidP) [4, 5, 3, 2, 8, 7, 1, low, low + 1] 8 (by kernel_rfl) (by kernel_rfl) (by kernel_rfl) (by kernel_rfl)).met
end Go.Proofs.YtebblpmocheelaaGreatDoor
