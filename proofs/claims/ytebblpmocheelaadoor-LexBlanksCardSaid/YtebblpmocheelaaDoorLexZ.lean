/- From what the rows list (the library's variables) to what the walks ask; and a world that has it. -/
import Derived.Test.YtebblpmocheelaaDoorLexE
import Derived.Test.YtebblpmocheelaaDoorRows
import Derived.Lib.LaidIn
import Derived.Lib.LaidU8T
import Derived.Lib.LaidTab
import Derived.Stop.LaidErr
import Derived.Deep.DeepHandedRow
import Derived.Deep.DeepWitnessRowRef
import Derived.ProofKit
import Derived.OpenShut
import Derived.SizedLaws
import Derived.Shelf.Vars
namespace Go.Proofs.YtebblpmocheelaaDoor
open Go.ChangeShapes Go.WideShapes Go.ChangeAt Go.RowKit Go.Lib Go.Shelf

/-- What every row here lists. -/
def laidL : List (String × DataW Unit) := Rows.lexNumbersRow.laid

theorem own : ownKnob Tryd.prog.godebug = none := by kernel_rfl
theorem laid_plain {W : World} (h : laidMetH Tryd.prog laidL W) : laidMet Tryd.prog laidL W := h

theorem pow_eq : (Rows.laid_internal_strconv_uint64pow10 : DataW Unit) = tabData .u64 pow10Tab := by kernel_rfl
theorem acc_eq : (Rows.laid_unicode_utf8_acceptRanges : DataW Unit) = acceptData := by kernel_rfl
theorem first_eq : Rows.laid_unicode_utf8_first = firstData := by kernel_rfl

theorem tabIs_of_reads {W : World} {name : String} {k : IntKind} {zs : List Int} {g : Nat} {t e : TypeId} {n : Nat}
    (hg : Tryd.prog.globalNamed name = some g) (hty : (Tryd.prog.globals[g]?).map (·.type) = some t) (ht : Tryd.prog.underlying t = some (.array n e)) (he : Tryd.prog.underlying e = some (.int k)) (hce : Tryd.prog.cellsOf e = 1) (hct : Tryd.prog.cellsOf t = n)
    (h : VarReads Tryd.prog W name (tabData k zs)) : TabIs Tryd.prog W name k zs := by
  obtain ⟨g', t', cs, fuel, p, hg', ht', hvar, hd⟩ := h
  obtain rfl := Option.some.inj (hg.symm.trans hg')
  obtain rfl := Option.some.inj (hty.symm.trans ht')
  unfold TabIs
  rw [hvar, ← cells_of_tab ht he hce hct hd]

theorem pow_type : (Tryd.prog.globals[3]?).map (·.type) = some 96 := by kernel_rfl
theorem pow_cells : Tryd.prog.cellsOf 96 = 20 := by kernel_rfl
theorem u64_cells : Tryd.prog.cellsOf 81 = 1 := by kernel_rfl
theorem u64_int : Tryd.prog.underlying 81 = some (.int .u64) := Tryd.underlying81
theorem star : "*" ++ "errors.errorString" = "*errors.errorString" := by decide
theorem rowErr (u : TypeId) (h : Tryd.prog.typeName? 3 u = some "*errors.errorString") : u = 123 :=
  typeName_ptr_named (nm := "errors.errorString") (by rw [star]; kernel_rfl) (by kernel_rfl) (by decide) u (by rw [star]; exact h)
theorem gSyn : Tryd.prog.globalNamed "strconv.ErrSyntax" = some 4 := by kernel_rfl
theorem gRan : Tryd.prog.globalNamed "strconv.ErrRange" = some 5 := by kernel_rfl
theorem gSynT : (Tryd.prog.globals[4]?).map (·.type) = some 42 := by kernel_rfl
theorem gRanT : (Tryd.prog.globals[5]?).map (·.type) = some 42 := by kernel_rfl
theorem errCells : Tryd.prog.cellsOf 125 = 1 := by kernel_rfl
theorem strCells : Tryd.prog.cellsOf 9 = 1 := by kernel_rfl

theorem env_of_row {W : World} (hL : laidMetH Tryd.prog laidL W) (hs : W.ShapedOpen Tryd.prog) : Env W := by
  have h := laid_plain hL
  have hpow : VarReads Tryd.prog W "internal/strconv.uint64pow10" (tabData .u64 pow10Tab) := laidMet.reads h (by rw [← pow_eq]; exact .tail _ (.tail _ (.head _)))
  have hacc : VarReads Tryd.prog W "unicode/utf8.acceptRanges" acceptData := laidMet.reads h (by rw [← acc_eq]; exact .tail _ (.tail _ (.tail _ (.head _))))
  have hfst : VarReads Tryd.prog W "unicode/utf8.first" firstData := laidMet.reads h (by rw [← first_eq]; exact .tail _ (.tail _ (.tail _ (.tail _ (.tail _ (.tail _ (.head _)))))))
  obtain ⟨a1, s1, hv1, -, -, -⟩ := laid_sentinel (laidMet.tail (laidMet.tail (laidMet.tail (laidMet.tail h)))) gRan gRanT Tryd.underlying42 rowErr Tryd.underlying123 Tryd.underlying125 rfl rfl Tryd.underlying9 errCells strCells
  obtain ⟨a2, s2, hv2, -, -, -⟩ := laid_sentinel (laidMet.tail (laidMet.tail (laidMet.tail (laidMet.tail (laidMet.tail h))))) gSyn gSynT Tryd.underlying42 rowErr Tryd.underlying123 Tryd.underlying125 rfl rfl Tryd.underlying9 errCells strCells
  exact {
    tabs := utf8Tabs_of_readsT (U8Types.of196 Tryd.lays196) ⟨by kernel_rfl, by kernel_rfl, by kernel_rfl, by kernel_rfl, by kernel_rfl, by kernel_rfl, by kernel_rfl⟩ hfst hacc
    pow := tabIs_of_reads gPow pow_type Tryd.underlying96 u64_int u64_cells pow_cells hpow
    len := cell_of_shapedOpen_int (t := 3) (zero := #[.int .i64 0]) hs (of_decide_eq_true (by kernel_rfl)) (by kernel_rfl) rfl (by kernel_rfl) (by kernel_rfl) Tryd.underlying3
    esyn := ⟨_, _, by have h0 := World.var?_cell gSyn hv2 0; simpa using h0⟩
    eran := ⟨_, _, by have h0 := World.var?_cell gRan hv1 0; simpa using h0⟩ }

/-! ### One world that fits -/
abbrev rangeS : ByteArray := { data := #[118, 97, 108, 117, 101, 32, 111, 117, 116, 32, 111, 102, 32, 114, 97, 110, 103, 101] }
abbrev syntaxS : ByteArray := { data := #[105, 110, 118, 97, 108, 105, 100, 32, 115, 121, 110, 116, 97, 120] }
def tab32 : List Int := [0, 1, 28, 2, 29, 14, 24, 3, 30, 22, 20, 15, 25, 17, 4, 8, 31, 27, 13, 23, 21, 19, 16, 7, 26, 12, 18, 6, 11, 5, 10, 9]
def tab64 : List Int := [0, 1, 56, 2, 57, 49, 28, 3, 61, 58, 42, 50, 38, 29, 17, 4, 62, 47, 59, 36, 45, 43, 51, 22, 53, 39, 33, 30, 24, 18, 12, 5, 63, 55, 48, 27, 60, 41, 37, 16, 46, 35, 44, 21, 52, 32, 23, 11, 54, 26, 40, 15, 34, 20, 31, 10, 25, 14, 19, 9, 13, 8, 7, 6]
/-- So many blocks has the settled world. -/
noncomputable def low : Nat := (World.holding Tryd.prog default ⟨#[], #[], []⟩).heap.size
noncomputable def laidWorld (os : Os) : World :=
  let w0 := World.holding Tryd.prog os ⟨#[.cells #[.string rangeS] 125, .cells #[.string syntaxS] 125], #[], []⟩
  let put (h : Array Obj) (g : Nat) (cs : Array Value) : Array Obj := h.modify g fun
    | .cells _ t frozen => .cells cs t frozen
    | o => o
  let h1 := put w0.heap 0 (firstTab.map fun z => Value.int .u8 z).toArray
  let h2 := put h1 1 ((List.range 16).flatMap fun i => [Value.int .u8 (accLo i), Value.int .u8 (accHi i)]).toArray
  let h3 := put h2 6 (tab32.map fun z => Value.int .u8 z).toArray
  let h4 := put h3 7 (tab64.map fun z => Value.int .u8 z).toArray
  let h5 := put h4 3 (pow10Tab.map fun z => Value.int .u64 z).toArray
  let h6 := put h5 5 #[.iface 123 (.pointer (some ⟨low, 0, none⟩))]
  let h7 := put h6 4 #[.iface 123 (.pointer (some ⟨low + 1, 0, none⟩))]
  { w0 with heap := h7 }

set_option maxRecDepth 1000000 in
theorem laid_met (os : Os) (args : Array Value) : laidMet Tryd.prog laidL ((laidWorld os).forCall (fun _ _ => 0) ⟨#[], args, []⟩).memory :=
  (LaidIn.of_run (l := laidL) [6, 7, 3, 1, 5, 4, 0, low, low + 1] 8 (by kernel_rfl) (by kernel_rfl) (by kernel_rfl) (by kernel_rfl)).met
end Go.Proofs.YtebblpmocheelaaDoor
