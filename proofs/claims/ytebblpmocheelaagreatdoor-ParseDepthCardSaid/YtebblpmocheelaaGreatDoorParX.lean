/- errors.As by its contracts, at the parser's own error and a variable for it. (After the worked proof ToyasAs.) -/
import Derived.Test.YtebblpmocheelaaGreatDoorParV
import Derived.LaidEql
import Derived.Stop.Asserts
import Derived.RowKitTokens
namespace Go.Proofs.YtebblpmocheelaaGreatDoor
open Go.RowKit Go.Extern.Stop Go.Stop Go.Extern

theorem as_nil (t : Value) (w : World) : Calls Tryz.prog 24 #[.nilIface, t] w fun e w' => e = .returned (.bool false) ∧ w' = w := by
  go_enter Tryz.func24, Tryz.ntmps24
  go_wp2
  go_ret
  exact ⟨rfl, rfl⟩

theorem as_valueOfP (t : Addr) (w : World) : (ReflectliteValue.unpack (.iface 66 (.pointer (some t)))).run Tryz.prog w
    = .ok (.agg #[.pointer (some ⟨9, 66, none⟩), .pointer (some ⟨w.heap.size, 0, none⟩), .int .u64 150]) (w.alloc (.cells #[.pointer (some t)] 66)) := by kernel_rfl
theorem as_typeP (a : Addr) (w : World) : (ReflectliteValue.methodAny (ReflectliteValue.valueError "reflectlite.Value.Type" 0) (fun t _ _ _ => ReflectliteType.toType t) #[.agg #[.pointer (some ⟨9, 66, none⟩), .pointer (some a), .int .u64 150]]).run Tryz.prog w
    = .ok (.iface 158 (.agg #[.pointer (some ⟨9, 66, none⟩)])) w := by kernel_rfl
theorem as_kindM (h : Value) (w : World) : (Go.method 352 158 (.agg #[h]) "Kind").run Tryz.prog w = .ok (167, h) w := by kernel_rfl
theorem as_kindP (w : World) : ((ReflectliteType.abiMethod fun t => (fun a : Nat => Value.int IntKind.u8 (a : Int)) <$> Rtype.kind t) #[.pointer (some ⟨9, 66, none⟩)]).run Tryz.prog w = .ok (.int .u8 22) w := by kernel_rfl
theorem as_kindW (w : World) : ((ReflectliteType.abiMethod fun t => (fun a : Nat => Value.int IntKind.u8 (a : Int)) <$> Rtype.kind t) #[.pointer (some ⟨9, 64, none⟩)]).run Tryz.prog w = .ok (.int .u8 25) w := by kernel_rfl

theorem as_rlm (z : Sem Value) (f : TypeId → Addr → Nat → Nat → Sem Value) (v : Value) :
    ReflectliteValue.method z f #[v] = (do match ← ReflectliteValue.parts v with | none => z | some (t, a, fl) => f t a fl (fl % 32)) := rfl
theorem as_partsP (a : Addr) (w : World) : (ReflectliteValue.parts (.agg #[.pointer (some ⟨9, 66, none⟩), .pointer (some a), .int .u64 150])).run Tryz.prog w = .ok (some (66, a, 150)) w := by kernel_rfl
theorem as_isNilP (a p : Addr) (W : World) (ha : W.cell? a = some (.pointer (some p))) :
    (ReflectliteValue.method (ReflectliteValue.valueError "reflectlite.Value.IsNil" 0) ReflectliteValue.isNil #[.agg #[.pointer (some ⟨9, 66, none⟩), .pointer (some a), .int .u64 150]]).run Tryz.prog W = .ok (.bool false) W := by
  rw [as_rlm]
  simp only [Sem.run_bind, as_partsP, Result.andThen]
  simp [ReflectliteValue.isNil, loadVar, isAgg, underlying, Tryz.underlying66, ha, Result.andThen]

theorem as_elemM (h : Value) (w : World) : (Go.method 352 158 (.agg #[h]) "Elem").run Tryz.prog w = .ok (178, .agg #[h]) w := by kernel_rfl
theorem as_implM (h : Value) (w : World) : (Go.method 352 158 (.agg #[h]) "Implements").run Tryz.prog w = .ok (179, .agg #[h]) w := by kernel_rfl
theorem as_assM (h : Value) (w : World) : (Go.method 352 158 (.agg #[h]) "AssignableTo").run Tryz.prog w = .ok (176, .agg #[h]) w := by kernel_rfl
theorem as_elemP (w : World) : (ReflectliteType.method ReflectliteType.elem #[.agg #[.pointer (some ⟨9, 66, none⟩)]]).run Tryz.prog w = .ok (.iface 158 (.agg #[.pointer (some ⟨9, 64, none⟩)])) w := by kernel_rfl
theorem as_implW (w : World) : (ReflectliteType.relation "Implements" ReflectliteType.implements_ #[.agg #[.pointer (some ⟨9, 64, none⟩)], .iface 158 (.agg #[.pointer (some ⟨9, 58, none⟩)])]).run Tryz.prog w = .ok (.bool true) w := by kernel_rfl
theorem as_typeOfW (v : Value) (w : World) : (ReflectliteType.typeOf #[.iface 64 v]).run Tryz.prog w = .ok (.iface 158 (.agg #[.pointer (some ⟨9, 64, none⟩)])) w := by kernel_rfl
theorem as_assW (w : World) : (ReflectliteType.relation "AssignableTo" ReflectliteType.assignableTo #[.agg #[.pointer (some ⟨9, 64, none⟩)], .iface 158 (.agg #[.pointer (some ⟨9, 64, none⟩)])]).run Tryz.prog w = .ok (.bool true) w := by kernel_rfl
theorem as_valueOfW (a b : Int) (w : World) : (ReflectliteValue.unpack (.iface 64 (.agg #[.int .i64 a, .int .i64 b]))).run Tryz.prog w
    = .ok (.agg #[.pointer (some ⟨9, 64, none⟩), .pointer (some ⟨w.heap.size, 0, none⟩), .int .u64 153]) (w.alloc (.cells #[.int .i64 a, .int .i64 b] 64)) := by kernel_rfl

theorem as_elemOfP (w : World) : (Rtype.elem? 66).run Tryz.prog w = .ok (some 64) w := by kernel_rfl
theorem as_mkW (p : Addr) (w : World) : (ReflectliteValue.mk 64 p ReflectliteValue.flagAddr).run Tryz.prog w = .ok (.agg #[.pointer (some ⟨9, 64, none⟩), .pointer (some p), .int .u64 409]) w := by kernel_rfl
theorem as_elemV (a p : Addr) (W : World) (ha : W.cell? a = some (.pointer (some p))) :
    (ReflectliteValue.method (ReflectliteValue.valueError "reflectlite.Value.Elem" 0) ReflectliteValue.elem #[.agg #[.pointer (some ⟨9, 66, none⟩), .pointer (some a), .int .u64 150]]).run Tryz.prog W
      = .ok (.agg #[.pointer (some ⟨9, 64, none⟩), .pointer (some p), .int .u64 409]) W := by
  rw [as_rlm]
  simp only [Sem.run_bind, as_partsP, Result.andThen]
  simp [ReflectliteValue.elem, loadVar, isAgg, underlying, Tryz.underlying66, ha, Result.andThen, as_elemOfP, as_mkW]
theorem as_rls (v x : Value) : ReflectliteValue.set #[v, x] = (do
    let (some (dst, a, fl), some (src, b, _)) := (← ReflectliteValue.parts v, ← ReflectliteValue.parts x)
      | unsupported (.noEntry "extern/(internal/reflectlite.Value).Set.zeroValue")
    if fl / ReflectliteValue.flagAddr % 2 == 0 then unsupported (.noEntry "extern/(internal/reflectlite.Value).Set.unaddressable")
    let val ← loadVar src b
    if ← Rtype.directlyAssignable dst src then storeVar dst a val
    else if ← Rtype.implements dst src then
      if (← Rtype.kind src) == 20 then
        match val with
        | .nilIface => unsupported (.noEntry "extern/reflectlite: a nil value of one interface type handed on as a value of another")
        | _ => storeVar dst a val
      else storeVar dst a (.iface src val)
    else panicString ("reflectlite.Set: value of type " ++ (← Rtype.spelt src) ++ " is not assignable to type " ++ (← Rtype.spelt dst))
    pure (.tuple #[])) := rfl
theorem as_partsA (a : Addr) (w : World) : (ReflectliteValue.parts (.agg #[.pointer (some ⟨9, 64, none⟩), .pointer (some a), .int .u64 409])).run Tryz.prog w = .ok (some (64, a, 409)) w := by kernel_rfl
theorem as_partsW (a : Addr) (w : World) : (ReflectliteValue.parts (.agg #[.pointer (some ⟨9, 64, none⟩), .pointer (some a), .int .u64 153])).run Tryz.prog w = .ok (some (64, a, 153)) w := by kernel_rfl
theorem as_direct (w : World) : (Rtype.directlyAssignable 64 64).run Tryz.prog w = .ok true w := by kernel_rfl
theorem as_size (w : World) : (sizeOf 64).run Tryz.prog w = .ok 2 w := by kernel_rfl
theorem as_isAgg (w : World) : (isAgg 64).run Tryz.prog w = .ok true w := by kernel_rfl
theorem as_load (k : Nat) (x y : Value) (W : World) (h0 : W.cell? ⟨k, 0, none⟩ = some x) (h1 : W.cell? ⟨k, 1, none⟩ = some y) : (loadVar 64 ⟨k, 0, none⟩).run Tryz.prog W = .ok (.agg #[x, y]) W := by
  simp [loadVar, loadCells, loadCellsFrom, Addr.add, h0, h1, Result.andThen]
theorem as_store (k : Nat) (x y u v : Value) (W : World) (hx : x.oneCell' = true) (hy : y.oneCell' = true) (h0 : W.cell? ⟨k, 0, none⟩ = some u) (h1 : W.cell? ⟨k, 1, none⟩ = some v) (f0 : W.frozen? ⟨k, 0, none⟩ = false) (f1 : W.frozen? ⟨k, 1, none⟩ = false) :
    (storeVar 64 ⟨k, 0, none⟩ (.agg #[x, y])).run Tryz.prog W = .ok () ((W.setCell ⟨k, 0, none⟩ x).setCell ⟨k, 1, none⟩ y) := by
  have g1 : (W.setCell ⟨k, 0, none⟩ x).cell? ⟨k, 1, none⟩ = some v := (World.cell?_setCell_other (w := W) (a := ⟨k, 0, none⟩) (b := ⟨k, 1, none⟩) (v := x) (by intro e; injection e with _ e2 _; exact absurd e2 (by decide))).trans h1
  have g2 : (W.setCell ⟨k, 0, none⟩ x).frozen? ⟨k, 1, none⟩ = false := by simp [f1]
  simp only [storeVar, Value.cells, as_size, Sem.run_bind, Result.andThen, storeCells, Addr.add]
  simp [Sem.run_bind, run_store _ _ _ _ _ hx, run_store _ _ _ _ _ hy, h0, f0, g1, g2, Result.andThen]
theorem as_set (ta k : Nat) (x y u v : Value) (W : World) (hx : x.oneCell' = true) (hy : y.oneCell' = true) (c0 : W.cell? ⟨k, 0, none⟩ = some x) (c1 : W.cell? ⟨k, 1, none⟩ = some y) (h0 : W.cell? ⟨ta, 0, none⟩ = some u) (h1 : W.cell? ⟨ta, 1, none⟩ = some v) (f0 : W.frozen? ⟨ta, 0, none⟩ = false) (f1 : W.frozen? ⟨ta, 1, none⟩ = false) :
    (ReflectliteValue.set #[.agg #[.pointer (some ⟨9, 64, none⟩), .pointer (some ⟨ta, 0, none⟩), .int .u64 409], .agg #[.pointer (some ⟨9, 64, none⟩), .pointer (some ⟨k, 0, none⟩), .int .u64 153]]).run Tryz.prog W
      = .ok (.tuple #[]) ((W.setCell ⟨ta, 0, none⟩ x).setCell ⟨ta, 1, none⟩ y) := by
  rw [as_rls]
  simp only [Sem.run_bind, as_partsA, as_partsW, Result.andThen]
  simp [ReflectliteValue.flagAddr, as_load k x y W c0 c1, as_direct, as_store ta x y u v W hx hy h0 h1 f0 f1, Result.andThen]

set_option maxHeartbeats 8000000 in
set_option maxRecDepth 1000000 in
theorem as_hit (a b : Int) (t : Nat) (w : World) (hg : w.cell? ⟨0, 0, none⟩ = some (.iface 158 (.agg #[.pointer (some ⟨9, 58, none⟩)]))) (hT : CellsAt w t 64 #[.int .i64 0, .int .i64 0]) :
    Calls Tryz.prog 24 #[.iface 64 (.agg #[.int .i64 a, .int .i64 b]), .iface 66 (.pointer (some ⟨t, 0, none⟩))] w fun ev w' => ev = .returned (.bool true) ∧ w.grownBy w' (some t) ∧ CellsAt w' t 64 #[.int .i64 a, .int .i64 b] := by
  have h6 := @run_callFunc_extern Tryz.prog 57 _ (fun args => ReflectliteValue.unpack (args.getD 0 (.tuple #[]))) Tryz.func57 (by kernel_rfl) (by kernel_rfl) (by kernel_rfl) (by kernel_rfl)
  have h7 := @run_callFunc_extern Tryz.prog 58 _ (ReflectliteValue.methodAny (ReflectliteValue.valueError "reflectlite.Value.Type" 0) (fun t _ _ _ => ReflectliteType.toType t)) Tryz.func58 (by kernel_rfl) (by kernel_rfl) (by kernel_rfl) (by kernel_rfl)
  have h8 := @run_callFunc_extern Tryz.prog 59 _ (ReflectliteValue.method (ReflectliteValue.valueError "reflectlite.Value.IsNil" 0) ReflectliteValue.isNil) Tryz.func59 (by kernel_rfl) (by kernel_rfl) (by kernel_rfl) (by kernel_rfl)
  have h27 := @run_callFunc_extern Tryz.prog 167 _ (ReflectliteType.abiMethod fun t => do pure (.int .u8 (← Rtype.kind t))) Tryz.func167 (by kernel_rfl) (by kernel_rfl) (by kernel_rfl) (by kernel_rfl)
  have h37 := @run_callFunc_extern Tryz.prog 178 _ (ReflectliteType.method ReflectliteType.elem) Tryz.func178 (by kernel_rfl) (by kernel_rfl) (by kernel_rfl) (by kernel_rfl)
  have h38 := @run_callFunc_extern Tryz.prog 179 _ (ReflectliteType.relation "Implements" ReflectliteType.implements_) Tryz.func179 (by kernel_rfl) (by kernel_rfl) (by kernel_rfl) (by kernel_rfl)
  have h10 := @run_callFunc_extern Tryz.prog 89 _ ReflectliteType.typeOf Tryz.func89 (by kernel_rfl) (by kernel_rfl) (by kernel_rfl) (by kernel_rfl)
  have h35 := @run_callFunc_extern Tryz.prog 176 _ (ReflectliteType.relation "AssignableTo" ReflectliteType.assignableTo) Tryz.func176 (by kernel_rfl) (by kernel_rfl) (by kernel_rfl) (by kernel_rfl)
  have h11 := @run_callFunc_extern Tryz.prog 90 _ (ReflectliteValue.method (ReflectliteValue.valueError "reflectlite.Value.Elem" 0) ReflectliteValue.elem) Tryz.func90 (by kernel_rfl) (by kernel_rfl) (by kernel_rfl) (by kernel_rfl)
  have h12 := @run_callFunc_extern Tryz.prog 91 _ ReflectliteValue.set Tryz.func91 (by kernel_rfl) (by kernel_rfl) (by kernel_rfl) (by kernel_rfl)
  have tO := as_typeOfW
  have mA := as_assM
  have aW := as_assW
  have vW := as_valueOfW
  have f6 := as_valueOfP
  have f7 := as_typeP
  have mK := as_kindM
  have mE := as_elemM
  have mI := as_implM
  have kP := as_kindP
  have kW := as_kindW
  have eP := as_elemP
  have iW := as_implW
  have htl := hT.lt
  have hlt : 0 < w.heap.size := cell_lt hg
  have n8 := as_isNilP ⟨w.heap.size, 0, none⟩ ⟨t, 0, none⟩ ((w.alloc (.cells #[.pointer (some ⟨t, 0, none⟩)] 66)).alloc (.cells #[.pointer (some ⟨9, 66, none⟩), .pointer (some ⟨w.heap.size, 0, none⟩), .int .u64 150] 114)) (by simp)
  have b2 : Below w.heap.size w ((w.alloc (.cells #[.pointer (some ⟨t, 0, none⟩)] 66)).alloc (.cells #[.pointer (some ⟨9, 66, none⟩), .pointer (some ⟨w.heap.size, 0, none⟩), .int .u64 150] 114)) := ((Below.refl _ w).alloc (Nat.le_refl _) _).alloc (by simp) _
  have b4 : Below w.heap.size w ((((w.alloc (.cells #[.pointer (some ⟨t, 0, none⟩)] 66)).alloc (.cells #[.pointer (some ⟨9, 66, none⟩), .pointer (some ⟨w.heap.size, 0, none⟩), .int .u64 150] 114)).alloc (.cells #[.pointer (some ⟨9, 66, none⟩), .pointer (some ⟨w.heap.size, 0, none⟩), .int .u64 150] 114)).alloc (.cells #[.int .i64 a, .int .i64 b] 64)) := ((b2.alloc (by simp; omega) _).alloc (by simp; omega) _)
  have hg2 : ((w.alloc (.cells #[.pointer (some ⟨t, 0, none⟩)] 66)).alloc (.cells #[.pointer (some ⟨9, 66, none⟩), .pointer (some ⟨w.heap.size, 0, none⟩), .int .u64 150] 114)).cell? ⟨0, 0, none⟩ = some (.iface 158 (.agg #[.pointer (some ⟨9, 58, none⟩)])) := (b2.cell (p := ⟨0, 0, none⟩) hlt).trans hg
  have hT4 : CellsAt ((((w.alloc (.cells #[.pointer (some ⟨t, 0, none⟩)] 66)).alloc (.cells #[.pointer (some ⟨9, 66, none⟩), .pointer (some ⟨w.heap.size, 0, none⟩), .int .u64 150] 114)).alloc (.cells #[.pointer (some ⟨9, 66, none⟩), .pointer (some ⟨w.heap.size, 0, none⟩), .int .u64 150] 114)).alloc (.cells #[.int .i64 a, .int .i64 b] 64)) t 64 #[.int .i64 0, .int .i64 0] := below_cells hT b4
  have el := as_elemV ⟨w.heap.size, 0, none⟩ ⟨t, 0, none⟩ (((w.alloc (.cells #[.pointer (some ⟨t, 0, none⟩)] 66)).alloc (.cells #[.pointer (some ⟨9, 66, none⟩), .pointer (some ⟨w.heap.size, 0, none⟩), .int .u64 150] 114)).alloc (.cells #[.pointer (some ⟨9, 66, none⟩), .pointer (some ⟨w.heap.size, 0, none⟩), .int .u64 150] 114)) (by rw [World.cell?_alloc_lt _ _ ⟨w.heap.size, 0, none⟩ (by simp; omega)]; simp)
  have hN := CellsAt.new (((w.alloc (.cells #[.pointer (some ⟨t, 0, none⟩)] 66)).alloc (.cells #[.pointer (some ⟨9, 66, none⟩), .pointer (some ⟨w.heap.size, 0, none⟩), .int .u64 150] 114)).alloc (.cells #[.pointer (some ⟨9, 66, none⟩), .pointer (some ⟨w.heap.size, 0, none⟩), .int .u64 150] 114)) 64 #[.int .i64 a, .int .i64 b]
  have hsz3 : (((w.alloc (.cells #[.pointer (some ⟨t, 0, none⟩)] 66)).alloc (.cells #[.pointer (some ⟨9, 66, none⟩), .pointer (some ⟨w.heap.size, 0, none⟩), .int .u64 150] 114)).alloc (.cells #[.pointer (some ⟨9, 66, none⟩), .pointer (some ⟨w.heap.size, 0, none⟩), .int .u64 150] 114)).heap.size = w.heap.size + 1 + 1 + 1 := by simp
  rw [hsz3] at hN
  have st := as_set t (w.heap.size + 1 + 1 + 1) (.int .i64 a) (.int .i64 b) (.int .i64 0) (.int .i64 0) ((((w.alloc (.cells #[.pointer (some ⟨t, 0, none⟩)] 66)).alloc (.cells #[.pointer (some ⟨9, 66, none⟩), .pointer (some ⟨w.heap.size, 0, none⟩), .int .u64 150] 114)).alloc (.cells #[.pointer (some ⟨9, 66, none⟩), .pointer (some ⟨w.heap.size, 0, none⟩), .int .u64 150] 114)).alloc (.cells #[.int .i64 a, .int .i64 b] 64)) rfl rfl (hN.cell 0) (hN.cell 1) (hT4.cell 0) (hT4.cell 1) (hT4.frozen 0) (hT4.frozen 1)
  have hS := (hT4.set 0 (.int .i64 a)).set 1 (.int .i64 b)
  have hG := gb_trans (gb_trans (gb_below b4 (some t)) (grown_setCell _ t 0 (.int .i64 a))) (grown_setCell _ t 1 (.int .i64 b))
  clear hN b2 b4 hT4 hsz3
  go_enter Tryz.func24, Tryz.ntmps24
  go_wp2
  refine wp_loop_rounds 1 ?_
  rw [rounds_succ]
  go_wp2
  go_ret
  exact ⟨rfl, hG, by simpa using hS⟩
end Go.Proofs.YtebblpmocheelaaGreatDoor
