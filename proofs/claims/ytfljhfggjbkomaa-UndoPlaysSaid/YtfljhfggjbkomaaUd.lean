import Derived.Test.YtfljhfggjbkomaaUc
namespace Go.Proofs.Ytfljhfggjbkomaa
open Go.RowKit
set_option linter.unusedSimpArgs false
set_option linter.unusedVariables false
attribute [local go_sem] ob_alloc ob_drew ob_drewN ob_setCell ob_setBlock objSet_cells obMap_map obClock_map isMapI_map keyI_mk findI_nil findI_cons lookRes_some lookRes_none lookRes_some' lookRes_none' setBlock_alloc mapPut

def vB (bo : Nat) : Obj := .cells #[.pointer (some ⟨bo, 0, none⟩)] 26 (0, 0)
def vO (o : OpB) : Obj := .cells #[.int .i64 o.cell, .int .i64 o.add, .int .i64 o.fail] 36 (0, 0)
def vI' (i : Int) : Obj := .cells #[.int .i64 i] 3 (0, 0)
theorem en16 (args : Array Value) (w : World) : (callFunc 16 args).run Try.prog w = .ok (.enter 16 args) w := by go_simp
set_option maxRecDepth 100000 in
set_option maxHeartbeats 400000 in
theorem do16_ok (W0 : World) (bo pb po : Nat) (pi : Nat) (o : OpB) (i : Int) (hf : o.fail = 0) : RunsTo W0 bo [(pb, vB bo), (po, vO o), (pi, vI' i)] (.func (.func 16) #[] #[.pointer (some ⟨pb, 0, none⟩), .pointer (some ⟨po, 0, none⟩), .pointer (some ⟨pi, 0, none⟩)]) (.int .i64 0) (fun C => doC C o) [(1, i)] := by
  refine ⟨16, _, rfl, en16, fun w kn C E hk hB hE => ?_⟩
  have c0 : w.cell? ⟨pb, 0, none⟩ = some (.pointer (some ⟨bo, 0, none⟩)) := cell_of_ob (hB.obk (hk (pb, vB bo) (by simp))) 0
  have d0 : w.cell? ⟨po, 0, none⟩ = some (.int .i64 o.cell) := cell_of_ob (hB.obk (hk (po, vO o) (by simp))) 0
  have d1 : w.cell? ⟨po, 1, none⟩ = some (.int .i64 o.add) := cell_of_ob (hB.obk (hk (po, vO o) (by simp))) 1
  have d2 : w.cell? ⟨po, 2, none⟩ = some (.int .i64 o.fail) := cell_of_ob (hB.obk (hk (po, vO o) (by simp))) 2
  have e0 : w.cell? ⟨pi, 0, none⟩ = some (.int .i64 i) := cell_of_ob (hB.obk (hk (pi, vI' i) (by simp))) 0
  have hcon := bDo_ok W0 w bo kn C E hB hE o hf i
  clear hf hB hk
  unfold opV at hcon
  go_enter Try.func16, Try.ntmps16
  go_wp2_with fail
  refine hcon.mono ?_
  rintro _ w2 ⟨rfl, hB2⟩
  have H2 := Lib.hid hB2
  clear hB2 hcon
  go_wp2_with fail
  go_ret
  exact ⟨rfl, H2.out⟩
set_option maxRecDepth 100000 in
set_option maxHeartbeats 400000 in
theorem do16_no (W0 : World) (bo pb po : Nat) (pi : Nat) (o : OpB) (i : Int) (hf : o.fail ≠ 0) : RunsTo W0 bo [(pb, vB bo), (po, vO o), (pi, vI' i)] (.func (.func 16) #[] #[.pointer (some ⟨pb, 0, none⟩), .pointer (some ⟨po, 0, none⟩), .pointer (some ⟨pi, 0, none⟩)]) (.int .i64 o.fail) (fun C => C) [(1, i)] := by
  refine ⟨16, _, rfl, en16, fun w kn C E hk hB hE => ?_⟩
  have c0 : w.cell? ⟨pb, 0, none⟩ = some (.pointer (some ⟨bo, 0, none⟩)) := cell_of_ob (hB.obk (hk (pb, vB bo) (by simp))) 0
  have d0 : w.cell? ⟨po, 0, none⟩ = some (.int .i64 o.cell) := cell_of_ob (hB.obk (hk (po, vO o) (by simp))) 0
  have d1 : w.cell? ⟨po, 1, none⟩ = some (.int .i64 o.add) := cell_of_ob (hB.obk (hk (po, vO o) (by simp))) 1
  have d2 : w.cell? ⟨po, 2, none⟩ = some (.int .i64 o.fail) := cell_of_ob (hB.obk (hk (po, vO o) (by simp))) 2
  have e0 : w.cell? ⟨pi, 0, none⟩ = some (.int .i64 i) := cell_of_ob (hB.obk (hk (pi, vI' i) (by simp))) 0
  have hcon := bDo_no W0 w bo kn C E hB hE o hf i
  clear hf hB hk
  unfold opV at hcon
  go_enter Try.func16, Try.ntmps16
  go_wp2_with fail
  refine hcon.mono ?_
  rintro _ w2 ⟨rfl, hB2⟩
  have H2 := Lib.hid hB2
  clear hB2 hcon
  go_wp2_with fail
  go_ret
  exact ⟨rfl, H2.out⟩
theorem en26 (args : Array Value) (w : World) : (callFunc 26 args).run Try.prog w = .ok (.enter 26 args) w := by go_simp
set_option maxRecDepth 100000 in
set_option maxHeartbeats 400000 in
theorem do26_ok (W0 : World) (bo pb po : Nat) (pi : Nat) (o : OpB) (i : Int) (hf : o.fail = 0) : RunsTo W0 bo [(pb, vB bo), (po, vO o), (pi, vI' i)] (.func (.func 26) #[] #[.pointer (some ⟨pb, 0, none⟩), .pointer (some ⟨po, 0, none⟩), .pointer (some ⟨pi, 0, none⟩)]) (.int .i64 0) (fun C => doC C o) [(1, i)] := by
  refine ⟨26, _, rfl, en26, fun w kn C E hk hB hE => ?_⟩
  have c0 : w.cell? ⟨pb, 0, none⟩ = some (.pointer (some ⟨bo, 0, none⟩)) := cell_of_ob (hB.obk (hk (pb, vB bo) (by simp))) 0
  have d0 : w.cell? ⟨po, 0, none⟩ = some (.int .i64 o.cell) := cell_of_ob (hB.obk (hk (po, vO o) (by simp))) 0
  have d1 : w.cell? ⟨po, 1, none⟩ = some (.int .i64 o.add) := cell_of_ob (hB.obk (hk (po, vO o) (by simp))) 1
  have d2 : w.cell? ⟨po, 2, none⟩ = some (.int .i64 o.fail) := cell_of_ob (hB.obk (hk (po, vO o) (by simp))) 2
  have e0 : w.cell? ⟨pi, 0, none⟩ = some (.int .i64 i) := cell_of_ob (hB.obk (hk (pi, vI' i) (by simp))) 0
  have hcon := bDo_ok W0 w bo kn C E hB hE o hf i
  clear hf hB hk
  unfold opV at hcon
  go_enter Try.func26, Try.ntmps26
  go_wp2_with fail
  refine hcon.mono ?_
  rintro _ w2 ⟨rfl, hB2⟩
  have H2 := Lib.hid hB2
  clear hB2 hcon
  go_wp2_with fail
  go_ret
  exact ⟨rfl, H2.out⟩
set_option maxRecDepth 100000 in
set_option maxHeartbeats 400000 in
theorem do26_no (W0 : World) (bo pb po : Nat) (pi : Nat) (o : OpB) (i : Int) (hf : o.fail ≠ 0) : RunsTo W0 bo [(pb, vB bo), (po, vO o), (pi, vI' i)] (.func (.func 26) #[] #[.pointer (some ⟨pb, 0, none⟩), .pointer (some ⟨po, 0, none⟩), .pointer (some ⟨pi, 0, none⟩)]) (.int .i64 o.fail) (fun C => C) [(1, i)] := by
  refine ⟨26, _, rfl, en26, fun w kn C E hk hB hE => ?_⟩
  have c0 : w.cell? ⟨pb, 0, none⟩ = some (.pointer (some ⟨bo, 0, none⟩)) := cell_of_ob (hB.obk (hk (pb, vB bo) (by simp))) 0
  have d0 : w.cell? ⟨po, 0, none⟩ = some (.int .i64 o.cell) := cell_of_ob (hB.obk (hk (po, vO o) (by simp))) 0
  have d1 : w.cell? ⟨po, 1, none⟩ = some (.int .i64 o.add) := cell_of_ob (hB.obk (hk (po, vO o) (by simp))) 1
  have d2 : w.cell? ⟨po, 2, none⟩ = some (.int .i64 o.fail) := cell_of_ob (hB.obk (hk (po, vO o) (by simp))) 2
  have e0 : w.cell? ⟨pi, 0, none⟩ = some (.int .i64 i) := cell_of_ob (hB.obk (hk (pi, vI' i) (by simp))) 0
  have hcon := bDo_no W0 w bo kn C E hB hE o hf i
  clear hf hB hk
  unfold opV at hcon
  go_enter Try.func26, Try.ntmps26
  go_wp2_with fail
  refine hcon.mono ?_
  rintro _ w2 ⟨rfl, hB2⟩
  have H2 := Lib.hid hB2
  clear hB2 hcon
  go_wp2_with fail
  go_ret
  exact ⟨rfl, H2.out⟩
theorem en28 (args : Array Value) (w : World) : (callFunc 28 args).run Try.prog w = .ok (.enter 28 args) w := by go_simp
set_option maxRecDepth 100000 in
set_option maxHeartbeats 400000 in
theorem do28_ok (W0 : World) (bo pb po : Nat) (pi : Nat) (o : OpB) (i : Int) (hf : o.fail = 0) : RunsTo W0 bo [(pb, vB bo), (po, vO o), (pi, vI' i)] (.func (.func 28) #[] #[.pointer (some ⟨pb, 0, none⟩), .pointer (some ⟨po, 0, none⟩), .pointer (some ⟨pi, 0, none⟩)]) (.int .i64 0) (fun C => doC C o) [(1, i)] := by
  refine ⟨28, _, rfl, en28, fun w kn C E hk hB hE => ?_⟩
  have c0 : w.cell? ⟨pb, 0, none⟩ = some (.pointer (some ⟨bo, 0, none⟩)) := cell_of_ob (hB.obk (hk (pb, vB bo) (by simp))) 0
  have d0 : w.cell? ⟨po, 0, none⟩ = some (.int .i64 o.cell) := cell_of_ob (hB.obk (hk (po, vO o) (by simp))) 0
  have d1 : w.cell? ⟨po, 1, none⟩ = some (.int .i64 o.add) := cell_of_ob (hB.obk (hk (po, vO o) (by simp))) 1
  have d2 : w.cell? ⟨po, 2, none⟩ = some (.int .i64 o.fail) := cell_of_ob (hB.obk (hk (po, vO o) (by simp))) 2
  have e0 : w.cell? ⟨pi, 0, none⟩ = some (.int .i64 i) := cell_of_ob (hB.obk (hk (pi, vI' i) (by simp))) 0
  have hcon := bDo_ok W0 w bo kn C E hB hE o hf i
  clear hf hB hk
  unfold opV at hcon
  go_enter Try.func28, Try.ntmps28
  go_wp2_with fail
  refine hcon.mono ?_
  rintro _ w2 ⟨rfl, hB2⟩
  have H2 := Lib.hid hB2
  clear hB2 hcon
  go_wp2_with fail
  go_ret
  exact ⟨rfl, H2.out⟩
set_option maxRecDepth 100000 in
set_option maxHeartbeats 400000 in
theorem do28_no (W0 : World) (bo pb po : Nat) (pi : Nat) (o : OpB) (i : Int) (hf : o.fail ≠ 0) : RunsTo W0 bo [(pb, vB bo), (po, vO o), (pi, vI' i)] (.func (.func 28) #[] #[.pointer (some ⟨pb, 0, none⟩), .pointer (some ⟨po, 0, none⟩), .pointer (some ⟨pi, 0, none⟩)]) (.int .i64 o.fail) (fun C => C) [(1, i)] := by
  refine ⟨28, _, rfl, en28, fun w kn C E hk hB hE => ?_⟩
  have c0 : w.cell? ⟨pb, 0, none⟩ = some (.pointer (some ⟨bo, 0, none⟩)) := cell_of_ob (hB.obk (hk (pb, vB bo) (by simp))) 0
  have d0 : w.cell? ⟨po, 0, none⟩ = some (.int .i64 o.cell) := cell_of_ob (hB.obk (hk (po, vO o) (by simp))) 0
  have d1 : w.cell? ⟨po, 1, none⟩ = some (.int .i64 o.add) := cell_of_ob (hB.obk (hk (po, vO o) (by simp))) 1
  have d2 : w.cell? ⟨po, 2, none⟩ = some (.int .i64 o.fail) := cell_of_ob (hB.obk (hk (po, vO o) (by simp))) 2
  have e0 : w.cell? ⟨pi, 0, none⟩ = some (.int .i64 i) := cell_of_ob (hB.obk (hk (pi, vI' i) (by simp))) 0
  have hcon := bDo_no W0 w bo kn C E hB hE o hf i
  clear hf hB hk
  unfold opV at hcon
  go_enter Try.func28, Try.ntmps28
  go_wp2_with fail
  refine hcon.mono ?_
  rintro _ w2 ⟨rfl, hB2⟩
  have H2 := Lib.hid hB2
  clear hB2 hcon
  go_wp2_with fail
  go_ret
  exact ⟨rfl, H2.out⟩
theorem en69 (args : Array Value) (w : World) : (callFunc 69 args).run Try.prog w = .ok (.enter 69 args) w := by go_simp
set_option maxRecDepth 100000 in
set_option maxHeartbeats 400000 in
theorem do69_ok (W0 : World) (bo pb po : Nat) (pi : Nat) (o : OpB) (i : Int) (hf : o.fail = 0) : RunsTo W0 bo [(pb, vB bo), (po, vO o), (pi, vI' i)] (.func (.func 69) #[] #[.pointer (some ⟨pb, 0, none⟩), .pointer (some ⟨po, 0, none⟩), .pointer (some ⟨pi, 0, none⟩)]) (.int .i64 0) (fun C => doC C o) [(1, i)] := by
  refine ⟨69, _, rfl, en69, fun w kn C E hk hB hE => ?_⟩
  have c0 : w.cell? ⟨pb, 0, none⟩ = some (.pointer (some ⟨bo, 0, none⟩)) := cell_of_ob (hB.obk (hk (pb, vB bo) (by simp))) 0
  have d0 : w.cell? ⟨po, 0, none⟩ = some (.int .i64 o.cell) := cell_of_ob (hB.obk (hk (po, vO o) (by simp))) 0
  have d1 : w.cell? ⟨po, 1, none⟩ = some (.int .i64 o.add) := cell_of_ob (hB.obk (hk (po, vO o) (by simp))) 1
  have d2 : w.cell? ⟨po, 2, none⟩ = some (.int .i64 o.fail) := cell_of_ob (hB.obk (hk (po, vO o) (by simp))) 2
  have e0 : w.cell? ⟨pi, 0, none⟩ = some (.int .i64 i) := cell_of_ob (hB.obk (hk (pi, vI' i) (by simp))) 0
  have hcon := bDo_ok W0 w bo kn C E hB hE o hf i
  clear hf hB hk
  unfold opV at hcon
  go_enter Try.func69, Try.ntmps69
  go_wp2_with fail
  refine hcon.mono ?_
  rintro _ w2 ⟨rfl, hB2⟩
  have H2 := Lib.hid hB2
  clear hB2 hcon
  go_wp2_with fail
  go_ret
  exact ⟨rfl, H2.out⟩
set_option maxRecDepth 100000 in
set_option maxHeartbeats 400000 in
theorem do69_no (W0 : World) (bo pb po : Nat) (pi : Nat) (o : OpB) (i : Int) (hf : o.fail ≠ 0) : RunsTo W0 bo [(pb, vB bo), (po, vO o), (pi, vI' i)] (.func (.func 69) #[] #[.pointer (some ⟨pb, 0, none⟩), .pointer (some ⟨po, 0, none⟩), .pointer (some ⟨pi, 0, none⟩)]) (.int .i64 o.fail) (fun C => C) [(1, i)] := by
  refine ⟨69, _, rfl, en69, fun w kn C E hk hB hE => ?_⟩
  have c0 : w.cell? ⟨pb, 0, none⟩ = some (.pointer (some ⟨bo, 0, none⟩)) := cell_of_ob (hB.obk (hk (pb, vB bo) (by simp))) 0
  have d0 : w.cell? ⟨po, 0, none⟩ = some (.int .i64 o.cell) := cell_of_ob (hB.obk (hk (po, vO o) (by simp))) 0
  have d1 : w.cell? ⟨po, 1, none⟩ = some (.int .i64 o.add) := cell_of_ob (hB.obk (hk (po, vO o) (by simp))) 1
  have d2 : w.cell? ⟨po, 2, none⟩ = some (.int .i64 o.fail) := cell_of_ob (hB.obk (hk (po, vO o) (by simp))) 2
  have e0 : w.cell? ⟨pi, 0, none⟩ = some (.int .i64 i) := cell_of_ob (hB.obk (hk (pi, vI' i) (by simp))) 0
  have hcon := bDo_no W0 w bo kn C E hB hE o hf i
  clear hf hB hk
  unfold opV at hcon
  go_enter Try.func69, Try.ntmps69
  go_wp2_with fail
  refine hcon.mono ?_
  rintro _ w2 ⟨rfl, hB2⟩
  have H2 := Lib.hid hB2
  clear hB2 hcon
  go_wp2_with fail
  go_ret
  exact ⟨rfl, H2.out⟩
theorem en18 (args : Array Value) (w : World) : (callFunc 18 args).run Try.prog w = .ok (.enter 18 args) w := by go_simp
set_option maxRecDepth 100000 in
set_option maxHeartbeats 400000 in
theorem ba18 (W0 : World) (bo pb po : Nat) (pi : Nat) (o : OpB) (i : Int) : RunsTo W0 bo [(pb, vB bo), (po, vO o), (pi, vI' i)] (.func (.func 18) #[] #[.pointer (some ⟨pb, 0, none⟩), .pointer (some ⟨po, 0, none⟩), .pointer (some ⟨pi, 0, none⟩)]) (.tuple #[]) (fun C => unC C o) [(2, i)] := by
  refine ⟨18, _, rfl, en18, fun w kn C E hk hB hE => ?_⟩
  have c0 : w.cell? ⟨pb, 0, none⟩ = some (.pointer (some ⟨bo, 0, none⟩)) := cell_of_ob (hB.obk (hk (pb, vB bo) (by simp))) 0
  have d0 : w.cell? ⟨po, 0, none⟩ = some (.int .i64 o.cell) := cell_of_ob (hB.obk (hk (po, vO o) (by simp))) 0
  have d1 : w.cell? ⟨po, 1, none⟩ = some (.int .i64 o.add) := cell_of_ob (hB.obk (hk (po, vO o) (by simp))) 1
  have d2 : w.cell? ⟨po, 2, none⟩ = some (.int .i64 o.fail) := cell_of_ob (hB.obk (hk (po, vO o) (by simp))) 2
  have e0 : w.cell? ⟨pi, 0, none⟩ = some (.int .i64 i) := cell_of_ob (hB.obk (hk (pi, vI' i) (by simp))) 0
  have hcon := bBack W0 w bo kn C E hB hE o i
  clear hB hk
  unfold opV at hcon
  go_enter Try.func18, Try.ntmps18
  go_wp2_with fail
  refine hcon.mono ?_
  rintro _ w2 ⟨rfl, hB2⟩
  have H2 := Lib.hid hB2
  clear hB2 hcon
  go_wp2_with fail
  go_end0
  exact ⟨rfl, H2.out⟩
theorem en27 (args : Array Value) (w : World) : (callFunc 27 args).run Try.prog w = .ok (.enter 27 args) w := by go_simp
set_option maxRecDepth 100000 in
set_option maxHeartbeats 400000 in
theorem ba27 (W0 : World) (bo pb po : Nat) (pi : Nat) (o : OpB) (i : Int) : RunsTo W0 bo [(pb, vB bo), (po, vO o), (pi, vI' i)] (.func (.func 27) #[] #[.pointer (some ⟨pb, 0, none⟩), .pointer (some ⟨po, 0, none⟩), .pointer (some ⟨pi, 0, none⟩)]) (.tuple #[]) (fun C => unC C o) [(2, i)] := by
  refine ⟨27, _, rfl, en27, fun w kn C E hk hB hE => ?_⟩
  have c0 : w.cell? ⟨pb, 0, none⟩ = some (.pointer (some ⟨bo, 0, none⟩)) := cell_of_ob (hB.obk (hk (pb, vB bo) (by simp))) 0
  have d0 : w.cell? ⟨po, 0, none⟩ = some (.int .i64 o.cell) := cell_of_ob (hB.obk (hk (po, vO o) (by simp))) 0
  have d1 : w.cell? ⟨po, 1, none⟩ = some (.int .i64 o.add) := cell_of_ob (hB.obk (hk (po, vO o) (by simp))) 1
  have d2 : w.cell? ⟨po, 2, none⟩ = some (.int .i64 o.fail) := cell_of_ob (hB.obk (hk (po, vO o) (by simp))) 2
  have e0 : w.cell? ⟨pi, 0, none⟩ = some (.int .i64 i) := cell_of_ob (hB.obk (hk (pi, vI' i) (by simp))) 0
  have hcon := bBack W0 w bo kn C E hB hE o i
  clear hB hk
  unfold opV at hcon
  go_enter Try.func27, Try.ntmps27
  go_wp2_with fail
  refine hcon.mono ?_
  rintro _ w2 ⟨rfl, hB2⟩
  have H2 := Lib.hid hB2
  clear hB2 hcon
  go_wp2_with fail
  go_end0
  exact ⟨rfl, H2.out⟩
theorem en29 (args : Array Value) (w : World) : (callFunc 29 args).run Try.prog w = .ok (.enter 29 args) w := by go_simp
set_option maxRecDepth 100000 in
set_option maxHeartbeats 400000 in
theorem ba29 (W0 : World) (bo pb po : Nat) (pi : Nat) (o : OpB) (i : Int) : RunsTo W0 bo [(pb, vB bo), (po, vO o), (pi, vI' i)] (.func (.func 29) #[] #[.pointer (some ⟨pb, 0, none⟩), .pointer (some ⟨po, 0, none⟩), .pointer (some ⟨pi, 0, none⟩)]) (.tuple #[]) (fun C => unC C o) [(2, i)] := by
  refine ⟨29, _, rfl, en29, fun w kn C E hk hB hE => ?_⟩
  have c0 : w.cell? ⟨pb, 0, none⟩ = some (.pointer (some ⟨bo, 0, none⟩)) := cell_of_ob (hB.obk (hk (pb, vB bo) (by simp))) 0
  have d0 : w.cell? ⟨po, 0, none⟩ = some (.int .i64 o.cell) := cell_of_ob (hB.obk (hk (po, vO o) (by simp))) 0
  have d1 : w.cell? ⟨po, 1, none⟩ = some (.int .i64 o.add) := cell_of_ob (hB.obk (hk (po, vO o) (by simp))) 1
  have d2 : w.cell? ⟨po, 2, none⟩ = some (.int .i64 o.fail) := cell_of_ob (hB.obk (hk (po, vO o) (by simp))) 2
  have e0 : w.cell? ⟨pi, 0, none⟩ = some (.int .i64 i) := cell_of_ob (hB.obk (hk (pi, vI' i) (by simp))) 0
  have hcon := bBack W0 w bo kn C E hB hE o i
  clear hB hk
  unfold opV at hcon
  go_enter Try.func29, Try.ntmps29
  go_wp2_with fail
  refine hcon.mono ?_
  rintro _ w2 ⟨rfl, hB2⟩
  have H2 := Lib.hid hB2
  clear hB2 hcon
  go_wp2_with fail
  go_end0
  exact ⟨rfl, H2.out⟩
theorem en70 (args : Array Value) (w : World) : (callFunc 70 args).run Try.prog w = .ok (.enter 70 args) w := by go_simp
set_option maxRecDepth 100000 in
set_option maxHeartbeats 400000 in
theorem ba70 (W0 : World) (bo pb po : Nat) (pi : Nat) (o : OpB) (i : Int) : RunsTo W0 bo [(pb, vB bo), (po, vO o), (pi, vI' i)] (.func (.func 70) #[] #[.pointer (some ⟨pb, 0, none⟩), .pointer (some ⟨po, 0, none⟩), .pointer (some ⟨pi, 0, none⟩)]) (.tuple #[]) (fun C => unC C o) [(2, i)] := by
  refine ⟨70, _, rfl, en70, fun w kn C E hk hB hE => ?_⟩
  have c0 : w.cell? ⟨pb, 0, none⟩ = some (.pointer (some ⟨bo, 0, none⟩)) := cell_of_ob (hB.obk (hk (pb, vB bo) (by simp))) 0
  have d0 : w.cell? ⟨po, 0, none⟩ = some (.int .i64 o.cell) := cell_of_ob (hB.obk (hk (po, vO o) (by simp))) 0
  have d1 : w.cell? ⟨po, 1, none⟩ = some (.int .i64 o.add) := cell_of_ob (hB.obk (hk (po, vO o) (by simp))) 1
  have d2 : w.cell? ⟨po, 2, none⟩ = some (.int .i64 o.fail) := cell_of_ob (hB.obk (hk (po, vO o) (by simp))) 2
  have e0 : w.cell? ⟨pi, 0, none⟩ = some (.int .i64 i) := cell_of_ob (hB.obk (hk (pi, vI' i) (by simp))) 0
  have hcon := bBack W0 w bo kn C E hB hE o i
  clear hB hk
  unfold opV at hcon
  go_enter Try.func70, Try.ntmps70
  go_wp2_with fail
  refine hcon.mono ?_
  rintro _ w2 ⟨rfl, hB2⟩
  have H2 := Lib.hid hB2
  clear hB2 hcon
  go_wp2_with fail
  go_end0
  exact ⟨rfl, H2.out⟩
theorem en60 (args : Array Value) (w : World) : (callFunc 60 args).run Try.prog w = .ok (.enter 60 args) w := by go_simp
set_option maxRecDepth 100000 in
set_option maxHeartbeats 400000 in
theorem do60_ok (W0 : World) (bo pb po : Nat) (o : OpB) (hf : o.fail = 0) : RunsTo W0 bo [(pb, vB bo), (po, vO o)] (.func (.func 60) #[] #[.pointer (some ⟨pb, 0, none⟩), .pointer (some ⟨po, 0, none⟩)]) (.int .i64 0) (fun C => doC C o) [(1, 0)] := by
  refine ⟨60, _, rfl, en60, fun w kn C E hk hB hE => ?_⟩
  have c0 : w.cell? ⟨pb, 0, none⟩ = some (.pointer (some ⟨bo, 0, none⟩)) := cell_of_ob (hB.obk (hk (pb, vB bo) (by simp))) 0
  have d0 : w.cell? ⟨po, 0, none⟩ = some (.int .i64 o.cell) := cell_of_ob (hB.obk (hk (po, vO o) (by simp))) 0
  have d1 : w.cell? ⟨po, 1, none⟩ = some (.int .i64 o.add) := cell_of_ob (hB.obk (hk (po, vO o) (by simp))) 1
  have d2 : w.cell? ⟨po, 2, none⟩ = some (.int .i64 o.fail) := cell_of_ob (hB.obk (hk (po, vO o) (by simp))) 2
  have hcon := bDo_ok W0 w bo kn C E hB hE o hf 0
  clear hf hB hk
  unfold opV at hcon
  go_enter Try.func60, Try.ntmps60
  go_wp2_with fail
  refine hcon.mono ?_
  rintro _ w2 ⟨rfl, hB2⟩
  have H2 := Lib.hid hB2
  clear hB2 hcon
  go_wp2_with fail
  go_ret
  exact ⟨rfl, H2.out⟩
theorem en61 (args : Array Value) (w : World) : (callFunc 61 args).run Try.prog w = .ok (.enter 61 args) w := by go_simp
set_option maxRecDepth 100000 in
set_option maxHeartbeats 400000 in
theorem ba61 (W0 : World) (bo pb po : Nat) (o : OpB) : RunsTo W0 bo [(pb, vB bo), (po, vO o)] (.func (.func 61) #[] #[.pointer (some ⟨pb, 0, none⟩), .pointer (some ⟨po, 0, none⟩)]) (.tuple #[]) (fun C => unC C o) [(2, 0)] := by
  refine ⟨61, _, rfl, en61, fun w kn C E hk hB hE => ?_⟩
  have c0 : w.cell? ⟨pb, 0, none⟩ = some (.pointer (some ⟨bo, 0, none⟩)) := cell_of_ob (hB.obk (hk (pb, vB bo) (by simp))) 0
  have d0 : w.cell? ⟨po, 0, none⟩ = some (.int .i64 o.cell) := cell_of_ob (hB.obk (hk (po, vO o) (by simp))) 0
  have d1 : w.cell? ⟨po, 1, none⟩ = some (.int .i64 o.add) := cell_of_ob (hB.obk (hk (po, vO o) (by simp))) 1
  have d2 : w.cell? ⟨po, 2, none⟩ = some (.int .i64 o.fail) := cell_of_ob (hB.obk (hk (po, vO o) (by simp))) 2
  have hcon := bBack W0 w bo kn C E hB hE o 0
  clear hB hk
  unfold opV at hcon
  go_enter Try.func61, Try.ntmps61
  go_wp2_with fail
  refine hcon.mono ?_
  rintro _ w2 ⟨rfl, hB2⟩
  have H2 := Lib.hid hB2
  clear hB2 hcon
  go_wp2_with fail
  go_end0
  exact ⟨rfl, H2.out⟩
theorem en62 (args : Array Value) (w : World) : (callFunc 62 args).run Try.prog w = .ok (.enter 62 args) w := by go_simp
set_option maxRecDepth 100000 in
set_option maxHeartbeats 400000 in
theorem gap62 (W0 : World) (bo : Nat) (kn : List (Nat × Obj)) : RunsTo W0 bo kn (.func (.func 62) #[] #[]) (.int .i64 8) (fun C => C) [] := by
  refine ⟨62, _, rfl, en62, fun w kn C E hk hB hE => ?_⟩
  have H2 := Lib.hid hB
  clear hB hk
  go_enter Try.func62, Try.ntmps62
  go_wp2_with fail
  go_ret
  exact ⟨rfl, by rw [List.append_nil]; exact H2.out⟩
theorem en30 (args : Array Value) (w : World) : (callFunc 30 args).run Try.prog w = .ok (.enter 30 args) w := by go_simp
set_option maxRecDepth 100000 in
set_option maxHeartbeats 400000 in
theorem gap30 (W0 : World) (bo : Nat) (kn : List (Nat × Obj)) : RunsTo W0 bo kn (.func (.func 30) #[] #[]) (.int .i64 8) (fun C => C) [] := by
  refine ⟨30, _, rfl, en30, fun w kn C E hk hB hE => ?_⟩
  have H2 := Lib.hid hB
  clear hB hk
  go_enter Try.func30, Try.ntmps30
  go_wp2_with fail
  go_ret
  exact ⟨rfl, by rw [List.append_nil]; exact H2.out⟩
end Go.Proofs.Ytfljhfggjbkomaa
