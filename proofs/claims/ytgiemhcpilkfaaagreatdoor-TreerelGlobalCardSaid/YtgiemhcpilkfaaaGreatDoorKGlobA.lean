/- Constraints between two tokens are well formed. -/
import Derived.Test.YtgiemhcpilkfaaaGreatDoorKSpec1

namespace Go.Ab.Prog
open Go Go.Ab
set_option linter.unusedSimpArgs false
set_option linter.unusedVariables false
set_option maxHeartbeats 8000000

/-- The cells of a constraint without kids. -/
def gc (op : Int) (a b name arg v : ByteArray) (mn mx : Int) (args : List ByteArray) : List PV :=
  [I op, .str a, .str b, .str name, .str arg, .str v, .bool false, I mn, I mx, .list (args.map .str), .list []]

theorem none_spec {op : Int} (h : ¬ op = 0) (a b name arg v : ByteArray) (mn mx : Int) (args : List ByteArray) : callV prog 57 [.agg (gc op a b name arg v mn mx args)] = some (.bool false, []) := by
  refine callV_fn (body := ic57) rfl rfl ?_
  simp [ic57, gc, h]

theorem measure_spec (op : Int) (a b name arg v : ByteArray) (mn mx : Int) (args : List ByteArray) : callV prog 58 [.agg (gc op a b name arg v mn mx args), I 0, I 1] = some (.tuple [I 1, I 1], []) := by
  refine callV_fn (body := ic58) rfl rfl ?_
  have hw : IntKind.i64.wrap 1 = 1 := by decide
  simp [ic58, gc, hw, ic58_0_eq, ic58_0_b]

theorem kids63 (f : Nat) (xs ys : List PV) : callV prog 63 [.list [], .clo f xs ys] = some (.bool false, []) := by
  have h91 : callV prog 91 [.list [], .clo f xs ys] = some (I (-1), []) := by
    refine callV_fn (body := ic91) rfl rfl ?_
    simp [ic91, ic91_0_eq, ic91_0_b]
  refine callV_fn (body := ic63) rfl rfl ?_
  simp [ic63, h91]

theorem atom_same (a b name arg : ByteArray) : callV prog 60 [.agg (gc 3 a b name arg ⟨#[]⟩ 0 0 [])] = some (.bool true, []) := by
  refine callV_fn (body := ic60) rfl rfl ?_
  simp [ic60, gc]

theorem sound_same (a b name arg : ByteArray) : callV prog 29 [.agg (gc 3 a b name arg ⟨#[]⟩ 0 0 [])] = some (.bool true, []) := by
  have h1 := none_spec (op := 3) (by decide) a b name arg ⟨#[]⟩ 0 0 []
  have h2 := measure_spec 3 a b name arg ⟨#[]⟩ 0 0 []
  have h3 := atom_same a b name arg
  have h4 : callV prog 59 [.agg (gc 3 a b name arg ⟨#[]⟩ 0 0 []), .fn 60] = some (.bool true, []) := by
    refine callV_fn (body := ic59) rfl rfl ?_
    have h5 := kids63
    simp [gc] at h3 h5
    simp [ic59, gc, h3, h5]
  refine callV_fn (body := ic29) rfl rfl ?_
  simp [gc] at h1 h2 h4
  simp [ic29, gc, h1, h2, h4]

theorem atom_dist (a b : ByteArray) (mn mx : Int) : callV prog 60 [.agg (gc 4 a b ⟨#[]⟩ ⟨#[]⟩ ⟨#[]⟩ mn mx [])] = some (.bool true, []) := by
  refine callV_fn (body := ic60) rfl rfl ?_
  simp [ic60, gc]

theorem sound_dist (a b : ByteArray) (mn mx : Int) : callV prog 29 [.agg (gc 4 a b ⟨#[]⟩ ⟨#[]⟩ ⟨#[]⟩ mn mx [])] = some (.bool true, []) := by
  have h1 := none_spec (op := 4) (by decide) a b ⟨#[]⟩ ⟨#[]⟩ ⟨#[]⟩ mn mx []
  have h2 := measure_spec 4 a b ⟨#[]⟩ ⟨#[]⟩ ⟨#[]⟩ mn mx []
  have h3 := atom_dist a b mn mx
  have h4 : callV prog 59 [.agg (gc 4 a b ⟨#[]⟩ ⟨#[]⟩ ⟨#[]⟩ mn mx []), .fn 60] = some (.bool true, []) := by
    refine callV_fn (body := ic59) rfl rfl ?_
    have h5 := kids63
    simp [gc] at h3 h5
    simp [ic59, gc, h3, h5]
  refine callV_fn (body := ic29) rfl rfl ?_
  simp [gc] at h1 h2 h4
  simp [ic29, gc, h1, h2, h4]

theorem atom_head (a b : ByteArray) : callV prog 60 [.agg (gc 6 a b ⟨#[]⟩ ⟨#[]⟩ ⟨#[]⟩ 0 0 [])] = some (.bool true, []) := by
  refine callV_fn (body := ic60) rfl rfl ?_
  simp [ic60, gc]

theorem sound_head (a b : ByteArray) : callV prog 29 [.agg (gc 6 a b ⟨#[]⟩ ⟨#[]⟩ ⟨#[]⟩ 0 0 [])] = some (.bool true, []) := by
  have h1 := none_spec (op := 6) (by decide) a b ⟨#[]⟩ ⟨#[]⟩ ⟨#[]⟩ 0 0 []
  have h2 := measure_spec 6 a b ⟨#[]⟩ ⟨#[]⟩ ⟨#[]⟩ 0 0 []
  have h3 := atom_head a b
  have h4 : callV prog 59 [.agg (gc 6 a b ⟨#[]⟩ ⟨#[]⟩ ⟨#[]⟩ 0 0 []), .fn 60] = some (.bool true, []) := by
    refine callV_fn (body := ic59) rfl rfl ?_
    have h5 := kids63
    simp [gc] at h3 h5
    simp [ic59, gc, h3, h5]
  refine callV_fn (body := ic29) rfl rfl ?_
  simp [gc] at h1 h2 h4
  simp [ic29, gc, h1, h2, h4]

theorem atom_anc (a b : ByteArray) : callV prog 60 [.agg (gc 7 a b ⟨#[]⟩ ⟨#[]⟩ ⟨#[]⟩ 0 0 [])] = some (.bool true, []) := by
  refine callV_fn (body := ic60) rfl rfl ?_
  simp [ic60, gc]

theorem sound_anc (a b : ByteArray) : callV prog 29 [.agg (gc 7 a b ⟨#[]⟩ ⟨#[]⟩ ⟨#[]⟩ 0 0 [])] = some (.bool true, []) := by
  have h1 := none_spec (op := 7) (by decide) a b ⟨#[]⟩ ⟨#[]⟩ ⟨#[]⟩ 0 0 []
  have h2 := measure_spec 7 a b ⟨#[]⟩ ⟨#[]⟩ ⟨#[]⟩ 0 0 []
  have h3 := atom_anc a b
  have h4 : callV prog 59 [.agg (gc 7 a b ⟨#[]⟩ ⟨#[]⟩ ⟨#[]⟩ 0 0 []), .fn 60] = some (.bool true, []) := by
    refine callV_fn (body := ic59) rfl rfl ?_
    have h5 := kids63
    simp [gc] at h3 h5
    simp [ic59, gc, h3, h5]
  refine callV_fn (body := ic29) rfl rfl ?_
  simp [gc] at h1 h2 h4
  simp [ic29, gc, h1, h2, h4]

theorem atom_path (a b : ByteArray) (args : List ByteArray) : callV prog 60 [.agg (gc 8 a b ⟨#[]⟩ ⟨#[]⟩ ⟨#[]⟩ 0 0 args)] = some (.bool true, []) := by
  refine callV_fn (body := ic60) rfl rfl ?_
  simp [ic60, gc]

theorem sound_path (a b : ByteArray) (args : List ByteArray) : callV prog 29 [.agg (gc 8 a b ⟨#[]⟩ ⟨#[]⟩ ⟨#[]⟩ 0 0 args)] = some (.bool true, []) := by
  have h1 := none_spec (op := 8) (by decide) a b ⟨#[]⟩ ⟨#[]⟩ ⟨#[]⟩ 0 0 args
  have h2 := measure_spec 8 a b ⟨#[]⟩ ⟨#[]⟩ ⟨#[]⟩ 0 0 args
  have h3 := atom_path a b args
  have h4 : callV prog 59 [.agg (gc 8 a b ⟨#[]⟩ ⟨#[]⟩ ⟨#[]⟩ 0 0 args), .fn 60] = some (.bool true, []) := by
    refine callV_fn (body := ic59) rfl rfl ?_
    have h5 := kids63
    simp [gc] at h3 h5
    simp [ic59, gc, h3, h5]
  refine callV_fn (body := ic29) rfl rfl ?_
  simp [gc] at h1 h2 h4
  simp [ic29, gc, h1, h2, h4]

theorem atom_node (a b name : ByteArray) : callV prog 60 [.agg (gc 9 a b name ⟨#[]⟩ ⟨#[]⟩ 0 0 [])] = some (.bool true, []) := by
  refine callV_fn (body := ic60) rfl rfl ?_
  simp [ic60, gc]

theorem sound_node (a b name : ByteArray) : callV prog 29 [.agg (gc 9 a b name ⟨#[]⟩ ⟨#[]⟩ 0 0 [])] = some (.bool true, []) := by
  have h1 := none_spec (op := 9) (by decide) a b name ⟨#[]⟩ ⟨#[]⟩ 0 0 []
  have h2 := measure_spec 9 a b name ⟨#[]⟩ ⟨#[]⟩ 0 0 []
  have h3 := atom_node a b name
  have h4 : callV prog 59 [.agg (gc 9 a b name ⟨#[]⟩ ⟨#[]⟩ 0 0 []), .fn 60] = some (.bool true, []) := by
    refine callV_fn (body := ic59) rfl rfl ?_
    have h5 := kids63
    simp [gc] at h3 h5
    simp [ic59, gc, h3, h5]
  refine callV_fn (body := ic29) rfl rfl ?_
  simp [gc] at h1 h2 h4
  simp [ic29, gc, h1, h2, h4]

theorem atom_depth (a : ByteArray) (mn mx : Int) : callV prog 60 [.agg (gc 10 a ⟨#[]⟩ ⟨#[]⟩ ⟨#[]⟩ ⟨#[]⟩ mn mx [])] = some (.bool true, []) := by
  refine callV_fn (body := ic60) rfl rfl ?_
  simp [ic60, gc]

theorem sound_depth (a : ByteArray) (mn mx : Int) : callV prog 29 [.agg (gc 10 a ⟨#[]⟩ ⟨#[]⟩ ⟨#[]⟩ ⟨#[]⟩ mn mx [])] = some (.bool true, []) := by
  have h1 := none_spec (op := 10) (by decide) a ⟨#[]⟩ ⟨#[]⟩ ⟨#[]⟩ ⟨#[]⟩ mn mx []
  have h2 := measure_spec 10 a ⟨#[]⟩ ⟨#[]⟩ ⟨#[]⟩ ⟨#[]⟩ mn mx []
  have h3 := atom_depth a mn mx
  have h4 : callV prog 59 [.agg (gc 10 a ⟨#[]⟩ ⟨#[]⟩ ⟨#[]⟩ ⟨#[]⟩ mn mx []), .fn 60] = some (.bool true, []) := by
    refine callV_fn (body := ic59) rfl rfl ?_
    have h5 := kids63
    simp [gc] at h3 h5
    simp [ic59, gc, h3, h5]
  refine callV_fn (body := ic29) rfl rfl ?_
  simp [gc] at h1 h2 h4
  simp [ic29, gc, h1, h2, h4]

end Go.Ab.Prog
