/- Running the evaluator by rewriting: one equation a step. -/
import Derived.Test.YtgiemhcpilkfaaaGreatDoorKLim

namespace Go.Ab
set_option linter.unusedSimpArgs false

theorem wrap64 {n : Int} (h1 : -9223372036854775808 ≤ n) (h2 : n < 9223372036854775808) : IntKind.i64.wrap n = n := by
  simp only [IntKind.wrap, IntKind.bits, IntKind.signed, Bool.true_and, decide_eq_true_eq, show ((2 : Int) ^ 64) = 18446744073709551616 from rfl, show ((2 : Int) ^ (64 - 1)) = 9223372036854775808 from rfl]
  split <;> omega

def tm : List (Nat × PV) → Tm
  | [] => fun _ => .undef
  | (t, v) :: l => upd (tm l) t v

def hp : List (Nat × Option Blk) → Hp
  | [] => fun _ => none
  | (k, v) :: l => upd (hp l) k v

@[simp] theorem tm_nil : tm [] = fun _ => .undef := rfl
@[simp] theorem tm_cons {t v l} : tm ((t, v) :: l) = upd (tm l) t v := rfl
@[simp] theorem hp_nil : hp [] = fun _ => none := rfl
@[simp] theorem hp_cons {t v l} : hp ((t, v) :: l) = upd (hp l) t v := rfl
@[simp] theorem upd_at {α : Type} {f : Nat → α} {k i : Nat} {v : α} : upd f k v i = if i = k then v else f i := rfl
@[simp] theorem val_t {T : Tm} {i : Nat} : val T (.t i) = T i := rfl
@[simp] theorem val_c {T : Tm} {v : PV} : val T (.c v) = v := rfl
@[simp] theorem put_some {T : Tm} {d : Nat} {v : PV} : put T (some d) v = upd T d v := rfl
@[simp] theorem put_none {T : Tm} {v : PV} : put T none v = T := rfl
@[simp] theorem restr_at {H : Hp} {ks : List Nat} {k : Nat} : restr H ks k = if ks.contains k then H k else none := rfl
@[simp] theorem ups_nil {H : Hp} : ups H [] = H := rfl
@[simp] theorem ups_cons {H : Hp} {k b l} : ups H ((k, b) :: l) = ups (upd H k (some b)) l := rfl

def thenK (r : Option (IX × St)) (k : St → Option (IX × St)) : Option (IX × St) :=
  match r with
  | some (.normal, σ) => k σ
  | r => r
@[simp] theorem thenK_normal {σ k} : thenK (some (.normal, σ)) k = k σ := rfl
@[simp] theorem thenK_ret {σ k} : thenK (some (.ret, σ)) k = some (.ret, σ) := rfl
@[simp] theorem thenK_exit {i σ k} : thenK (some (.exit i, σ)) k = some (.exit i, σ) := rfl

def blockK (id : Nat) (r : Option (IX × St)) : Option (IX × St) :=
  match r with
  | some (.exit j, σ') => if j = id then some (.normal, σ') else some (.exit j, σ')
  | r => r
@[simp] theorem blockK_normal {i σ} : blockK i (some (.normal, σ)) = some (.normal, σ) := rfl
@[simp] theorem blockK_ret {i σ} : blockK i (some (.ret, σ)) = some (.ret, σ) := rfl
@[simp] theorem blockK_exit {i j σ} : blockK i (some (.exit j, σ)) = if j = i then some (.normal, σ) else some (.exit j, σ) := rfl

def opsK (r : Option St) : Option (IX × St) :=
  match r with
  | some σ => some (.normal, σ)
  | none => none
@[simp] theorem opsK_some {σ} : opsK (some σ) = some (.normal, σ) := rfl

def maskK (r : Option St) (k : St → Option (IX × St)) : Option (IX × St) :=
  match r with
  | some σ => k σ
  | none => none
@[simp] theorem maskK_some {σ k} : maskK (some σ) k = k σ := rfl

def postM (lt lk : List Nat) (σ : St) : Option (IX × St) :=
  match mask lt lk σ with
  | some σ' => some (.normal, σ')
  | none => none
def normK (r : Option St) : Option (IX × St) :=
  match r with
  | some σ => some (.normal, σ)
  | none => none
@[simp] theorem normK_some {σ} : normK (some σ) = some (.normal, σ) := rfl
@[simp] theorem postM_eq {lt lk T H} : postM lt lk ⟨T, H⟩ = normK (mask lt lk ⟨T, H⟩) := rfl
def loopM (lt lk : List Nat) (lp : St → Option (IX × St)) (σ : St) : Option (IX × St) := maskK (mask lt lk σ) lp
@[simp] theorem loopM_eq {lt lk lp T H} : loopM lt lk lp ⟨T, H⟩ = maskK (mask lt lk ⟨T, H⟩) lp := rfl
def loopR (lt lk : List Nat) (b lp : St → Option (IX × St)) (σ : St) : Option (IX × St) := thenK (b σ) (loopM lt lk lp)
@[simp] theorem loopR_eq {lt lk b lp T H} : loopR lt lk b lp ⟨T, H⟩ = thenK (b ⟨T, H⟩) (loopM lt lk lp) := rfl

def condK (v : PV) (a b : Option (IX × St)) : Option (IX × St) :=
  match v with
  | .bool t => if t then a else b
  | _ => none

section
variable {prog : Nat → Option IFunc} {σ : St}
@[simp] theorem evV_skip : evV prog .skip σ = some (.normal, σ) := rfl
@[simp] theorem evV_region {ops d} : evV prog (.region ops d) σ = opsK (evOps (callV prog) ops σ) := rfl
@[simp] theorem evV_seq {a b} : evV prog (.seq a b) σ = thenK (evV prog a σ) (evV prog b) := by
  show (match evV prog a σ with | some (.normal, σ') => evV prog b σ' | r => r) = _
  unfold thenK; rfl
@[simp] theorem evV_cond {c a b} : evV prog (.cond c a b) σ = condK (val σ.T c) (evV prog a σ) (evV prog b σ) := rfl
theorem evV_true {c a b} (h : val σ.T c = .bool true) : evV prog (.cond c a b) σ = evV prog a σ := by rw [evV_cond, h]; rfl
theorem evV_false {c a b} (h : val σ.T c = .bool false) : evV prog (.cond c a b) σ = evV prog b σ := by rw [evV_cond, h]; rfl
@[simp] theorem evV_block {i a} : evV prog (.block i a) σ = blockK i (evV prog a σ) := rfl
@[simp] theorem evV_exit {i} : evV prog (.exit i) σ = some (.exit i, σ) := rfl
@[simp] theorem evV_ret : evV prog .ret σ = some (.ret, σ) := rfl
@[simp] theorem evV_scope {a} : evV prog (.scope a) σ = evV prog a σ := rfl
@[simp] theorem evV_gmask {lt lk a} : evV prog (.gmask lt lk a) σ = maskK (mask lt lk σ) (evV prog a) := rfl
@[simp] theorem evV_gpost {lt lk a} : evV prog (.gpost lt lk a) σ = thenK (evV prog a σ) (postM lt lk) := rfl
@[simp] theorem evV_gadopt {kb off κ sz a} : evV prog (.gadopt kb off κ sz a) σ = maskK (adopt kb off κ sz σ) (evV prog a) := rfl
end

def stepK (r : Option St) (k : St → Option St) : Option St :=
  match r with
  | some σ => k σ
  | none => none
@[simp] theorem stepK_some {σ k} : stepK (some σ) k = k σ := rfl

@[simp] theorem evOps_nil {c σ} : evOps c [] σ = some σ := rfl
@[simp] theorem evOps_cons {c o os σ} : evOps c (o :: os) σ = stepK (evOper c o σ) (evOps c os) := rfl

def outK (d : Option Nat) (ks : List Nat) (σ : St) (r : Option (PV × List (Nat × Blk))) : Option St :=
  match r with
  | some (v, us) => if us.all (fun u => ks.contains u.1) then some ⟨put σ.T d v, ups σ.H us⟩ else none
  | none => none
@[simp] theorem outK_some {d ks σ v us} : outK d ks σ (some (v, us)) = if us.all (fun u => ks.contains u.1) then some ⟨put σ.T d v, ups σ.H us⟩ else none := rfl

def guardK (d : Option Nat) (σ : St) (w : Option Bool) (r : Option St) : Option St :=
  match w with
  | none => none
  | some false => some ⟨put σ.T d .never, σ.H⟩
  | some true => r
@[simp] theorem guardK_true {d σ r} : guardK d σ (some true) r = r := rfl
@[simp] theorem guardK_false {d σ r} : guardK d σ (some false) r = some ⟨put σ.T d .never, σ.H⟩ := rfl

@[simp] theorem evOper_plain {c d op ks pre σ} : evOper c ⟨d, op, none, ks, pre⟩ σ = outK d ks σ (evOp c (val σ.T) (restr σ.H ks) op) := rfl
@[simp] theorem evOper_guard {c d op t b ks pre σ} : evOper c ⟨d, op, some (t, b), ks, pre⟩ σ = guardK d σ (wantd σ.T (some (t, b))) (outK d ks σ (evOp c (val σ.T) (restr σ.H ks) op)) := rfl


/-! ### The operations -/
def cpy (rows : List PV) (off : Nat) (ys : List PV) (k : Nat) : List PV := rows.take off ++ ys.take k ++ rows.drop (off + k)
theorem cpy_length {rows : List PV} {off : Nat} {ys : List PV} {k : Nat} (h1 : k ≤ ys.length) (h2 : off + k ≤ rows.length) : (cpy rows off ys k).length = rows.length := by
  simp [cpy]; omega
theorem cpy_mem {rows : List PV} {off : Nat} {ys : List PV} {k : Nat} {r : PV} (h : r ∈ cpy rows off ys k) : r ∈ rows ∨ r ∈ ys := by
  simp only [cpy, List.mem_append] at h
  rcases h with (h | h) | h
  · exact .inl (List.mem_of_mem_take h)
  · exact .inr (List.mem_of_mem_take h)
  · exact .inl (List.mem_of_mem_drop h)
def szs (sz : Nat) (ys : List PV) : Bool := ys.all (fun e => e.cells.length == sz)
@[simp] theorem szs_nil {sz : Nat} : szs sz [] = true := rfl
@[simp] theorem szs_cons {sz : Nat} {y : PV} {ys : List PV} : szs sz (y :: ys) = (y.cells.length == sz && szs sz ys) := rfl
@[simp] theorem szs_append {sz : Nat} {x y : List PV} : szs sz (x ++ y) = (szs sz x && szs sz y) := by simp [szs]
@[simp] theorem szs_take {sz k : Nat} {x : List PV} (h : szs sz x = true) : szs sz (x.take k) = true := by
  simp only [szs, List.all_eq_true] at h ⊢
  exact fun y hy => h y (List.mem_of_mem_take hy)
@[simp] theorem szs_drop {sz k : Nat} {x : List PV} (h : szs sz x = true) : szs sz (x.drop k) = true := by
  simp only [szs, List.all_eq_true] at h ⊢
  exact fun y hy => h y (List.mem_of_mem_drop hy)
theorem szs_map {α : Type} {sz : Nat} {f : α → PV} (h : ∀ a, (f a).cells.length = sz) {l : List α} : szs sz (l.map f) = true := by
  simp [szs, h]
@[simp] theorem szs_int {k : IntKind} {l : List Int} : szs 1 (l.map (fun n => PV.int k n)) = true := by simp [szs, PV.cells]
@[simp] theorem szs_str {l : List ByteArray} : szs 1 (l.map PV.str) = true := by simp [szs, PV.cells]
section
variable {call : CallF} {ρ : Src → PV} {h : Hp} {x y z c a b l i : Src} {κ n off sz by_ m : Nat} {zs : List PV} {zero : PV} {args : List Src}
@[simp] theorem evOp_mov : evOp call ρ h (.mov x) = (some (ρ x, [])) := rfl
@[simp] theorem evOp_movp : evOp call ρ h (.movp x) = (match pur h true (ρ x) with
    | some p => some (p, frz h (refs (ρ x)))
    | none => none) := rfl
@[simp] theorem evOp_pick : evOp call ρ h (.pick c a b) = (match ρ c with
    | .bool t => some (if t then ρ a else ρ b, [])
    | _ => none) := rfl
@[simp] theorem evOp_nilarr : evOp call ρ h (.nilarr κ sz) = (if (h κ).isNone then some (.arr κ 0 0 0, [(κ, .arr sz [] false)]) else none) := rfl
@[simp] theorem evOp_alloc : evOp call ρ h (.alloc κ zs) = (if (h κ).isNone then some (.ptr κ 0, [(κ, .box zs)]) else none) := rfl
@[simp] theorem evOp_box : evOp call ρ h (.box κ n x) = (if (h κ).isNone ∧ cellsOk (ρ x) = true ∧ (ρ x).cells.length = n then some (.ptr κ 0, [(κ, .box (ρ x).cells)]) else none) := rfl
@[simp] theorem evOp_build {parts : List (Nat × Nat × Src)} : evOp call ρ h (.build zs parts) = (match fillC zs (parts.map fun p => (p.1, p.2.1, ρ p.2.2)) with
    | some cs => some (.agg cs, [])
    | none => none) := rfl
@[simp] theorem evOp_buildSl {κ : Option Nat} {parts : List (Nat × Src)} : evOp call ρ h (.buildSl κ sz zero n parts) = (
    match fillR h sz (List.replicate n zero) (parts.map fun p => (p.1, ρ p.2)) with
    | some rows =>
      let fs := frz h (parts.flatMap fun p => refs (ρ p.2))
      match κ with
      | none => some (.list rows, fs)
      | some κ => if (h κ).isNone then some (.arr κ n 0 n, fs ++ [(κ, .arr sz rows false)]) else none
    | none => none) := rfl
@[simp] theorem evOp_makeSl : evOp call ρ h (.makeSl κ sz by_ zero l c) = (match ρ l, ρ c with
    | .int .i64 n, .int .i64 m =>
      if (h κ).isNone ∧ 0 ≤ n ∧ n ≤ m ∧ m.toNat * by_ ≤ room ∧ m ≤ room then some (.arr κ n.toNat 0 n.toNat, [(κ, .arr sz (List.replicate n.toNat zero) false)]) else none
    | _, _ => none) := rfl
@[simp] theorem evOp_load {ag : Bool} : evOp call ρ h (.load n ag a) = (match ρ a with
    | .ptr κ off => match h κ with
      | some (.box cs) => (ld n ag (cs.drop off)).map (·, [])
      | some (.rbox cs) => (ld n ag (cs.drop off)).map (·, [])
      | _ => none
    | .eptr cs => (ld n ag cs).map (·, [])
    | .rptr cs => (ld n ag cs).map (·, [])
    | .aptr κ tot i c => match h κ with
      | some (.arr _ rows _) => if rows.length = tot then
          match rows[i]? with
          | some r => (ld n ag (r.cells.drop c)).map (·, [])
          | none => none
        else none
      | _ => none
    | _ => none) := rfl
@[simp] theorem evOp_store : evOp call ρ h (.store n a x) = (match ρ a with
    | .ptr κ off => match h κ with
      | some (.box cs) => if cellsOk (ρ x) = true ∧ (ρ x).cells.length = n ∧ off + n ≤ cs.length then some (.never, [(κ, .box (cs.take off ++ (ρ x).cells ++ cs.drop (off + n)))]) else none
      | _ => none
    | .aptr κ tot i c => match h κ with
      | some (.arr sz rows false) => if rows.length = tot then
          match rows[i]?, pur h true (ρ x) with
          | some r, some p => if refs (ρ x) = [] ∧ p.cells.length = n ∧ c + n ≤ r.cells.length then
              some (.never, [(κ, .arr sz (rows.set i (rowSet r (r.cells.take c ++ p.cells ++ r.cells.drop (c + n)))) false)]) else none
          | _, _ => none
        else none
      | _ => none
    | _ => none) := rfl
@[simp] theorem evOp_nilChk : evOp call ρ h (.nilChk x) = (match ρ x with
    | .ptr κ o => some (.ptr κ o, [])
    | .eptr cs => some (.eptr cs, [])
    | .rptr cs => some (.rptr cs, [])
    | .aptr κ t i c => match h κ with
      | some (.arr _ rows _) => if rows.length = t then some (.aptr κ t i c, []) else none
      | _ => none
    | _ => none) := rfl
@[simp] theorem evOp_bin {op : BinOp} : evOp call ρ h (.bin op x y) = ((binV op (ρ x) (ρ y)).map (·, [])) := rfl
@[simp] theorem evOp_isNil : evOp call ρ h (.isNil x) = (match ρ x with
    | .nil => some (.bool true, [])
    | .list (_ :: _) => some (.bool false, [])
    | _ => none) := rfl
@[simp] theorem evOp_eqB {ne : Bool} : evOp call ρ h (.eqB ne x y) = (match ρ x, ρ y with
    | .bool a, .bool b => some (.bool (if ne then !(a == b) else a == b), [])
    | _, _ => none) := rfl
@[simp] theorem evOp_eqAgg {ne : Bool} {ks : List EK} : evOp call ρ h (.eqAgg ne ks x y) = (match ρ x, ρ y with
    | .agg a, .agg b => (eqCells ks a b).map fun r => (.bool (if ne then !r else r), [])
    | _, _ => none) := rfl
@[simp] theorem evOp_un {op : UnOp} : evOp call ρ h (.un op x) = ((unV op (ρ x)).map (·, [])) := rfl
@[simp] theorem evOp_conv {k : CK} : evOp call ρ h (.conv k x) = ((convV h k (ρ x)).map (·, [])) := rfl
@[simp] theorem evOp_faddr : evOp call ρ h (.faddr off x) = (match ρ x with
    | .ptr κ o => some (.ptr κ (o + off), [])
    | .eptr cs => some (.eptr (cs.drop off), [])
    | .rptr cs => some (.rptr (cs.drop off), [])
    | .aptr κ t i c => match h κ with
      | some (.arr _ rows _) => if rows.length = t then some (.aptr κ t i (c + off), []) else none
      | _ => none
    | _ => none) := rfl
@[simp] theorem evOp_field {ag : Bool} : evOp call ρ h (.field off n ag x) = (match ρ x with
    | .agg cs => (ld n ag (cs.drop off)).map (·, [])
    | _ => none) := rfl
@[simp] theorem evOp_iaddr : evOp call ρ h (.iaddr sz x i) = (match ρ i with
    | .int _ n => if 0 ≤ n then
        match ρ x with
        | .list es => match es[n.toNat]? with
          | some e => if e.cells.length = sz then some (.eptr e.cells, []) else none
          | none => none
        | .arr κ tot off len => match h κ with
          | some (.arr sz' rows _) => if rows.length = tot ∧ off + len ≤ tot ∧ sz' = sz ∧ n.toNat < len then some (.aptr κ tot (off + n.toNat) 0, []) else none
          | _ => none
        | _ => none
      else none
    | _ => none) := rfl
@[simp] theorem evOp_index : evOp call ρ h (.index x i) = (match ρ x, ρ i with
    | .str s, .int _ n => if 0 ≤ n then match s[n.toNat]? with
        | some b => some (.int .u8 b.toNat, [])
        | none => none
      else none
    | _, _ => none) := rfl
@[simp] theorem evOp_slice {isStr : Bool} {lo hi : Option Src} : evOp call ρ h (.slice isStr sz x lo hi) = (match bnd ρ lo, bnd ρ hi with
    | some l, some r => (sliceV h isStr sz (ρ x) l r).map (·, [])
    | _, _ => none) := rfl
@[simp] theorem evOp_len {isStr : Bool} : evOp call ρ h (.len isStr x) = ((lenV h isStr (ρ x)).map fun (n : Nat) => (.int .i64 (n : Int), [])) := rfl
@[simp] theorem evOp_app {κ : Option Nat} : evOp call ρ h (.app κ sz by_ x y) = (match rowsOf h (ρ y) with
    | some ys =>
      if szs sz ys then
        match ρ x, κ with
        | .arr κ tot off len, _ => match h κ with
          | some (.arr sz' rows ro) =>
            if rows.length = tot ∧ off = 0 ∧ len = tot ∧ sz' = sz ∧ (tot + ys.length) * by_ ≤ room ∧ tot + ys.length ≤ room then
              some (.arr κ (tot + ys.length) 0 (tot + ys.length), [(κ, .arr sz (rows ++ ys) ro)])
            else none
          | _ => none
        | .nil, some κ =>
          if (h κ).isNone ∧ ys.length * by_ ≤ room ∧ ys.length ≤ room then some (.arr κ ys.length 0 ys.length, [(κ, .arr sz ys false)]) else none
        | _, _ => none
      else none
    | none => none) := rfl
@[simp] theorem evOp_copy : evOp call ρ h (.copy sz x y) = (match rowsOf h (ρ y), ρ x with
    | some ys, .arr κ tot off len => match h κ with
      | some (.arr sz' rows false) =>
        if rows.length = tot ∧ off + len ≤ tot ∧ sz' = sz ∧ szs sz ys then
          some (.int .i64 (min ys.length len : Nat), [(κ, .arr sz (cpy rows off ys (min ys.length len)) false)])
        else none
      | _ => none
    | _, _ => none) := rfl
@[simp] theorem evOp_mm {isMax : Bool} : evOp call ρ h (.mm isMax x y) = (match ρ x, ρ y with
    | .int k a, .int k' b => if k = k' then some (.int k (if isMax then (if b > a then b else a) else (if b < a then b else a)), []) else none
    | _, _ => none) := rfl
@[simp] theorem evOp_extract {i : Nat} : evOp call ρ h (.extract x i) = (match ρ x with
    | .tuple vs => match vs[i]? with
      | some v => some (v, [])
      | none => none
    | _ => none) := rfl
@[simp] theorem evOp_range : evOp call ρ h (.range κ x) = (match ρ x with
    | .str s => if (h κ).isNone then some (.ptr κ 0, [(κ, .siter s 0)]) else none
    | _ => none) := rfl
@[simp] theorem evOp_mkMap : evOp call ρ h (.mkMap κ) = (if (h κ).isNone then some (.map κ, [(κ, .map [])]) else none) := rfl
@[simp] theorem evOp_mapSet {m k v : Src} : evOp call ρ h (.mapSet m k v) = (match ρ m, ρ k, ρ v with
    | .map κ, .int .i64 n, .bool b => match h κ with
      | some (.map es) => some (.never, [(κ, .map (mapPut es n b))])
      | _ => none
    | _, _, _ => none) := rfl
@[simp] theorem evOp_mapGet {m k : Src} : evOp call ρ h (.mapGet m k) = (match ρ m, ρ k with
    | .map κ, .int .i64 n => match h κ with
      | some (.map es) => some (.bool (mapAt es n), [])
      | _ => none
    | _, _ => none) := rfl
@[simp] theorem evOp_mapLen {m : Src} : evOp call ρ h (.mapLen m) = (match ρ m with
    | .map κ => match h κ with
      | some (.map es) => some (.int .i64 es.length, [])
      | _ => none
    | _ => none) := rfl
@[simp] theorem evOp_next : evOp call ρ h (.next x) = (match ρ x with
    | .ptr κ off => match h κ with
      | some (.siter s pos) => if off = 0 then
          if pos < s.size then some (.tuple [.bool true, .int .i64 pos, .int .i32 (Utf8.decode s pos).1], [(κ, .siter s (pos + (Utf8.decode s pos).2))])
          else some (.tuple [.bool false], [])
        else none
      | _ => none
    | _ => none) := rfl
end

@[simp] theorem evOp_call {call : CallF} {ρ : Src → PV} {h : Hp} {rκ : Option Nat} {f : Nat} {args : List Src} : evOp call ρ h (.call rκ f args) = (
    match lends h (args.map ρ) with
    | some as => match call f as with
      | some (res, outs) =>
        if ((args.map ρ).flatMap boxKey).Nodup then
          match outUps ((args.map ρ).flatMap boxKey) outs with
          | some us =>
            match res, rκ with
            | .boxed cs, some κ => if (h κ).isNone then some (.ptr κ 0, (frz h ((args.map ρ).flatMap (lentKeys h)) ++ us) ++ [(κ, .box cs)]) else none
            | .boxed _, none => none
            | v, _ => some (v, frz h ((args.map ρ).flatMap (lentKeys h)) ++ us)
          | none => none
        else none
      | none => none
    | none => none) := rfl


def capK (r : Option (PV × List (Nat × Blk))) (k : List (Nat × Blk) → Option (List PV × List (Nat × Blk))) : Option (List PV × List (Nat × Blk)) :=
  match r with
  | some (p, us) => match k us with
    | some (ps, us') => some (p :: ps, us ++ us')
    | none => none
  | none => none
def consC (p : PV) (us : List (Nat × Blk)) (r : Option (List PV × List (Nat × Blk))) : Option (List PV × List (Nat × Blk)) :=
  match r with
  | some (ps, us') => some (p :: ps, us ++ us')
  | none => none
@[simp] theorem consC_some {p us ps us'} : consC p us (some (ps, us')) = some (p :: ps, us ++ us') := rfl
@[simp] theorem capK_some {p us k} : capK (some (p, us)) k = consC p us (k us) := rfl
@[simp] theorem capL_nil {h lo} : capL h lo [] = some ([], []) := rfl
@[simp] theorem capL_cons {h lo v l} : capL h lo (v :: l) = capK (capV h lo v) (fun us => capL (ups h us) lo l) := by
  show (match capV h lo v with
    | some (p, us) => match capL (ups h us) lo l with
      | some (ps, us') => some (p :: ps, us ++ us')
      | none => none
    | none => none) = _
  cases h1 : capV h lo v with
  | none => rfl
  | some r => obtain ⟨p, us⟩ := r; cases h2 : capL (ups h us) lo l with
    | none => simp only [capK, h2]
    | some r' => obtain ⟨ps, us'⟩ := r'; simp only [capK, h2]
def rboxK (κ : Nat) (h : Hp) (cs : List PV) (r : Option (List PV)) : Option (PV × List (Nat × Blk)) :=
  match r with
  | some ps => some (.rptr ps, frz h (cs.flatMap refC) ++ [(κ, .rbox ps)])
  | none => none
@[simp] theorem rboxK_some {κ h cs ps} : rboxK κ h cs (some ps) = some (.rptr ps, frz h (cs.flatMap refC) ++ [(κ, .rbox ps)]) := rfl
def capB (κ : Nat) (h : Hp) (b : Option Blk) : Option (PV × List (Nat × Blk)) :=
  match b with
  | some (.box cs) => rboxK κ h cs (purCs h true cs)
  | some (.rbox ps) => some (.rptr ps, [])
  | _ => none
@[simp] theorem capB_box {κ h cs} : capB κ h (some (.box cs)) = rboxK κ h cs (purCs h true cs) := rfl
@[simp] theorem capB_rbox {κ h cs} : capB κ h (some (.rbox cs)) = some (.rptr cs, []) := rfl
@[simp] theorem capV_ptr {h lo κ off} : capV h lo (.ptr κ off) = if off = 0 ∧ lo ≤ κ then capB κ h (h κ) else none := by
  show (if off = 0 ∧ lo ≤ κ then match h κ with
      | some (.box cs) => match purCs h true cs with
        | some ps => some (PV.rptr ps, frz h (cs.flatMap refC) ++ [(κ, Blk.rbox ps)])
        | none => none
      | some (.rbox ps) => some (.rptr ps, [])
      | _ => none
    else none) = _
  split
  · cases h κ with
    | none => rfl
    | some b => cases b with
      | box cs => show (match purCs h true cs with | some ps => some (PV.rptr ps, frz h (cs.flatMap refC) ++ [(κ, Blk.rbox ps)]) | none => none) = rboxK κ h cs (purCs h true cs)
                  unfold rboxK; rfl
      | _ => rfl
  · rfl
@[simp] theorem capV_bool {h lo b} : capV h lo (.bool b) = some (.bool b, []) := rfl
@[simp] theorem capV_int {h lo k n} : capV h lo (.int k n) = some (.int k n, []) := rfl
@[simp] theorem capV_str {h lo s} : capV h lo (.str s) = some (.str s, []) := rfl
@[simp] theorem capV_list {h lo es} : capV h lo (.list es) = some (.list es, []) := rfl
@[simp] theorem capV_rptr {h lo es} : capV h lo (.rptr es) = some (.rptr es, []) := rfl
@[simp] theorem capV_clo {h lo f a b} : capV h lo (.clo f a b) = some (.clo f a b, []) := rfl
@[simp] theorem capV_fn {h lo f} : capV h lo (.fn f) = some (.fn f, []) := rfl
def mkFnK (f n : Nat) (r : Option (List PV × List (Nat × Blk))) : Option (PV × List (Nat × Blk)) :=
  match r with
  | some (ps, us) => some (.clo f (ps.take n) (ps.drop n), us)
  | none => none
@[simp] theorem mkFnK_some {f n ps us} : mkFnK f n (some (ps, us)) = some (.clo f (ps.take n) (ps.drop n), us) := rfl
@[simp] theorem evOp_mkFn {call : CallF} {ρ : Src → PV} {h : Hp} {f lo as bs} : evOp call ρ h (.mkFn f lo as bs) = mkFnK f as.length (capL h lo ((as ++ bs).map ρ)) := rfl
@[simp] theorem evCall_eq {call : CallF} {h : Hp} {rκ : Option Nat} {f : Nat} {vs : List PV} : evCall call h rκ f vs = (
    match lends h vs with
    | some as => match call f as with
      | some (res, outs) =>
        if (vs.flatMap boxKey).Nodup then
          match outUps (vs.flatMap boxKey) outs with
          | some us =>
            match res, rκ with
            | .boxed cs, some κ => if (h κ).isNone then some (.ptr κ 0, (frz h (vs.flatMap (lentKeys h)) ++ us) ++ [(κ, .box cs)]) else none
            | .boxed _, none => none
            | v, _ => some (v, frz h (vs.flatMap (lentKeys h)) ++ us)
          | none => none
        else none
      | none => none
    | none => none) := rfl
@[simp] theorem evOp_callv {call : CallF} {ρ : Src → PV} {h : Hp} {x : Src} {fs : List Nat} {args : List Src} : evOp call ρ h (.callv x fs args) = (match ρ x with
    | .fn f => if fs.contains f then evCall call h none f (args.map ρ) else none
    | .clo f as bs => if fs.contains f then evCall call h none f (as ++ args.map ρ ++ bs) else none
    | _ => none) := rfl

/-! ### Values -/
section
variable {h : Hp} {nrm b b' : Bool} {k k' : IntKind} {n n' : Int} {s s' : ByteArray} {es cs vs : List PV} {f κ off tot len i c : Nat}
@[simp] theorem refs_map : refs (.map κ) = [κ] := rfl
@[simp] theorem refC_map : refC (.map κ) = [κ] := rfl
@[simp] theorem cells_bool : PV.cells (.bool b) = [.bool b] := rfl
@[simp] theorem cells_int : PV.cells (.int k n) = [.int k n] := rfl
@[simp] theorem cells_str : PV.cells (.str s) = [.str s] := rfl
@[simp] theorem cells_nil : PV.cells .nil = [.nil] := rfl
@[simp] theorem cells_list : PV.cells (.list es) = [.list es] := rfl
@[simp] theorem cells_agg : PV.cells (.agg cs) = cs := rfl
@[simp] theorem cells_arr : PV.cells (.arr κ tot off len) = [.arr κ tot off len] := rfl
@[simp] theorem cells_ptr : PV.cells (.ptr κ off) = [.ptr κ off] := rfl
@[simp] theorem cells_rptr : PV.cells (.rptr cs) = [.rptr cs] := rfl
@[simp] theorem cells_clo : PV.cells (.clo f cs es) = [.clo f cs es] := rfl
@[simp] theorem cells_fn : PV.cells (.fn f) = [.fn f] := rfl
@[simp] theorem cells_nilfn : PV.cells (.nilfn) = [.nilfn] := rfl
@[simp] theorem cells_yfn {yl : Nat} : PV.cells (.yfn yl) = [.yfn yl] := rfl
@[simp] theorem refs_bool : refs (.bool b) = [] := rfl
@[simp] theorem refs_int : refs (.int k n) = [] := rfl
@[simp] theorem refs_str : refs (.str s) = [] := rfl
@[simp] theorem refs_nil : refs .nil = [] := rfl
@[simp] theorem refs_undef : refs .undef = [] := rfl
@[simp] theorem refs_never : refs .never = [] := rfl
@[simp] theorem refs_list : refs (.list es) = [] := rfl
@[simp] theorem refs_eptr : refs (.eptr es) = [] := rfl
@[simp] theorem refs_arr : refs (.arr κ tot off len) = [κ] := rfl
@[simp] theorem refs_ptr : refs (.ptr κ off) = [κ] := rfl
@[simp] theorem refs_rptr : refs (.rptr cs) = [] := rfl
@[simp] theorem refs_clo : refs (.clo f cs es) = [] := rfl
@[simp] theorem refs_fn : refs (.fn f) = [] := rfl
@[simp] theorem refs_nilfn : refs (.nilfn) = [] := rfl
@[simp] theorem refs_yfn {yl : Nat} : refs (.yfn yl) = [] := rfl
@[simp] theorem refs_aptr : refs (.aptr κ tot i c) = [κ] := rfl
@[simp] theorem refs_agg : refs (.agg cs) = cs.flatMap refC := rfl
@[simp] theorem refs_tuple : refs (.tuple cs) = cs.flatMap refC := rfl
@[simp] theorem refC_bool : refC (.bool b) = [] := rfl
@[simp] theorem refC_int : refC (.int k n) = [] := rfl
@[simp] theorem refC_str : refC (.str s) = [] := rfl
@[simp] theorem refC_nil : refC .nil = [] := rfl
@[simp] theorem refC_list : refC (.list es) = [] := rfl
@[simp] theorem refC_agg : refC (.agg es) = [] := rfl
@[simp] theorem refC_arr : refC (.arr κ tot off len) = [κ] := rfl
@[simp] theorem refC_ptr : refC (.ptr κ off) = [κ] := rfl
@[simp] theorem refC_rptr : refC (.rptr cs) = [] := rfl
@[simp] theorem refC_clo : refC (.clo f cs es) = [] := rfl
@[simp] theorem refC_fn : refC (.fn f) = [] := rfl
@[simp] theorem refC_nilfn : refC (.nilfn) = [] := rfl
@[simp] theorem refC_yfn {yl : Nat} : refC (.yfn yl) = [] := rfl
@[simp] theorem cellOk_bool : cellOk (.bool b) = true := rfl
@[simp] theorem cellOk_int : cellOk (.int k n) = true := rfl
@[simp] theorem cellOk_str : cellOk (.str s) = true := rfl
@[simp] theorem cellOk_nil : cellOk .nil = true := rfl
@[simp] theorem cellOk_list : cellOk (.list es) = true := rfl
@[simp] theorem cellOk_arr : cellOk (.arr κ tot off len) = true := rfl
@[simp] theorem cellOk_rptr : cellOk (.rptr cs) = true := rfl
@[simp] theorem cellOk_clo : cellOk (.clo f cs es) = true := rfl
@[simp] theorem cellOk_fn : cellOk (.fn f) = true := rfl
@[simp] theorem cellOk_nilfn : cellOk (.nilfn) = true := rfl
@[simp] theorem cellOk_yfn {yl : Nat} : cellOk (.yfn yl) = true := rfl
@[simp] theorem cellOk_ptr : cellOk (.ptr κ off) = true := rfl
@[simp] theorem cellsOk_bool : cellsOk (.bool b) = true := rfl
@[simp] theorem cellsOk_int : cellsOk (.int k n) = true := rfl
@[simp] theorem cellsOk_str : cellsOk (.str s) = true := rfl
@[simp] theorem cellsOk_nil : cellsOk .nil = true := rfl
@[simp] theorem cellsOk_list : cellsOk (.list es) = true := rfl
@[simp] theorem cellsOk_arr : cellsOk (.arr κ tot off len) = true := rfl
@[simp] theorem cellsOk_rptr : cellsOk (.rptr cs) = true := rfl
@[simp] theorem cellsOk_clo : cellsOk (.clo f cs es) = true := rfl
@[simp] theorem cellsOk_fn : cellsOk (.fn f) = true := rfl
@[simp] theorem cellsOk_nilfn : cellsOk (.nilfn) = true := rfl
@[simp] theorem cellsOk_yfn {yl : Nat} : cellsOk (.yfn yl) = true := rfl
@[simp] theorem cellsOk_ptr : cellsOk (.ptr κ off) = true := rfl
@[simp] theorem cellsOk_agg : cellsOk (.agg cs) = true := rfl
@[simp] theorem purC_bool : purC h nrm (.bool b) = some (.bool b) := rfl
@[simp] theorem purC_int : purC h nrm (.int k n) = some (.int k n) := rfl
@[simp] theorem purC_str : purC h nrm (.str s) = some (.str s) := rfl
@[simp] theorem purC_list : purC h nrm (.list es) = some (.list es) := rfl
@[simp] theorem purC_nil : purC h true .nil = some (.list []) := rfl
@[simp] theorem purC_nil' : purC h false .nil = some .nil := rfl
@[simp] theorem purC_rptr : purC h nrm (.rptr cs) = some (.rptr cs) := rfl
@[simp] theorem purC_clo : purC h nrm (.clo f cs es) = some (.clo f cs es) := rfl
@[simp] theorem purC_fn : purC h nrm (.fn f) = some (.fn f) := rfl
@[simp] theorem purC_nilfn : purC h nrm (.nilfn) = some (.nilfn) := rfl
@[simp] theorem purC_yfn {yl : Nat} : purC h nrm (.yfn yl) = some (.yfn yl) := rfl
def sub (rows : List PV) (tot off len : Nat) : List PV := if off = 0 ∧ len = tot then rows else (rows.drop off).take len
@[simp] theorem sub_all {rows : List PV} {t : Nat} : sub rows t 0 t = rows := by simp [sub]
theorem sub_eq {rows : List PV} {tot off len : Nat} (h : rows.length = tot) : sub rows tot off len = (rows.drop off).take len := by
  unfold sub; split
  · rename_i e; obtain ⟨rfl, rfl⟩ := e; rw [List.drop_zero, List.take_of_length_le (by omega)]
  · rfl
def arrK (b : Option Blk) (tot off len : Nat) : Option (List PV) :=
  match b with
  | some (.arr _ rows _) => if rows.length = tot ∧ off + len ≤ tot then some (sub rows tot off len) else none
  | _ => none
@[simp] theorem arrK_arr {sz rows ro} : arrK (some (.arr sz rows ro)) tot off len = if rows.length = tot ∧ off + len ≤ tot then some (sub rows tot off len) else none := rfl
def listK (r : Option (List PV)) : Option PV :=
  match r with
  | some l => some (.list l)
  | none => none
@[simp] theorem listK_some {l} : listK (some l) = some (.list l) := rfl
@[simp] theorem purC_arr : purC h nrm (.arr κ tot off len) = listK (arrK (h κ) tot off len) := by
  show (match h κ with
    | some (.arr _ rows _) => if rows.length = tot ∧ off + len ≤ tot then some (PV.list ((rows.drop off).take len)) else none
    | _ => none) = _
  cases h κ with
  | none => rfl
  | some b =>
    cases b with
    | arr sz rows ro =>
      show (if rows.length = tot ∧ off + len ≤ tot then some (PV.list ((rows.drop off).take len)) else none) = listK (if rows.length = tot ∧ off + len ≤ tot then some (sub rows tot off len) else none)
      split
      · rename_i e; rw [sub_eq e.1]; rfl
      · rfl
    | _ => rfl
def consK (p : Option PV) (r : Option (List PV)) : Option (List PV) :=
  match p with
  | some p => match r with
    | some ps => some (p :: ps)
    | none => none
  | none => none
@[simp] theorem consK_some {p ps} : consK (some p) (some ps) = some (p :: ps) := rfl
@[simp] theorem purCs_nil : purCs h nrm [] = some [] := rfl
@[simp] theorem purCs_cons {c : PV} : purCs h nrm (c :: cs) = consK (purC h nrm c) (purCs h nrm cs) := rfl
def aggK (r : Option (List PV)) : Option PV :=
  match r with
  | some ps => some (.agg ps)
  | none => none
@[simp] theorem aggK_some {ps} : aggK (some ps) = some (.agg ps) := rfl
@[simp] theorem pur_agg : pur h nrm (.agg cs) = aggK (purCs h nrm cs) := rfl
@[simp] theorem pur_bool : pur h nrm (.bool b) = some (.bool b) := rfl
@[simp] theorem pur_int : pur h nrm (.int k n) = some (.int k n) := rfl
@[simp] theorem pur_str : pur h nrm (.str s) = some (.str s) := rfl
@[simp] theorem pur_list : pur h nrm (.list es) = some (.list es) := rfl
@[simp] theorem pur_nil : pur h true .nil = some (.list []) := rfl
@[simp] theorem pur_rptr : pur h nrm (.rptr cs) = some (.rptr cs) := rfl
@[simp] theorem pur_clo : pur h nrm (.clo f cs es) = some (.clo f cs es) := rfl
@[simp] theorem pur_fn : pur h nrm (.fn f) = some (.fn f) := rfl
@[simp] theorem pur_nilfn : pur h nrm (.nilfn) = some (.nilfn) := rfl
@[simp] theorem pur_yfn {yl : Nat} : pur h nrm (.yfn yl) = some (.yfn yl) := rfl
@[simp] theorem pur_arr : pur h nrm (.arr κ tot off len) = purC h nrm (.arr κ tot off len) := rfl
@[simp] theorem rowsOf_nil : rowsOf h .nil = some [] := rfl
@[simp] theorem rowsOf_list : rowsOf h (.list es) = some es := rfl
@[simp] theorem rowsOf_str : rowsOf h (.str s) = some (bytesPV s) := rfl
@[simp] theorem rowsOf_arr : rowsOf h (.arr κ tot off len) = arrK (h κ) tot off len := by
  show (match h κ with
    | some (.arr _ rows _) => if rows.length = tot ∧ off + len ≤ tot then some ((rows.drop off).take len) else none
    | _ => none) = _
  cases h κ with
  | none => rfl
  | some b =>
    cases b with
    | arr sz rows ro =>
      show (if rows.length = tot ∧ off + len ≤ tot then some ((rows.drop off).take len) else none) = (if rows.length = tot ∧ off + len ≤ tot then some (sub rows tot off len) else none)
      split
      · rename_i e; rw [sub_eq e.1]
      · rfl
    | _ => rfl
@[simp] theorem frz_nil : frz h [] = [] := rfl
def frzK (κ : Nat) (b : Option Blk) (r : List (Nat × Blk)) : List (Nat × Blk) :=
  match b with
  | some (.arr sz rows _) => (κ, .arr sz rows true) :: r
  | _ => r
@[simp] theorem frzK_arr {sz rows ro r} : frzK κ (some (.arr sz rows ro)) r = (κ, .arr sz rows true) :: r := rfl
@[simp] theorem frzK_box {r} : frzK κ (some (.box cs)) r = r := rfl
@[simp] theorem frzK_rbox {r} : frzK κ (some (.rbox cs)) r = r := rfl
@[simp] theorem frz_cons {l} : frz h (κ :: l) = frzK κ (h κ) (frz h l) := rfl
@[simp] theorem ld_one {v : PV} {cs} : ld 1 false (v :: cs) = some v := rfl
@[simp] theorem ld_agg {n : Nat} : ld n true cs = if n ≤ cs.length then some (.agg (cs.take n)) else none := rfl
@[simp] theorem fillC_nil : fillC cs [] = some cs := rfl
@[simp] theorem fillC_cons {size v l} : fillC cs ((off, size, v) :: l) = if cellsOk v = true ∧ v.cells.length = size ∧ off + size ≤ cs.length then fillC (cs.take off ++ v.cells ++ cs.drop (off + size)) l else none := rfl
@[simp] theorem fillR_nil {sz rows} : fillR h sz rows [] = some rows := rfl
@[simp] theorem fillR_cons {sz rows v l} : fillR h sz rows ((i, v) :: l) = (match pur h true v with
    | some p => if p.cells.length = sz ∧ i < rows.length then fillR h sz (rows.set i p) l else none
    | none => none) := rfl
@[simp] theorem rowSet_agg {cs'} : rowSet (.agg cs) cs' = .agg cs' := rfl
@[simp] theorem rowSet_int {v l} : rowSet (.int k n) (v :: l) = v := rfl
@[simp] theorem rowSet_str {v l} : rowSet (.str s) (v :: l) = v := rfl
@[simp] theorem bnd_none {ρ} : bnd ρ none = some none := rfl
@[simp] theorem bnd_some {ρ x} : bnd ρ (some x) = (match ρ x with
    | .int _ n => if 0 ≤ n then some (some n.toNat) else none
    | _ => none) := rfl
@[simp] theorem lenV_str : lenV h true (.str s) = some s.size := rfl
@[simp] theorem lenV_nil : lenV h false .nil = some 0 := rfl
@[simp] theorem lenV_list : lenV h false (.list es) = some es.length := rfl
@[simp] theorem lenV_arr : lenV h false (.arr κ tot off len) = (match h κ with
    | some (.arr _ rows _) => if rows.length = tot ∧ off + len ≤ tot then some len else none
    | _ => none) := rfl
@[simp] theorem sliceV_str {lo hi : Option Nat} {sz : Nat} : sliceV h true sz (.str s) lo hi =
    if lo.getD 0 ≤ hi.getD s.size ∧ hi.getD s.size ≤ s.size then some (.str (s.extract (lo.getD 0) (hi.getD s.size))) else none := rfl
@[simp] theorem sliceV_list {lo hi : Option Nat} {sz : Nat} : sliceV h false sz (.list es) lo hi =
    if lo.getD 0 ≤ hi.getD es.length ∧ hi.getD es.length ≤ es.length ∧ szs sz es = true then some (.list ((es.take (hi.getD es.length)).drop (lo.getD 0))) else none := rfl
@[simp] theorem sliceV_nil {lo hi : Option Nat} {sz : Nat} : sliceV h false sz .nil lo hi = if lo.getD 0 = 0 ∧ hi.getD 0 = 0 then some .nil else none := rfl
@[simp] theorem sliceV_arr {lo hi : Option Nat} {sz : Nat} : sliceV h false sz (.arr κ tot off len) lo hi = (match h κ with
    | some (.arr sz' rows _) => if rows.length = tot ∧ off + len ≤ tot ∧ lo.getD 0 ≤ hi.getD len ∧ hi.getD len ≤ len ∧ sz' = sz then some (.arr κ tot (off + lo.getD 0) (hi.getD len - lo.getD 0)) else none
    | _ => none) := rfl
@[simp] theorem boxKey_ptr : boxKey (.ptr κ off) = [κ] := rfl
@[simp] theorem boxKey_int : boxKey (.int k n) = [] := rfl
@[simp] theorem boxKey_bool : boxKey (.bool b) = [] := rfl
@[simp] theorem boxKey_str : boxKey (.str s) = [] := rfl
@[simp] theorem boxKey_nil : boxKey .nil = [] := rfl
@[simp] theorem boxKey_list : boxKey (.list es) = [] := rfl
@[simp] theorem boxKey_agg : boxKey (.agg es) = [] := rfl
@[simp] theorem boxKey_arr : boxKey (.arr κ tot off len) = [] := rfl
@[simp] theorem boxKey_rptr : boxKey (.rptr cs) = [] := rfl
@[simp] theorem boxKey_clo : boxKey (.clo f cs es) = [] := rfl
@[simp] theorem boxKey_fn : boxKey (.fn f) = [] := rfl
@[simp] theorem boxKey_nilfn : boxKey (.nilfn) = [] := rfl
@[simp] theorem boxKey_yfn {yl : Nat} : boxKey (.yfn yl) = [] := rfl
@[simp] theorem lend_ptr : lend h (.ptr κ off) = (if off = 0 then
      match h κ with
      | some (.box cs) => match purCs h false cs with
        | some ps => some (.boxed ps)
        | none => none
      | _ => none
    else none) := rfl
@[simp] theorem lend_int : lend h (.int k n) = some (.int k n) := rfl
@[simp] theorem lend_bool : lend h (.bool b) = some (.bool b) := rfl
@[simp] theorem lend_str : lend h (.str s) = some (.str s) := rfl
@[simp] theorem lend_nil : lend h .nil = some (.list []) := rfl
@[simp] theorem lend_list : lend h (.list es) = some (.list es) := rfl
@[simp] theorem lend_agg : lend h (.agg cs) = pur h true (.agg cs) := rfl
@[simp] theorem lend_arr : lend h (.arr κ tot off len) = pur h true (.arr κ tot off len) := rfl
@[simp] theorem lend_rptr : lend h (.rptr cs) = some (.rptr cs) := rfl
@[simp] theorem lend_clo : lend h (.clo f cs es) = some (.clo f cs es) := rfl
@[simp] theorem lend_fn : lend h (.fn f) = some (.fn f) := rfl
@[simp] theorem lend_nilfn : lend h (.nilfn) = some (.nilfn) := rfl
@[simp] theorem lend_yfn {yl : Nat} : lend h (.yfn yl) = some (.yfn yl) := rfl
@[simp] theorem lends_nil : lends h [] = some [] := rfl
@[simp] theorem lends_cons {v l} : lends h (v :: l) = consK (lend h v) (lends h l) := rfl
@[simp] theorem lentKeys_ptr : lentKeys h (.ptr κ off) = (match h κ with
    | some (.box cs) => cs.flatMap refC
    | _ => []) := rfl
@[simp] theorem lentKeys_int : lentKeys h (.int k n) = [] := rfl
@[simp] theorem lentKeys_bool : lentKeys h (.bool b) = [] := rfl
@[simp] theorem lentKeys_str : lentKeys h (.str s) = [] := rfl
@[simp] theorem lentKeys_nil : lentKeys h .nil = [] := rfl
@[simp] theorem lentKeys_list : lentKeys h (.list es) = [] := rfl
@[simp] theorem lentKeys_agg : lentKeys h (.agg es) = es.flatMap refC := rfl
@[simp] theorem lentKeys_arr : lentKeys h (.arr κ tot off len) = [κ] := rfl
@[simp] theorem lentKeys_rptr : lentKeys h (.rptr cs) = [] := rfl
@[simp] theorem lentKeys_clo : lentKeys h (.clo f cs es) = [] := rfl
@[simp] theorem lentKeys_fn : lentKeys h (.fn f) = [] := rfl
@[simp] theorem lentKeys_nilfn : lentKeys h (.nilfn) = [] := rfl
@[simp] theorem lentKeys_yfn {yl : Nat} : lentKeys h (.yfn yl) = [] := rfl
@[simp] theorem outUps_nil : outUps [] [] = some [] := rfl
@[simp] theorem outUps_cons {l cs m} : outUps (κ :: l) (cs :: m) = (match outUps l m with
    | some u => some ((κ, .box cs) :: u)
    | none => none) := rfl
@[simp] theorem wantd_none {T} : wantd T none = some true := rfl
@[simp] theorem wantd_some {T : Tm} {t : Nat} {b : Bool} : wantd T (some (t, b)) = (match T t with
    | .bool c => some (c == b)
    | .never => some false
    | _ => none) := rfl
@[simp] theorem maskT_nil {T} : maskT T [] = fun _ => .undef := rfl
@[simp] theorem maskT_cons {T t l} : maskT T (t :: l) = upd (maskT T l) t (T t) := rfl
@[simp] theorem maskH_nil {H} : maskH H [] = fun _ => none := rfl
@[simp] theorem maskH_cons {H κ l} : maskH H (κ :: l) = upd (maskH H l) κ (H κ) := rfl
@[simp] theorem mask_eq {lt lk T H} : mask lt lk ⟨T, H⟩ = if closedB lt lk ⟨T, H⟩ then some ⟨maskT T lt, maskH H lk⟩ else none := rfl
@[simp] theorem closedB_eq {lt lk T H} : closedB lt lk ⟨T, H⟩ = (lt.all (fun t => (refs (T t)).all lk.contains) &&
  lk.all (fun κ => match H κ with
    | some (.box cs) => cs.all fun c => (refC c).all lk.contains
    | _ => true)) := rfl
@[simp] theorem adopt_eq {kb κ sz T H} : adopt kb off κ sz ⟨T, H⟩ = (match H kb, H κ with
  | some (.box cs), none => match cs[off]? with
    | some .nil => some ⟨T, upd (upd H kb (some (.box (cs.set off (.arr κ 0 0 0))))) κ (some (.arr sz [] false))⟩
    | _ => none
  | _, _ => none) := rfl
@[simp] theorem enterT_nil : enterT i [] = fun _ => .never := rfl
@[simp] theorem enterT_boxed {l} : enterT i (.boxed cs :: l) = upd (enterT (i + 1) l) i (.ptr i 0) := rfl
@[simp] theorem enterT_int {l} : enterT i (.int k n :: l) = upd (enterT (i + 1) l) i (.int k n) := rfl
@[simp] theorem enterT_bool {l} : enterT i (.bool b :: l) = upd (enterT (i + 1) l) i (.bool b) := rfl
@[simp] theorem enterT_str {l} : enterT i (.str s :: l) = upd (enterT (i + 1) l) i (.str s) := rfl
@[simp] theorem enterT_list {l} : enterT i (.list es :: l) = upd (enterT (i + 1) l) i (.list es) := rfl
@[simp] theorem enterT_agg {l} : enterT i (.agg es :: l) = upd (enterT (i + 1) l) i (.agg es) := rfl
@[simp] theorem enterT_rptr {l} : enterT i (.rptr cs :: l) = upd (enterT (i + 1) l) i (.rptr cs) := rfl
@[simp] theorem enterT_clo {l} : enterT i (.clo f cs es :: l) = upd (enterT (i + 1) l) i (.clo f cs es) := rfl
@[simp] theorem enterT_fn {l} : enterT i (.fn f :: l) = upd (enterT (i + 1) l) i (.fn f) := rfl
@[simp] theorem enterT_nilfn {l} : enterT i (.nilfn :: l) = upd (enterT (i + 1) l) i (.nilfn) := rfl
@[simp] theorem enterT_yfn {l} {yl : Nat} : enterT i (.yfn yl :: l) = upd (enterT (i + 1) l) i (.yfn yl) := rfl
@[simp] theorem enterH_nil : enterH i [] = fun _ => none := rfl
@[simp] theorem enterH_boxed {l} : enterH i (.boxed cs :: l) = upd (enterH (i + 1) l) i (some (.box cs)) := rfl
@[simp] theorem enterH_int {l} : enterH i (.int k n :: l) = enterH (i + 1) l := rfl
@[simp] theorem enterH_bool {l} : enterH i (.bool b :: l) = enterH (i + 1) l := rfl
@[simp] theorem enterH_str {l} : enterH i (.str s :: l) = enterH (i + 1) l := rfl
@[simp] theorem enterH_list {l} : enterH i (.list es :: l) = enterH (i + 1) l := rfl
@[simp] theorem enterH_agg {l} : enterH i (.agg es :: l) = enterH (i + 1) l := rfl
@[simp] theorem enterH_rptr {l} : enterH i (.rptr cs :: l) = enterH (i + 1) l := rfl
@[simp] theorem enterH_clo {l} : enterH i (.clo f cs es :: l) = enterH (i + 1) l := rfl
@[simp] theorem enterH_fn {l} : enterH i (.fn f :: l) = enterH (i + 1) l := rfl
@[simp] theorem enterH_nilfn {l} : enterH i (.nilfn :: l) = enterH (i + 1) l := rfl
@[simp] theorem enterH_yfn {l} {yl : Nat} : enterH i (.yfn yl :: l) = enterH (i + 1) l := rfl
@[simp] theorem outs_nil : outs h i [] = some [] := rfl
@[simp] theorem outs_boxed {l} : outs h i (.boxed cs :: l) = (match h i with
    | some (.box cs) => match purCs h false cs with
      | some ps => match outs h (i + 1) l with
        | some os => some (ps :: os)
        | none => none
      | none => none
    | _ => none) := rfl
@[simp] theorem outs_int {l} : outs h i (.int k n :: l) = outs h (i + 1) l := rfl
@[simp] theorem outs_bool {l} : outs h i (.bool b :: l) = outs h (i + 1) l := rfl
@[simp] theorem outs_str {l} : outs h i (.str s :: l) = outs h (i + 1) l := rfl
@[simp] theorem outs_list {l} : outs h i (.list es :: l) = outs h (i + 1) l := rfl
@[simp] theorem outs_agg {l} : outs h i (.agg es :: l) = outs h (i + 1) l := rfl
@[simp] theorem outs_rptr {l} : outs h i (.rptr cs :: l) = outs h (i + 1) l := rfl
@[simp] theorem outs_clo {l} : outs h i (.clo f cs es :: l) = outs h (i + 1) l := rfl
@[simp] theorem outs_fn {l} : outs h i (.fn f :: l) = outs h (i + 1) l := rfl
@[simp] theorem outs_nilfn {l} : outs h i (.nilfn :: l) = outs h (i + 1) l := rfl
@[simp] theorem outs_yfn {l} {yl : Nat} : outs h i (.yfn yl :: l) = outs h (i + 1) l := rfl
@[simp] theorem resVal_tmp {T H} {t : Nat} : resVal ⟨T, H⟩ (.tmp t) = some (T t) := rfl
@[simp] theorem resVal_cell {T H} {t n : Nat} {ag : Bool} : resVal ⟨T, H⟩ (.cell t n ag) = (match T t with
    | .ptr κ off => match H κ with
      | some (.box cs) => ld n ag (cs.drop off)
      | _ => none
    | _ => none) := rfl
@[simp] theorem resVals_nil {σ} : resVals σ [] = some [] := rfl
@[simp] theorem resVals_cons {σ r l} : resVals σ (r :: l) = consK (resVal σ r) (resVals σ l) := rfl
@[simp] theorem purs_nil : purs h [] = some [] := rfl
@[simp] theorem purs_cons {v l} : purs h (v :: l) = consK (pur h true v) (purs h l) := rfl
@[simp] theorem give_nil {np} : give np h [] = some (.tuple []) := rfl
@[simp] theorem give_ptr {np} : give np h [.ptr κ off] = (if np ≤ κ ∧ off = 0 then
      match h κ with
      | some (.box cs) => match purCs h false cs with
        | some ps => some (.boxed ps)
        | none => none
      | _ => none
    else none) := rfl
@[simp] theorem give_int {np} : give np h [.int k n] = some (.int k n) := rfl
@[simp] theorem give_bool {np} : give np h [.bool b] = some (.bool b) := rfl
@[simp] theorem give_str {np} : give np h [.str s] = some (.str s) := rfl
@[simp] theorem give_list {np} : give np h [.list es] = some (.list es) := rfl
@[simp] theorem give_nil1 {np} : give np h [.nil] = some (.list []) := rfl
@[simp] theorem give_agg {np} : give np h [.agg cs] = pur h true (.agg cs) := rfl
@[simp] theorem give_arr {np} : give np h [.arr κ tot off len] = pur h true (.arr κ tot off len) := rfl
def tupK (r : Option (List PV)) : Option PV :=
  match r with
  | some ps => some (.tuple ps)
  | none => none
@[simp] theorem tupK_some {ps} : tupK (some ps) = some (.tuple ps) := rfl
@[simp] theorem give_two {np a b l} : give np h (a :: b :: l) = tupK (purs h (a :: b :: l)) := by
  unfold give; split <;> first | rfl | simp_all
def fin (np : Nat) (res : List IRes) (args : List PV) (x : Option (IX × St)) : Option (PV × List (List PV)) :=
  finish ⟨np, 0, res, .skip, none⟩ args x
def outsK (v : PV) (r : Option (List (List PV))) : Option (PV × List (List PV)) :=
  match r with
  | some os => some (v, os)
  | none => none
@[simp] theorem outsK_some {v os} : outsK v (some os) = some (v, os) := rfl
def giveK (h : Hp) (args : List PV) (g : Option PV) : Option (PV × List (List PV)) :=
  match g with
  | some v => outsK v (outs h 0 args)
  | none => none
@[simp] theorem giveK_some {h args v} : giveK h args (some v) = outsK v (outs h 0 args) := rfl
def resK (np : Nat) (h : Hp) (args : List PV) (g : Option (List PV)) : Option (PV × List (List PV)) :=
  match g with
  | some vs => giveK h args (give np h vs)
  | none => none
@[simp] theorem resK_some {np h args vs} : resK np h args (some vs) = giveK h args (give np h vs) := rfl
@[simp] theorem fin_ret {np res args T H} : fin np res args (some (.ret, ⟨T, H⟩)) = resK np H args (resVals ⟨T, H⟩ res) := rfl
@[simp] theorem fin_normal {np res args T H} : fin np res args (some (.normal, ⟨T, H⟩)) = resK np H args (resVals ⟨T, H⟩ res) := rfl
theorem callV_fn {prog : Nat → Option IFunc} {f np nt : Nat} {res : List IRes} {body : IC} (hF : prog f = some ⟨np, nt, res, body, none⟩) {args : List PV} (hl : args.length = np) {r}
    (h : fin np res args (evV prog body ⟨enterT 0 args, enterH 0 args⟩) = some r) : callV prog f args = some r :=
  callV_of hF rfl hl h
@[simp] theorem binV_str {op} : binV op (.str s) (.str s') = strBin op s s' := rfl
@[simp] theorem str_eql : strBin .eql s s' = some (.bool (s.toList == s'.toList)) := rfl
@[simp] theorem str_neq : strBin .neq s s' = some (.bool !(s.toList == s'.toList)) := rfl
@[simp] theorem str_lss : strBin .lss s s' = some (.bool (Op.bytesLess s.toList s'.toList)) := rfl
@[simp] theorem str_gtr : strBin .gtr s s' = some (.bool !(Op.bytesLess s.toList s'.toList || s.toList == s'.toList)) := rfl
@[simp] theorem str_geq : strBin .geq s s' = some (.bool !(Op.bytesLess s.toList s'.toList)) := rfl
@[simp] theorem str_leq : strBin .leq s s' = some (.bool (Op.bytesLess s.toList s'.toList || s.toList == s'.toList)) := rfl
@[simp] theorem bin_add : binV .add (.int k n) (.int k n') = some (.int k (k.wrap (n + n'))) := by simp [binV, intBin]
@[simp] theorem bin_sub : binV .sub (.int k n) (.int k n') = some (.int k (k.wrap (n - n'))) := by simp [binV, intBin]
@[simp] theorem bin_mul : binV .mul (.int k n) (.int k n') = some (.int k (k.wrap (n * n'))) := by simp [binV, intBin]
@[simp] theorem bin_quo : binV .quo (.int k n) (.int k n') = if n' = 0 then none else some (.int k (k.wrap (n.tdiv n'))) := by simp [binV, intBin]
@[simp] theorem bin_rem : binV .rem (.int k n) (.int k n') = if n' = 0 then none else some (.int k (n.tmod n')) := by simp [binV, intBin]
@[simp] theorem bin_eql : binV .eql (.int k n) (.int k n') = some (.bool (decide (n = n'))) := by
  by_cases e : n = n' <;> simp [binV, intBin, e]
@[simp] theorem bin_neq : binV .neq (.int k n) (.int k n') = some (.bool (decide (n ≠ n'))) := by
  by_cases e : n = n' <;> simp [binV, intBin, e]
@[simp] theorem bin_lss : binV .lss (.int k n) (.int k n') = some (.bool (decide (n < n'))) := by simp [binV, intBin]
@[simp] theorem bin_leq : binV .leq (.int k n) (.int k n') = some (.bool (decide (n ≤ n'))) := by simp [binV, intBin]
@[simp] theorem bin_gtr : binV .gtr (.int k n) (.int k n') = some (.bool (decide (n > n'))) := by simp [binV, intBin]
@[simp] theorem bin_geq : binV .geq (.int k n) (.int k n') = some (.bool (decide (n ≥ n'))) := by simp [binV, intBin]
@[simp] theorem un_not : unV .not (.bool b) = some (.bool !b) := rfl
@[simp] theorem condK_true {a b} : condK (.bool true) a b = a := rfl
@[simp] theorem condK_false {a b} : condK (.bool false) a b = b := rfl
end

/-! ### Loops -/

theorem maskT_ap {T : Tm} : ∀ {l : List Nat} {t : Nat}, maskT T l t = if t ∈ l then T t else .undef
  | [], t => by simp
  | k :: l, t => by
    rw [maskT_cons, upd_at, maskT_ap (l := l) (t := t)]
    by_cases e : t = k
    · subst e; simp
    · simp [e]

theorem maskH_ap {H : Hp} : ∀ {l : List Nat} {t : Nat}, maskH H l t = if t ∈ l then H t else none
  | [], t => by simp
  | k :: l, t => by
    rw [maskH_cons, upd_at, maskH_ap (l := l) (t := t)]
    by_cases e : t = k
    · subst e; simp
    · simp [e]

theorem mask_idem {lt lk : List Nat} {σ σ' : St} (h : mask lt lk σ = some σ') : mask lt lk σ' = some σ' := by
  obtain ⟨T, H⟩ := σ
  rw [mask_eq] at h
  split at h
  · rename_i hc
    injection h with h; subst h
    have e1 : maskT (maskT T lt) lt = maskT T lt := by
      funext t; rw [maskT_ap]; split
      · rfl
      · rename_i hn; rw [maskT_ap, if_neg hn]
    have e2 : maskH (maskH H lk) lk = maskH H lk := by
      funext t; rw [maskH_ap]; split
      · rfl
      · rename_i hn; rw [maskH_ap, if_neg hn]
    rw [mask_eq, e1, e2, if_pos]
    rw [closedB_eq] at hc ⊢
    simp only [Bool.and_eq_true, List.all_eq_true] at hc ⊢
    refine ⟨fun t ht => ?_, fun κ hκ => ?_⟩
    · rw [maskT_ap, if_pos ht]; exact hc.1 t ht
    · rw [maskH_ap, if_pos hκ]; exact hc.2 κ hκ
  · cases h

theorem evV_loop {prog : Nat → Option IFunc} {lt lk : List Nat} {c : IC} {σ : St} : evV prog (.loop lt lk c) σ = maskK (mask lt lk σ) (loopR lt lk (evV prog c) (evV prog (.loop lt lk c))) := by
  show loopV lt lk (evV prog c) σ = _
  rw [loopV_eq]
  cases h0 : mask lt lk σ with
  | none => rfl
  | some σ₀ =>
    show _ = thenK (evV prog c σ₀) (loopM lt lk (evV prog (.loop lt lk c)))
    simp only []
    cases h1 : evV prog c σ₀ with
    | none => rfl
    | some r =>
      obtain ⟨x, σ1⟩ := r
      cases x with
      | normal =>
        show loopV lt lk (evV prog c) σ1 = maskK (mask lt lk σ1) (loopV lt lk (evV prog c))
        cases h2 : mask lt lk σ1 with
        | none => rw [loopV_eq, h2]; rfl
        | some σ2 =>
          show _ = loopV lt lk (evV prog c) σ2
          rw [loopV_eq (σ := σ1), loopV_eq (σ := σ2), h2, mask_idem h2]
      | exit i => rfl
      | ret => rfl

@[simp] theorem take_map_len {α β : Type} {f : α → β} {l : List α} : (l.map f).take l.length = l.map f := List.take_of_length_le (by simp)

end Go.Ab
