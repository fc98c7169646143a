/-
  The program's struct types: load, store, zero value, build and equality, each as one law.
-/
import Derived.Test.YtgnebofjfmbccaaW
set_option linter.all false
namespace Go.Proofs.Ytgnebofjfmbccaa
open Go.RowKit

/-! ### load and store -/
def loadStuck (T : TypeId) (b o : Nat) : Sem Value := loadAgg T b o
def loadRes (T : TypeId) (b o : Nat) (r : Option (List Value)) (P : Program) (w : World) : Result Value :=
  match r with
  | some cs => .ok (.agg cs.toArray) w
  | none => (loadStuck T b o).run P w
@[go_sem] theorem loadRes_some (T : TypeId) (b o : Nat) (cs : List Value) (P : Program) (w : World) : loadRes T b o (some cs) P w = .ok (.agg cs.toArray) w := rfl
theorem run_loadAgg' (P : Program) (w : World) (T : TypeId) (b o n : Nat) (hn : aggSize P T = some n) :
    (loadAgg T b o).run P w = loadRes T b o (rowOf (w.at_ b) o n) P w := run_loadAgg P w T b o n hn
def storeStuck (T : TypeId) (b o : Nat) (cs : Array Value) : Sem Unit := storeAgg T b o cs

def loadAny (T : TypeId) (p : Value) : Sem Value := Instr.loadAt T p
@[go_sem] theorem loadAny_ptr (T : TypeId) (b o : Nat) : loadAny T (.pointer (some ⟨b, o, none⟩)) = loadAgg T b o := rfl
def storeAny (T : TypeId) (p v : Value) : Sem Unit := Instr.storeAt T p v
@[go_sem] theorem storeAny_ptr (T : TypeId) (b o : Nat) (cs : Array Value) : storeAny T (.pointer (some ⟨b, o, none⟩)) (.agg cs) = storeAgg T b o cs := rfl
def buildAny (T : TypeId) (ps : Array (Nat × Value)) : Sem Value := Instr.build T ps

/-! ### build -/
def buildL (places : List (Nat × Nat)) (z : List Value) : List (Nat × Value) → Option (List Value)
  | [] => some z
  | (i, v) :: r =>
    match places[i]? with
    | none => none
    | some (off, size) => if v.cells.size ≠ size || off + v.cells.size > z.length then none else buildL places (splice z off v.cells.toList) r
theorem splice_one (z : List Value) (k : Nat) (v : Value) (h : k < z.length) : splice z k [v] = z.set k v := by
  apply List.ext_getElem?
  intro i
  simp only [splice, List.getElem?_append, List.length_take, List.getElem?_take, List.getElem?_drop, List.getElem?_set, List.length_cons, List.length_nil, List.getElem?_cons]
  (repeat' split) <;> first | rfl | omega | (congr 1; omega) | simp_all | (exfalso; omega)
theorem foldl_set_splice (m : List Value) : ∀ (z : Array Value) (off j : Nat), off + j + m.length ≤ z.size →
    ((m.zipIdx j).foldl (fun cs (p : Value × Nat) => cs.setIfInBounds (off + p.2) p.1) z) = (splice z.toList (off + j) m).toArray := by
  induction m with
  | nil => intro z off j h; simp [splice]
  | cons v m ih =>
    intro z off j h
    simp only [List.length_cons] at h
    rw [List.zipIdx_cons, List.foldl_cons, show off + (v, j).2 = off + j from rfl, ih _ off (j + 1) (by simp; omega)]
    congr 1
    apply List.ext_getElem?
    intro i
    simp only [splice, List.getElem?_append, List.length_take, Array.length_toList, List.getElem?_take, List.getElem?_drop, Array.getElem?_toList, Array.getElem?_setIfInBounds, Array.size_setIfInBounds, List.length_cons, List.getElem?_cons]
    (repeat' split) <;> first | rfl | omega | (congr 1; omega)
theorem fill_eq (places : List (Nat × Nat)) : ∀ (ps : List (Nat × Value)) (z : List Value),
    Instr.fill (places.toArray[·]?) z.toArray ps = (buildL places z ps).map (·.toArray) := by
  intro ps
  induction ps with
  | nil => intro z; rfl
  | cons p r ih =>
    intro z
    obtain ⟨i, v⟩ := p
    have e : places.toArray[i]? = places[i]? := by simp
    simp only [Instr.fill, buildL]
    rw [e]
    cases places[i]? with
    | none => rfl
    | some q =>
      obtain ⟨off, size⟩ := q
      simp only [List.size_toArray]
      split
      · rfl
      · rename_i hh
        simp only [ne_eq, Bool.or_eq_true, decide_eq_true_eq, not_or, Decidable.not_not, Nat.not_lt] at hh
        have hk := foldl_set_splice v.cells.toList z.toArray off 0 (by simp; omega)
        simp only [Nat.add_zero] at hk
        have hk2 : v.cells.zipIdx.foldl (fun cs (p : Value × Nat) => cs.setIfInBounds (off + p.2) p.1) z.toArray = (splice z off v.cells.toList).toArray := by
          rw [← hk, ← Array.foldl_toList]; simp
        rw [← ih]
        exact congrArg (fun c => Instr.fill (places.toArray[·]?) c r) hk2
@[go_sem] theorem buildL_nil (pl : List (Nat × Nat)) (z : List Value) : buildL pl z [] = some z := rfl
def buildStep (q : Option (Nat × Nat)) (pl : List (Nat × Nat)) (z : List Value) (v : Value) (r : List (Nat × Value)) : Option (List Value) :=
  match q with
  | none => none
  | some (off, size) => if v.cells.size ≠ size || off + v.cells.size > z.length then none else buildL pl (splice z off v.cells.toList) r
@[go_sem] theorem buildL_cons (pl : List (Nat × Nat)) (z : List Value) (i : Nat) (v : Value) (r : List (Nat × Value)) : buildL pl z ((i, v) :: r) = buildStep pl[i]? pl z v r := by
  unfold buildStep; rw [buildL]
theorem buildStep_one (off : Nat) (pl : List (Nat × Nat)) (z : List Value) (v : Value) (r : List (Nat × Value)) (hv : v.oneCell' = true) : buildStep (some (off, 1)) pl z v r = if off < ln z then buildL pl (z.set off v) r else none := by
  have hc : v.cells = #[v] := by cases v <;> first | rfl | cases hv
  unfold buildStep
  simp only [hc]
  by_cases h : off < ln z
  · rw [if_pos h, ← splice_one z off v h]
    rw [ln_eq] at h
    exact if_neg (by simp; omega)
  · rw [if_neg h]
    rw [ln_eq] at h
    exact if_pos (by simp; omega)
@[go_sem] theorem buildStep_int (off : Nat) (pl : List (Nat × Nat)) (z : List Value) (k : IntKind) (n : Int) (r : List (Nat × Value)) : buildStep (some (off, 1)) pl z (.int k n) r = if off < ln z then buildL pl (z.set off (.int k n)) r else none := buildStep_one _ _ _ _ _ rfl
@[go_sem] theorem buildStep_string (off : Nat) (pl : List (Nat × Nat)) (z : List Value) (t : ByteArray) (r : List (Nat × Value)) : buildStep (some (off, 1)) pl z (.string t) r = if off < ln z then buildL pl (z.set off (.string t)) r else none := buildStep_one _ _ _ _ _ rfl
@[go_sem] theorem buildStep_slice (off : Nat) (pl : List (Nat × Nat)) (z : List Value) (a : Option Addr) (n c : Nat) (r : List (Nat × Value)) : buildStep (some (off, 1)) pl z (.slice a n c) r = if off < ln z then buildL pl (z.set off (.slice a n c)) r else none := buildStep_one _ _ _ _ _ rfl
@[go_sem] theorem buildStep_bool (off : Nat) (pl : List (Nat × Nat)) (z : List Value) (b : Bool) (r : List (Nat × Value)) : buildStep (some (off, 1)) pl z (.bool b) r = if off < ln z then buildL pl (z.set off (.bool b)) r else none := buildStep_one _ _ _ _ _ rfl
@[go_sem] theorem buildStep_agg (off n : Nat) (pl : List (Nat × Nat)) (z m : List Value) (r : List (Nat × Value)) : buildStep (some (off, n)) pl z (.agg m.toArray) r = if ln m = n ∧ off + n ≤ ln z then buildL pl (splice z off m) r else none := by
  unfold buildStep
  by_cases h : ln m = n ∧ off + n ≤ ln z
  · rw [if_pos h]
    rw [ln_eq, ln_eq] at h
    exact if_neg (by simp [Value.cells]; omega)
  · rw [if_neg h]
    rw [ln_eq, ln_eq] at h
    exact if_pos (by simp [Value.cells]; omega)
def buildRes (T : TypeId) (ps : Array (Nat × Value)) (r : Option (List Value)) (P : Program) (w : World) : Result Value :=
  match r with
  | some cs => .ok (.agg cs.toArray) w
  | none => (Instr.build T ps).run P w
@[go_sem] theorem buildRes_some (T : TypeId) (ps : Array (Nat × Value)) (cs : List Value) (P : Program) (w : World) : buildRes T ps (some cs) P w = .ok (.agg cs.toArray) w := rfl
def placesOf (P : Program) (T : TypeId) : List (Option (Nat × Nat)) := (P.fieldsOf T).toList.map fun f => (P.info? f.type).map fun i => (f.offset, i.size)
theorem run_build_struct (P : Program) (T : TypeId) (fs : Array Go.Field) (places : List (Nat × Nat)) (z : List Value) (ps : Array (Nat × Value)) (w : World)
    (hu : P.underlying T = some (.struct fs)) (hz : ∀ w, (zeroValue T).run P w = .ok (.agg z.toArray) w)
    (hp : (fs.toList.map fun f => (P.info? f.type).map fun i => (f.offset, i.size)) = places.map some) :
    (Instr.build T ps).run P w = buildRes T ps (buildL places z ps.toList) P w := by
  unfold buildRes
  cases hb : buildL places z ps.toList with
  | none => rfl
  | some cs =>
    have hpl : ∀ w, (fs.mapM fun f => (do pure (f.offset, ← sizeOf f.type) : Sem (Nat × Nat))).run P w = .ok places.toArray w := by
      intro w
      rw [Array.mapM_eq_mapM_toList]
      simp only [Sem.run_map]
      have : ∀ (l : List Go.Field) (pl : List (Nat × Nat)), (l.map fun f => (P.info? f.type).map fun i => (f.offset, i.size)) = pl.map some → ∀ w, (l.mapM fun f => (do pure (f.offset, ← sizeOf f.type) : Sem (Nat × Nat))).run P w = .ok pl w := by
        intro l
        induction l with
        | nil => intro pl h w; cases pl with
          | nil => simp
          | cons _ _ => simp at h
        | cons f l ih =>
          intro pl h w
          cases pl with
          | nil => simp at h
          | cons p pl =>
            simp only [List.map_cons, List.cons.injEq] at h
            obtain ⟨h1, h2⟩ := h
            cases hi : P.info? f.type with
            | none => simp [hi] at h1
            | some i =>
              simp only [hi, Option.map_some, Option.some.injEq] at h1
              have hsz : ∀ w, (sizeOf f.type).run P w = .ok i.size w := fun w => by simp [sizeOf, typeInfo, hi]
              simp only [List.mapM_cons, Sem.run_bind, hsz, Result.andThen_ok, Sem.run_pure, ih pl h2 w, h1]
      rw [this _ _ hp]
      rfl
    have hf := fill_eq places ps.toList z
    rw [hb] at hf
    simp only [Option.map_some] at hf
    simp only [Instr.build, Sem.run_bind, hz, Result.andThen_ok, run_underlying hu, Value.cells, hpl, hf, Sem.run_pure]

/-! ### equality -/
theorem run_equalIn_arr (P : Program) (d : Nat) (t e : TypeId) (k : IntKind) (n : Nat) (hu : P.underlying t = some (.array n e)) (he : P.underlying e = some (.int k)) (hs : ∀ w, (sizeOf e).run P w = .ok 1 w) (ha : ∀ w, (isAgg e).run P w = .ok false w)
    (xs ys : List Int) (hx : xs.length = n) (hy : ys.length = n) (w : World) :
    (Op.equalIn (d + 2) t (.agg (xs.map (Value.int k)).toArray) (.agg (ys.map (Value.int k)).toArray)).run P w = .ok (decide (xs = ys)) w := by
  rw [show d + 2 = (d + 1) + 1 from rfl, Op.equalIn]
  simp only [Sem.run_bind, run_underlying hu, Result.andThen_ok, hs]
  have key : ∀ (m s : Nat), s + m = n →
      (forIn (List.range' s m) ((none, ()) : Option Bool × Unit) fun i (r : Option Bool × Unit) => (do
        let b ← Op.equalIn (d + 1) e (← part e (xs.map (Value.int k)).toArray (i * 1)) (← part e (ys.map (Value.int k)).toArray (i * 1))
        if (!b) = true then pure (ForInStep.done (some false, ())) else pure (ForInStep.yield (none, ())) : Sem (ForInStep (Option Bool × Unit)))).run P w
      = .ok (if xs.drop s = ys.drop s then (none, ()) else (some false, ())) w := by
    intro m
    induction m with
    | zero => intro s h; simp [List.drop_of_length_le, show xs.length ≤ s by omega, show ys.length ≤ s by omega]
    | succ m ih =>
      intro s h
      have h1 : s < xs.length := by omega
      have h2 : s < ys.length := by omega
      have p1 : ∀ w, (part e (xs.map (Value.int k)).toArray (s * 1)).run P w = .ok (Value.int k xs[s]) w := fun w => by
        simp [part, ha, h1]
      have p2 : ∀ w, (part e (ys.map (Value.int k)).toArray (s * 1)).run P w = .ok (Value.int k ys[s]) w := fun w => by
        simp [part, ha, h2]
      have p3 : ∀ w, (Op.equalIn (d + 1) e (Value.int k xs[s]) (Value.int k ys[s])).run P w = .ok (xs[s] == ys[s]) w := fun w => run_equalIn_int w d e k k _ _ he
      rw [List.range'_succ, List.forIn_cons]
      simp only [Sem.run_bind, p1, p2, p3, Result.andThen_ok]
      by_cases hq : xs[s] = ys[s]
      · have := ih (s + 1) (by omega)
        rw [List.drop_eq_getElem_cons h1, List.drop_eq_getElem_cons h2]
        simp only [hq, beq_self_eq_true, Bool.not_true, Bool.false_eq_true, if_false, Sem.run_pure, Result.andThen_ok, List.cons.injEq, true_and]
        exact this
      · have hne : ¬ xs.drop s = ys.drop s := fun h => by rw [List.drop_eq_getElem_cons h1, List.drop_eq_getElem_cons h2] at h; exact hq (List.cons.inj h).1
        have hb : (xs[s] == ys[s]) = false := by simpa using hq
        simp only [hb, Bool.not_false, if_true, Sem.run_pure, Result.andThen_ok, if_neg hne]
  have := key n 0 (by omega)
  simp only [List.drop_zero] at this
  simp only [Std.Legacy.Range.forIn_eq_forIn_range', Std.Legacy.Range.size, Nat.sub_zero, Nat.add_sub_cancel, Nat.div_one]
  rw [this]
  by_cases hq : xs = ys <;> simp [hq]
theorem run_equalIn_struct' {P : Program} {t : TypeId} {fs : Array Go.Field} (ht : P.underlying t = some (.struct fs)) (hp : P.stoodInHeld t = false) (d : Nat) (xs ys : Array Value) (w : World) :
    (Op.equalIn (d + 1) t (.agg xs) (.agg ys)).run P w = (Op.eqFields d xs ys fs.toList).run P w := by
  have e : P.fieldsOf t = fs := by simp [Program.fieldsOf, ht]
  rw [run_equalIn_struct w d t xs ys (by rw [e]; exact ht) hp, e]
/-- The fields of a struct, one by one. -/
def FieldEq (P : Program) (d : Nat) (xs ys : Array Value) (f : Go.Field) (b : Bool) : Prop :=
  f.name ≠ "_" ∧ ∀ w, ∃ a c, (part f.type xs f.offset).run P w = .ok a w ∧ (part f.type ys f.offset).run P w = .ok c w ∧ (Op.equalIn d f.type a c).run P w = .ok b w
def FieldsEq (P : Program) (d : Nat) (xs ys : Array Value) : List Go.Field → List Bool → Prop
  | [], bs => bs = []
  | f :: fs, bs => ∃ b r, bs = b :: r ∧ FieldEq P d xs ys f b ∧ FieldsEq P d xs ys fs r
theorem fieldsEq_cons {P : Program} {d : Nat} {xs ys : Array Value} {f : Go.Field} {fs : List Go.Field} {b : Bool} {r : List Bool} (h : FieldEq P d xs ys f b) (h' : FieldsEq P d xs ys fs r) : FieldsEq P d xs ys (f :: fs) (b :: r) := ⟨b, r, rfl, h, h'⟩
theorem fieldsEq_nil {P : Program} {d : Nat} {xs ys : Array Value} : FieldsEq P d xs ys [] [] := rfl
theorem eqFields_of (P : Program) (d : Nat) (xs ys : Array Value) : ∀ (fs : List Go.Field) (bs : List Bool), FieldsEq P d xs ys fs bs → ∀ w, (Op.eqFields d xs ys fs).run P w = .ok (bs.all id) w := by
  intro fs
  induction fs with
  | nil => intro bs h w; cases h; rfl
  | cons f fs ih =>
    intro bs h w
    obtain ⟨b, r, rfl, ⟨hn, h1⟩, h2⟩ := h
    have ih := ih r h2
    obtain ⟨a, c, ha, hc, hb⟩ := h1 w
    rw [Op.eqFields, if_pos hn]
    simp only [Sem.run_bind, ha, hc, hb, Result.andThen_ok]
    cases b
    · simp
    · simp [ih w]
theorem fieldEq_agg (P : Program) (d : Nat) (l m : List Value) (f : Go.Field) (T k n : Nat) (b : Bool) {x y : List Value} (hn : f.name ≠ "_") (ht : f.type = T) (hk : f.offset = k) (ha : ∀ w, (isAgg T).run P w = .ok true w) (hs : ∀ w, (sizeOf T).run P w = .ok n w)
    (hx : seg l k n = x) (hy : seg m k n = y) (h : ∀ w, (Op.equalIn d T (.agg x.toArray) (.agg y.toArray)).run P w = .ok b w) : FieldEq P d l.toArray m.toArray f b := by
  refine ⟨hn, fun w => ⟨.agg x.toArray, .agg y.toArray, ?_, ?_, ?_⟩⟩
  · subst hx; rw [ht, hk]; simp [part, ha, hs, List.extract_eq_take_drop, seg]
  · subst hy; rw [ht, hk]; simp [part, ha, hs, List.extract_eq_take_drop, seg]
  · rw [ht]; exact h w
theorem fieldEq_int (P : Program) (d : Nat) (l m : List Value) (f : Go.Field) (T k : Nat) (x y : Int) (hn : f.name ≠ "_") (ht : f.type = T) (hk : f.offset = k) (ha : ∀ w, (isAgg T).run P w = .ok false w) (hu : P.underlying T = some (.int .i64))
    (hx : l[k]? = some (.int .i64 x)) (hy : m[k]? = some (.int .i64 y)) : FieldEq P (d + 1) l.toArray m.toArray f (decide (x = y)) := by
  refine ⟨hn, fun w => ⟨.int .i64 x, .int .i64 y, ?_, ?_, ?_⟩⟩
  · rw [ht, hk]; simp [part, ha, hx]
  · rw [ht, hk]; simp [part, ha, hy]
  · rw [ht, run_equalIn_int w d T .i64 .i64 x y hu]; congr 1
theorem toList_inj' {a b : ByteArray} : (a.toList == b.toList) = decide (a = b) := by
  rw [Bool.eq_iff_iff, ByteArray.toList_eq, ByteArray.toList_eq]
  simp only [beq_iff_eq, decide_eq_true_eq]
  exact ⟨fun h => ByteArray.ext (Array.ext' h), fun h => by rw [h]⟩
theorem fieldEq_str (P : Program) (d : Nat) (l m : List Value) (f : Go.Field) (T k : Nat) (x y : ByteArray) (hn : f.name ≠ "_") (ht : f.type = T) (hk : f.offset = k) (ha : ∀ w, (isAgg T).run P w = .ok false w) (hu : P.underlying T = some .string)
    (hx : l[k]? = some (.string x)) (hy : m[k]? = some (.string y)) : FieldEq P (d + 1) l.toArray m.toArray f (decide (x = y)) := by
  refine ⟨hn, fun w => ⟨.string x, .string y, ?_, ?_, ?_⟩⟩
  · rw [ht, hk]; simp [part, ha, hx]
  · rw [ht, hk]; simp [part, ha, hy]
  · rw [ht, run_equalIn_string w d T x y hu, toList_inj']
theorem run_equalIn_dig {P : Program} (d : Nat) (t e : TypeId) (hu : P.underlying t = some (.array 32 e)) (he : P.underlying e = some (.int .u8)) (hs : ∀ w, (sizeOf e).run P w = .ok 1 w) (ha : ∀ w, (isAgg e).run P w = .ok false w) (a b : Dig) (w : World) :
    (Op.equalIn (d + 2) t (.agg (encDig a).toArray) (.agg (encDig b).toArray)).run P w = .ok (decide (a = b)) w := by
  have h := run_equalIn_arr P d t e .u8 32 hu he hs ha (a.l.map fun b => (b.toNat : Int)) (b.l.map fun b => (b.toNat : Int)) (by simp [a.len]) (by simp [b.len]) w
  simp only [List.map_map] at h
  have e1 : ∀ d : Dig, encDig d = d.l.map ((Value.int .u8) ∘ fun b => (b.toNat : Int)) := fun d => rfl
  rw [e1, e1, h]
  congr 1
  rw [decide_eq_decide]
  constructor
  · intro hh
    obtain ⟨a, ha⟩ := a; obtain ⟨b, hb⟩ := b
    have := (List.map_inj_right (f := fun b : UInt8 => (b.toNat : Int)) (fun x y hxy => UInt8.toNat_inj.1 (Int.natCast_inj.1 hxy))).1 hh
    subst this; rfl
  · intro hh; rw [hh]

def Dig.zero : Dig := ⟨List.replicate 32 0, by simp⟩
@[go_sem ↓] theorem loadAt_Dig (p : Value) : Instr.loadAt 25 p = loadAny 25 p := rfl
@[go_sem] theorem run_load_Dig (w : World) (b o : Nat) : (loadAgg 25 b o).run Try.prog w = loadRes 25 b o (rowOf (w.at_ b) o 32) Try.prog w := run_loadAgg' Try.prog w 25 b o 32 (by kernel_rfl)
@[go_sem ↓] theorem storeAt_Dig (p v : Value) : Instr.storeAt 25 p v = storeAny 25 p v := rfl
@[go_sem] theorem run_store_Dig (w : World) (b o : Nat) (x : Dig) : (storeAgg 25 b o (encDig x).toArray).run Try.prog w = if roomOf (w.at_ b) o 32 = true then .ok () (w.put_ b o (encDig x)) else (storeStuck 25 b o (encDig x).toArray).run Try.prog w := run_storeAgg Try.prog w 25 b o (encDig x) 32 (by kernel_rfl) (encDig_length x) (encDig_one x)
theorem zero_Dig (w : World) : (zeroValue 25).run Try.prog w = .ok (.agg (encDig Dig.zero).toArray) w := by kernel_rfl
attribute [go_sem ↓] zero_Dig
@[go_sem high] theorem run_eq_Dig (d : Nat) (a b : Dig) (w : World) : (Op.equalIn (d + 2) 25 (.agg (encDig a).toArray) (.agg (encDig b).toArray)).run Try.prog w = .ok (decide (a = b)) w := run_equalIn_dig _ _ 5 (by kernel_rfl) (by kernel_rfl) (fun _ => by kernel_rfl) (fun _ => by kernel_rfl) a b w
@[go_sem high] theorem run_eql_Dig (a b : Dig) (w : World) : (binOp .eql 25 (.agg (encDig a).toArray) (.agg (encDig b).toArray)).run Try.prog w = .ok (.bool (decide (a = b))) w := by rw [run_eql_struct, run_eq_Dig 9998]; rfl
@[go_sem high] theorem run_neq_Dig (a b : Dig) (w : World) : (binOp .neq 25 (.agg (encDig a).toArray) (.agg (encDig b).toArray)).run Try.prog w = .ok (.bool (!decide (a = b))) w := by rw [run_neq_struct, run_eq_Dig 9998]; rfl
def Head.zero : Head := ⟨0, 0, 0, Dig.zero, 0⟩
@[go_sem ↓] theorem loadAt_Head (p : Value) : Instr.loadAt 27 p = loadAny 27 p := rfl
@[go_sem] theorem run_load_Head (w : World) (b o : Nat) : (loadAgg 27 b o).run Try.prog w = loadRes 27 b o (rowOf (w.at_ b) o 36) Try.prog w := run_loadAgg' Try.prog w 27 b o 36 (by kernel_rfl)
@[go_sem ↓] theorem storeAt_Head (p v : Value) : Instr.storeAt 27 p v = storeAny 27 p v := rfl
@[go_sem] theorem run_store_Head (w : World) (b o : Nat) (x : Head) : (storeAgg 27 b o (encHead x).toArray).run Try.prog w = if roomOf (w.at_ b) o 36 = true then .ok () (w.put_ b o (encHead x)) else (storeStuck 27 b o (encHead x).toArray).run Try.prog w := run_storeAgg Try.prog w 27 b o (encHead x) 36 (by kernel_rfl) (encHead_length x) (encHead_one x)
theorem zero_Head (w : World) : (zeroValue 27).run Try.prog w = .ok (.agg (encHead Head.zero).toArray) w := by kernel_rfl
attribute [go_sem ↓] zero_Head
@[go_sem ↓] theorem build_Head (ps : Array (Nat × Value)) : Instr.build 27 ps = buildAny 27 ps := rfl
@[go_sem] theorem run_build_Head (ps : Array (Nat × Value)) (w : World) : (buildAny 27 ps).run Try.prog w = buildRes 27 ps (buildL [(0, 1), (1, 1), (2, 1), (3, 32), (35, 1)] (encHead Head.zero) ps.toList) Try.prog w := run_build_struct Try.prog 27 (Try.prog.fieldsOf 27) _ _ ps w (by kernel_rfl) (zero_Head) (by kernel_rfl)
theorem Head.eq_iff (a b : Head) : decide (a = b) = (decide (a.region = b.region) && decide (a.epoch = b.epoch) && decide (a.size = b.size) && decide (a.root = b.root) && decide (a.tick = b.tick)) := by
  rw [Bool.eq_iff_iff]; cases a; cases b; simp [and_assoc]
@[go_sem high] theorem run_eq_Head (d : Nat) (a b : Head) (w : World) : (Op.equalIn (d + 3) 27 (.agg (encHead a).toArray) (.agg (encHead b).toArray)).run Try.prog w = .ok (decide (a = b)) w := by
  rw [show d + 3 = (d + 2) + 1 from rfl, run_equalIn_struct' Try.underlying27 Try.stoodInHeld27, Head.eq_iff]
  refine (eqFields_of Try.prog (d + 2) (encHead a).toArray (encHead b).toArray _ [decide (a.region = b.region), decide (a.epoch = b.epoch), decide (a.size = b.size), decide (a.root = b.root), decide (a.tick = b.tick)] ?_ w).trans ?_
  · refine fieldsEq_cons ?_ (fieldsEq_cons ?_ (fieldsEq_cons ?_ (fieldsEq_cons ?_ (fieldsEq_cons ?_ (fieldsEq_nil)))))
    · exact fieldEq_int Try.prog (d + 1) _ _ _ _ 0 _ _ (by decide) rfl rfl (fun _ => by kernel_rfl) (by kernel_rfl) (encHead_region a) (encHead_region b)
    · exact fieldEq_int Try.prog (d + 1) _ _ _ _ 1 _ _ (by decide) rfl rfl (fun _ => by kernel_rfl) (by kernel_rfl) (encHead_epoch a) (encHead_epoch b)
    · exact fieldEq_int Try.prog (d + 1) _ _ _ _ 2 _ _ (by decide) rfl rfl (fun _ => by kernel_rfl) (by kernel_rfl) (encHead_size a) (encHead_size b)
    · exact fieldEq_agg Try.prog (d + 2) _ _ _ 25 3 32 _ (by decide) rfl rfl (fun _ => by kernel_rfl) (fun _ => by kernel_rfl) (encHead_root a) (encHead_root b) (fun w => run_eq_Dig (d + 0) a.root b.root w)
    · exact fieldEq_int Try.prog (d + 1) _ _ _ _ 35 _ _ (by decide) rfl rfl (fun _ => by kernel_rfl) (by kernel_rfl) (encHead_tick a) (encHead_tick b)
  · simp [Bool.and_assoc]
@[go_sem high] theorem run_eql_Head (a b : Head) (w : World) : (binOp .eql 27 (.agg (encHead a).toArray) (.agg (encHead b).toArray)).run Try.prog w = .ok (.bool (decide (a = b))) w := by rw [run_eql_struct, run_eq_Head 9997]; rfl
@[go_sem high] theorem run_neq_Head (a b : Head) (w : World) : (binOp .neq 27 (.agg (encHead a).toArray) (.agg (encHead b).toArray)).run Try.prog w = .ok (.bool (!decide (a = b))) w := by rw [run_neq_struct, run_eq_Head 9997]; rfl

def Signed.zero : Signed := ⟨Head.zero, 0, Dig.zero⟩
@[go_sem ↓] theorem loadAt_Signed (p : Value) : Instr.loadAt 29 p = loadAny 29 p := rfl
@[go_sem] theorem run_load_Signed (w : World) (b o : Nat) : (loadAgg 29 b o).run Try.prog w = loadRes 29 b o (rowOf (w.at_ b) o 69) Try.prog w := run_loadAgg' Try.prog w 29 b o 69 (by kernel_rfl)
@[go_sem ↓] theorem storeAt_Signed (p v : Value) : Instr.storeAt 29 p v = storeAny 29 p v := rfl
@[go_sem] theorem run_store_Signed (w : World) (b o : Nat) (x : Signed) : (storeAgg 29 b o (encSigned x).toArray).run Try.prog w = if roomOf (w.at_ b) o 69 = true then .ok () (w.put_ b o (encSigned x)) else (storeStuck 29 b o (encSigned x).toArray).run Try.prog w := run_storeAgg Try.prog w 29 b o (encSigned x) 69 (by kernel_rfl) (encSigned_length x) (encSigned_one x)
theorem zero_Signed (w : World) : (zeroValue 29).run Try.prog w = .ok (.agg (encSigned Signed.zero).toArray) w := by kernel_rfl
attribute [go_sem ↓] zero_Signed
@[go_sem ↓] theorem build_Signed (ps : Array (Nat × Value)) : Instr.build 29 ps = buildAny 29 ps := rfl
@[go_sem] theorem run_build_Signed (ps : Array (Nat × Value)) (w : World) : (buildAny 29 ps).run Try.prog w = buildRes 29 ps (buildL [(0, 36), (36, 1), (37, 32)] (encSigned Signed.zero) ps.toList) Try.prog w := run_build_struct Try.prog 29 (Try.prog.fieldsOf 29) _ _ ps w (by kernel_rfl) (zero_Signed) (by kernel_rfl)
theorem Signed.eq_iff (a b : Signed) : decide (a = b) = (decide (a.head = b.head) && decide (a.node = b.node) && decide (a.tag = b.tag)) := by
  rw [Bool.eq_iff_iff]; cases a; cases b; simp [and_assoc]
@[go_sem high] theorem run_eq_Signed (d : Nat) (a b : Signed) (w : World) : (Op.equalIn (d + 4) 29 (.agg (encSigned a).toArray) (.agg (encSigned b).toArray)).run Try.prog w = .ok (decide (a = b)) w := by
  rw [show d + 4 = (d + 3) + 1 from rfl, run_equalIn_struct' Try.underlying29 Try.stoodInHeld29, Signed.eq_iff]
  refine (eqFields_of Try.prog (d + 3) (encSigned a).toArray (encSigned b).toArray _ [decide (a.head = b.head), decide (a.node = b.node), decide (a.tag = b.tag)] ?_ w).trans ?_
  · refine fieldsEq_cons ?_ (fieldsEq_cons ?_ (fieldsEq_cons ?_ (fieldsEq_nil)))
    · exact fieldEq_agg Try.prog (d + 3) _ _ _ 27 0 36 _ (by decide) rfl rfl (fun _ => by kernel_rfl) (fun _ => by kernel_rfl) (encSigned_head a) (encSigned_head b) (fun w => run_eq_Head (d + 0) a.head b.head w)
    · exact fieldEq_int Try.prog (d + 2) _ _ _ _ 36 _ _ (by decide) rfl rfl (fun _ => by kernel_rfl) (by kernel_rfl) (encSigned_node a) (encSigned_node b)
    · exact fieldEq_agg Try.prog (d + 3) _ _ _ 25 37 32 _ (by decide) rfl rfl (fun _ => by kernel_rfl) (fun _ => by kernel_rfl) (encSigned_tag a) (encSigned_tag b) (fun w => run_eq_Dig (d + 1) a.tag b.tag w)
  · simp [Bool.and_assoc]
@[go_sem high] theorem run_eql_Signed (a b : Signed) (w : World) : (binOp .eql 29 (.agg (encSigned a).toArray) (.agg (encSigned b).toArray)).run Try.prog w = .ok (.bool (decide (a = b))) w := by rw [run_eql_struct, run_eq_Signed 9996]; rfl
@[go_sem high] theorem run_neq_Signed (a b : Signed) (w : World) : (binOp .neq 29 (.agg (encSigned a).toArray) (.agg (encSigned b).toArray)).run Try.prog w = .ok (.bool (!decide (a = b))) w := by rw [run_neq_struct, run_eq_Signed 9996]; rfl

def Claim.zero : Claim := ⟨0, 0, 0, 0, Dig.zero⟩
@[go_sem ↓] theorem loadAt_Claim (p : Value) : Instr.loadAt 31 p = loadAny 31 p := rfl
@[go_sem] theorem run_load_Claim (w : World) (b o : Nat) : (loadAgg 31 b o).run Try.prog w = loadRes 31 b o (rowOf (w.at_ b) o 36) Try.prog w := run_loadAgg' Try.prog w 31 b o 36 (by kernel_rfl)
@[go_sem ↓] theorem storeAt_Claim (p v : Value) : Instr.storeAt 31 p v = storeAny 31 p v := rfl
@[go_sem] theorem run_store_Claim (w : World) (b o : Nat) (x : Claim) : (storeAgg 31 b o (encClaim x).toArray).run Try.prog w = if roomOf (w.at_ b) o 36 = true then .ok () (w.put_ b o (encClaim x)) else (storeStuck 31 b o (encClaim x).toArray).run Try.prog w := run_storeAgg Try.prog w 31 b o (encClaim x) 36 (by kernel_rfl) (encClaim_length x) (encClaim_one x)
theorem zero_Claim (w : World) : (zeroValue 31).run Try.prog w = .ok (.agg (encClaim Claim.zero).toArray) w := by kernel_rfl
attribute [go_sem ↓] zero_Claim
@[go_sem ↓] theorem build_Claim (ps : Array (Nat × Value)) : Instr.build 31 ps = buildAny 31 ps := rfl
@[go_sem] theorem run_build_Claim (ps : Array (Nat × Value)) (w : World) : (buildAny 31 ps).run Try.prog w = buildRes 31 ps (buildL [(0, 1), (1, 1), (2, 1), (3, 1), (4, 32)] (encClaim Claim.zero) ps.toList) Try.prog w := run_build_struct Try.prog 31 (Try.prog.fieldsOf 31) _ _ ps w (by kernel_rfl) (zero_Claim) (by kernel_rfl)
theorem Claim.eq_iff (a b : Claim) : decide (a = b) = (decide (a.region = b.region) && decide (a.epoch = b.epoch) && decide (a.node = b.node) && decide (a.size = b.size) && decide (a.root = b.root)) := by
  rw [Bool.eq_iff_iff]; cases a; cases b; simp [and_assoc]
@[go_sem high] theorem run_eq_Claim (d : Nat) (a b : Claim) (w : World) : (Op.equalIn (d + 3) 31 (.agg (encClaim a).toArray) (.agg (encClaim b).toArray)).run Try.prog w = .ok (decide (a = b)) w := by
  rw [show d + 3 = (d + 2) + 1 from rfl, run_equalIn_struct' Try.underlying31 Try.stoodInHeld31, Claim.eq_iff]
  refine (eqFields_of Try.prog (d + 2) (encClaim a).toArray (encClaim b).toArray _ [decide (a.region = b.region), decide (a.epoch = b.epoch), decide (a.node = b.node), decide (a.size = b.size), decide (a.root = b.root)] ?_ w).trans ?_
  · refine fieldsEq_cons ?_ (fieldsEq_cons ?_ (fieldsEq_cons ?_ (fieldsEq_cons ?_ (fieldsEq_cons ?_ (fieldsEq_nil)))))
    · exact fieldEq_int Try.prog (d + 1) _ _ _ _ 0 _ _ (by decide) rfl rfl (fun _ => by kernel_rfl) (by kernel_rfl) (encClaim_region a) (encClaim_region b)
    · exact fieldEq_int Try.prog (d + 1) _ _ _ _ 1 _ _ (by decide) rfl rfl (fun _ => by kernel_rfl) (by kernel_rfl) (encClaim_epoch a) (encClaim_epoch b)
    · exact fieldEq_int Try.prog (d + 1) _ _ _ _ 2 _ _ (by decide) rfl rfl (fun _ => by kernel_rfl) (by kernel_rfl) (encClaim_node a) (encClaim_node b)
    · exact fieldEq_int Try.prog (d + 1) _ _ _ _ 3 _ _ (by decide) rfl rfl (fun _ => by kernel_rfl) (by kernel_rfl) (encClaim_size a) (encClaim_size b)
    · exact fieldEq_agg Try.prog (d + 2) _ _ _ 25 4 32 _ (by decide) rfl rfl (fun _ => by kernel_rfl) (fun _ => by kernel_rfl) (encClaim_root a) (encClaim_root b) (fun w => run_eq_Dig (d + 0) a.root b.root w)
  · simp [Bool.and_assoc]
@[go_sem high] theorem run_eql_Claim (a b : Claim) (w : World) : (binOp .eql 31 (.agg (encClaim a).toArray) (.agg (encClaim b).toArray)).run Try.prog w = .ok (.bool (decide (a = b))) w := by rw [run_eql_struct, run_eq_Claim 9997]; rfl
@[go_sem high] theorem run_neq_Claim (a b : Claim) (w : World) : (binOp .neq 31 (.agg (encClaim a).toArray) (.agg (encClaim b).toArray)).run Try.prog w = .ok (.bool (!decide (a = b))) w := by rw [run_neq_struct, run_eq_Claim 9997]; rfl

def Entry.zero : Entry := ⟨0, 0, 0, ⟨#[]⟩, Signed.zero, Claim.zero⟩
@[go_sem ↓] theorem loadAt_Entry (p : Value) : Instr.loadAt 33 p = loadAny 33 p := rfl
@[go_sem] theorem run_load_Entry (w : World) (b o : Nat) : (loadAgg 33 b o).run Try.prog w = loadRes 33 b o (rowOf (w.at_ b) o 109) Try.prog w := run_loadAgg' Try.prog w 33 b o 109 (by kernel_rfl)
@[go_sem ↓] theorem storeAt_Entry (p v : Value) : Instr.storeAt 33 p v = storeAny 33 p v := rfl
@[go_sem] theorem run_store_Entry (w : World) (b o : Nat) (x : Entry) : (storeAgg 33 b o (encEntry x).toArray).run Try.prog w = if roomOf (w.at_ b) o 109 = true then .ok () (w.put_ b o (encEntry x)) else (storeStuck 33 b o (encEntry x).toArray).run Try.prog w := run_storeAgg Try.prog w 33 b o (encEntry x) 109 (by kernel_rfl) (encEntry_length x) (encEntry_one x)
theorem zero_Entry (w : World) : (zeroValue 33).run Try.prog w = .ok (.agg (encEntry Entry.zero).toArray) w := by kernel_rfl
attribute [go_sem ↓] zero_Entry
@[go_sem ↓] theorem build_Entry (ps : Array (Nat × Value)) : Instr.build 33 ps = buildAny 33 ps := rfl
@[go_sem] theorem run_build_Entry (ps : Array (Nat × Value)) (w : World) : (buildAny 33 ps).run Try.prog w = buildRes 33 ps (buildL [(0, 1), (1, 1), (2, 1), (3, 1), (4, 69), (73, 36)] (encEntry Entry.zero) ps.toList) Try.prog w := run_build_struct Try.prog 33 (Try.prog.fieldsOf 33) _ _ ps w (by kernel_rfl) (zero_Entry) (by kernel_rfl)
theorem Entry.eq_iff (a b : Entry) : decide (a = b) = (decide (a.kind = b.kind) && decide (a.client = b.client) && decide (a.seq = b.seq) && decide (a.text = b.text) && decide (a.head = b.head) && decide (a.claim = b.claim)) := by
  rw [Bool.eq_iff_iff]; cases a; cases b; simp [and_assoc]
@[go_sem high] theorem run_eq_Entry (d : Nat) (a b : Entry) (w : World) : (Op.equalIn (d + 5) 33 (.agg (encEntry a).toArray) (.agg (encEntry b).toArray)).run Try.prog w = .ok (decide (a = b)) w := by
  rw [show d + 5 = (d + 4) + 1 from rfl, run_equalIn_struct' Try.underlying33 Try.stoodInHeld33, Entry.eq_iff]
  refine (eqFields_of Try.prog (d + 4) (encEntry a).toArray (encEntry b).toArray _ [decide (a.kind = b.kind), decide (a.client = b.client), decide (a.seq = b.seq), decide (a.text = b.text), decide (a.head = b.head), decide (a.claim = b.claim)] ?_ w).trans ?_
  · refine fieldsEq_cons ?_ (fieldsEq_cons ?_ (fieldsEq_cons ?_ (fieldsEq_cons ?_ (fieldsEq_cons ?_ (fieldsEq_cons ?_ (fieldsEq_nil))))))
    · exact fieldEq_int Try.prog (d + 3) _ _ _ _ 0 _ _ (by decide) rfl rfl (fun _ => by kernel_rfl) (by kernel_rfl) (encEntry_kind a) (encEntry_kind b)
    · exact fieldEq_int Try.prog (d + 3) _ _ _ _ 1 _ _ (by decide) rfl rfl (fun _ => by kernel_rfl) (by kernel_rfl) (encEntry_client a) (encEntry_client b)
    · exact fieldEq_int Try.prog (d + 3) _ _ _ _ 2 _ _ (by decide) rfl rfl (fun _ => by kernel_rfl) (by kernel_rfl) (encEntry_seq a) (encEntry_seq b)
    · exact fieldEq_str Try.prog (d + 3) _ _ _ _ 3 _ _ (by decide) rfl rfl (fun _ => by kernel_rfl) (by kernel_rfl) (encEntry_text a) (encEntry_text b)
    · exact fieldEq_agg Try.prog (d + 4) _ _ _ 29 4 69 _ (by decide) rfl rfl (fun _ => by kernel_rfl) (fun _ => by kernel_rfl) (encEntry_head a) (encEntry_head b) (fun w => run_eq_Signed (d + 0) a.head b.head w)
    · exact fieldEq_agg Try.prog (d + 4) _ _ _ 31 73 36 _ (by decide) rfl rfl (fun _ => by kernel_rfl) (fun _ => by kernel_rfl) (encEntry_claim a) (encEntry_claim b) (fun w => run_eq_Claim (d + 1) a.claim b.claim w)
  · simp [Bool.and_assoc]
@[go_sem high] theorem run_eql_Entry (a b : Entry) (w : World) : (binOp .eql 33 (.agg (encEntry a).toArray) (.agg (encEntry b).toArray)).run Try.prog w = .ok (.bool (decide (a = b))) w := by rw [run_eql_struct, run_eq_Entry 9995]; rfl
@[go_sem high] theorem run_neq_Entry (a b : Entry) (w : World) : (binOp .neq 33 (.agg (encEntry a).toArray) (.agg (encEntry b).toArray)).run Try.prog w = .ok (.bool (!decide (a = b))) w := by rw [run_neq_struct, run_eq_Entry 9995]; rfl

def Item.zero : Item := ⟨0, Entry.zero⟩
@[go_sem ↓] theorem loadAt_Item (p : Value) : Instr.loadAt 35 p = loadAny 35 p := rfl
@[go_sem] theorem run_load_Item (w : World) (b o : Nat) : (loadAgg 35 b o).run Try.prog w = loadRes 35 b o (rowOf (w.at_ b) o 110) Try.prog w := run_loadAgg' Try.prog w 35 b o 110 (by kernel_rfl)
@[go_sem ↓] theorem storeAt_Item (p v : Value) : Instr.storeAt 35 p v = storeAny 35 p v := rfl
@[go_sem] theorem run_store_Item (w : World) (b o : Nat) (x : Item) : (storeAgg 35 b o (encItem x).toArray).run Try.prog w = if roomOf (w.at_ b) o 110 = true then .ok () (w.put_ b o (encItem x)) else (storeStuck 35 b o (encItem x).toArray).run Try.prog w := run_storeAgg Try.prog w 35 b o (encItem x) 110 (by kernel_rfl) (encItem_length x) (encItem_one x)
theorem zero_Item (w : World) : (zeroValue 35).run Try.prog w = .ok (.agg (encItem Item.zero).toArray) w := by kernel_rfl
attribute [go_sem ↓] zero_Item
@[go_sem ↓] theorem build_Item (ps : Array (Nat × Value)) : Instr.build 35 ps = buildAny 35 ps := rfl
@[go_sem] theorem run_build_Item (ps : Array (Nat × Value)) (w : World) : (buildAny 35 ps).run Try.prog w = buildRes 35 ps (buildL [(0, 1), (1, 109)] (encItem Item.zero) ps.toList) Try.prog w := run_build_struct Try.prog 35 (Try.prog.fieldsOf 35) _ _ ps w (by kernel_rfl) (zero_Item) (by kernel_rfl)
theorem Item.eq_iff (a b : Item) : decide (a = b) = (decide (a.epoch = b.epoch) && decide (a.entry = b.entry)) := by
  rw [Bool.eq_iff_iff]; cases a; cases b; simp [and_assoc]
@[go_sem high] theorem run_eq_Item (d : Nat) (a b : Item) (w : World) : (Op.equalIn (d + 6) 35 (.agg (encItem a).toArray) (.agg (encItem b).toArray)).run Try.prog w = .ok (decide (a = b)) w := by
  rw [show d + 6 = (d + 5) + 1 from rfl, run_equalIn_struct' Try.underlying35 Try.stoodInHeld35, Item.eq_iff]
  refine (eqFields_of Try.prog (d + 5) (encItem a).toArray (encItem b).toArray _ [decide (a.epoch = b.epoch), decide (a.entry = b.entry)] ?_ w).trans ?_
  · refine fieldsEq_cons ?_ (fieldsEq_cons ?_ (fieldsEq_nil))
    · exact fieldEq_int Try.prog (d + 4) _ _ _ _ 0 _ _ (by decide) rfl rfl (fun _ => by kernel_rfl) (by kernel_rfl) (encItem_epoch a) (encItem_epoch b)
    · exact fieldEq_agg Try.prog (d + 5) _ _ _ 33 1 109 _ (by decide) rfl rfl (fun _ => by kernel_rfl) (fun _ => by kernel_rfl) (encItem_entry a) (encItem_entry b) (fun w => run_eq_Entry (d + 0) a.entry b.entry w)
  · simp [Bool.and_assoc]
@[go_sem high] theorem run_eql_Item (a b : Item) (w : World) : (binOp .eql 35 (.agg (encItem a).toArray) (.agg (encItem b).toArray)).run Try.prog w = .ok (.bool (decide (a = b))) w := by rw [run_eql_struct, run_eq_Item 9994]; rfl
@[go_sem high] theorem run_neq_Item (a b : Item) (w : World) : (binOp .neq 35 (.agg (encItem a).toArray) (.agg (encItem b).toArray)).run Try.prog w = .ok (.bool (!decide (a = b))) w := by rw [run_neq_struct, run_eq_Item 9994]; rfl

def Kept.zero : Kept := ⟨0, 0, (.slice none 0 0), (.slice none 0 0)⟩
@[go_sem ↓] theorem loadAt_Kept (p : Value) : Instr.loadAt 61 p = loadAny 61 p := rfl
@[go_sem] theorem run_load_Kept (w : World) (b o : Nat) : (loadAgg 61 b o).run Try.prog w = loadRes 61 b o (rowOf (w.at_ b) o 4) Try.prog w := run_loadAgg' Try.prog w 61 b o 4 (by kernel_rfl)
@[go_sem ↓] theorem storeAt_Kept (p v : Value) : Instr.storeAt 61 p v = storeAny 61 p v := rfl
theorem zero_Kept (w : World) : (zeroValue 61).run Try.prog w = .ok (.agg (encKept Kept.zero).toArray) w := by kernel_rfl
attribute [go_sem ↓] zero_Kept
theorem encKept_one (x : Kept) (h0 : x.items.oneCell' = true) (h1 : x.claims.oneCell' = true) : ∀ v ∈ encKept x, v.oneCell' = true := by
  intro v hv; simp only [encKept, List.mem_cons, List.mem_append, List.not_mem_nil, or_false] at hv
  rcases hv with h | h | h | h
  · subst h; rfl
  · subst h; rfl
  · subst h; exact h0
  · subst h; exact h1
@[go_sem] theorem run_store_Kept (w : World) (b o : Nat) (x : Kept) (h0 : x.items.oneCell' = true) (h1 : x.claims.oneCell' = true) : (storeAgg 61 b o (encKept x).toArray).run Try.prog w = if roomOf (w.at_ b) o 4 = true then .ok () (w.put_ b o (encKept x)) else (storeStuck 61 b o (encKept x).toArray).run Try.prog w := run_storeAgg Try.prog w 61 b o (encKept x) 4 (by kernel_rfl) (encKept_length x) (encKept_one x h0 h1)
@[go_sem ↓] theorem build_Kept (ps : Array (Nat × Value)) : Instr.build 61 ps = buildAny 61 ps := rfl
@[go_sem] theorem run_build_Kept (ps : Array (Nat × Value)) (w : World) : (buildAny 61 ps).run Try.prog w = buildRes 61 ps (buildL [(0, 1), (1, 1), (2, 1), (3, 1)] (encKept Kept.zero) ps.toList) Try.prog w := run_build_struct Try.prog 61 (Try.prog.fieldsOf 61) _ _ ps w (by kernel_rfl) (zero_Kept) (by kernel_rfl)

def Record.zero : Record := ⟨0, 0, 0, Item.zero, (.slice none 0 0), Claim.zero⟩
@[go_sem ↓] theorem loadAt_Record (p : Value) : Instr.loadAt 65 p = loadAny 65 p := rfl
@[go_sem] theorem run_load_Record (w : World) (b o : Nat) : (loadAgg 65 b o).run Try.prog w = loadRes 65 b o (rowOf (w.at_ b) o 150) Try.prog w := run_loadAgg' Try.prog w 65 b o 150 (by kernel_rfl)
@[go_sem ↓] theorem storeAt_Record (p v : Value) : Instr.storeAt 65 p v = storeAny 65 p v := rfl
theorem zero_Record (w : World) : (zeroValue 65).run Try.prog w = .ok (.agg (encRecord Record.zero).toArray) w := by kernel_rfl
attribute [go_sem ↓] zero_Record
theorem encRecord_one (x : Record) (h0 : x.items.oneCell' = true) : ∀ v ∈ encRecord x, v.oneCell' = true := by
  intro v hv; simp only [encRecord, List.mem_cons, List.mem_append, List.not_mem_nil, or_false] at hv
  rcases hv with h | h | h | h | h | h
  · subst h; rfl
  · subst h; rfl
  · subst h; rfl
  · exact encItem_one _ v h
  · subst h; exact h0
  · exact encClaim_one _ v h
@[go_sem] theorem run_store_Record (w : World) (b o : Nat) (x : Record) (h0 : x.items.oneCell' = true) : (storeAgg 65 b o (encRecord x).toArray).run Try.prog w = if roomOf (w.at_ b) o 150 = true then .ok () (w.put_ b o (encRecord x)) else (storeStuck 65 b o (encRecord x).toArray).run Try.prog w := run_storeAgg Try.prog w 65 b o (encRecord x) 150 (by kernel_rfl) (encRecord_length x) (encRecord_one x h0)
@[go_sem ↓] theorem build_Record (ps : Array (Nat × Value)) : Instr.build 65 ps = buildAny 65 ps := rfl
@[go_sem] theorem run_build_Record (ps : Array (Nat × Value)) (w : World) : (buildAny 65 ps).run Try.prog w = buildRes 65 ps (buildL [(0, 1), (1, 1), (2, 1), (3, 110), (113, 1), (114, 36)] (encRecord Record.zero) ps.toList) Try.prog w := run_build_struct Try.prog 65 (Try.prog.fieldsOf 65) _ _ ps w (by kernel_rfl) (zero_Record) (by kernel_rfl)

def Fld.zero : Fld := ⟨0, ⟨#[]⟩⟩
@[go_sem ↓] theorem loadAt_Fld (p : Value) : Instr.loadAt 96 p = loadAny 96 p := rfl
@[go_sem] theorem run_load_Fld (w : World) (b o : Nat) : (loadAgg 96 b o).run Try.prog w = loadRes 96 b o (rowOf (w.at_ b) o 2) Try.prog w := run_loadAgg' Try.prog w 96 b o 2 (by kernel_rfl)
@[go_sem ↓] theorem storeAt_Fld (p v : Value) : Instr.storeAt 96 p v = storeAny 96 p v := rfl
@[go_sem] theorem run_store_Fld (w : World) (b o : Nat) (x : Fld) : (storeAgg 96 b o (encFld x).toArray).run Try.prog w = if roomOf (w.at_ b) o 2 = true then .ok () (w.put_ b o (encFld x)) else (storeStuck 96 b o (encFld x).toArray).run Try.prog w := run_storeAgg Try.prog w 96 b o (encFld x) 2 (by kernel_rfl) (encFld_length x) (encFld_one x)
theorem zero_Fld (w : World) : (zeroValue 96).run Try.prog w = .ok (.agg (encFld Fld.zero).toArray) w := by kernel_rfl
attribute [go_sem ↓] zero_Fld
@[go_sem ↓] theorem build_Fld (ps : Array (Nat × Value)) : Instr.build 96 ps = buildAny 96 ps := rfl
@[go_sem] theorem run_build_Fld (ps : Array (Nat × Value)) (w : World) : (buildAny 96 ps).run Try.prog w = buildRes 96 ps (buildL [(0, 1), (1, 1)] (encFld Fld.zero) ps.toList) Try.prog w := run_build_struct Try.prog 96 (Try.prog.fieldsOf 96) _ _ ps w (by kernel_rfl) (zero_Fld) (by kernel_rfl)
theorem Fld.eq_iff (a b : Fld) : decide (a = b) = (decide (a.tag = b.tag) && decide (a.data = b.data)) := by
  rw [Bool.eq_iff_iff]; cases a; cases b; simp [and_assoc]
@[go_sem high] theorem run_eq_Fld (d : Nat) (a b : Fld) (w : World) : (Op.equalIn (d + 2) 96 (.agg (encFld a).toArray) (.agg (encFld b).toArray)).run Try.prog w = .ok (decide (a = b)) w := by
  rw [show d + 2 = (d + 1) + 1 from rfl, run_equalIn_struct' Try.underlying96 Try.stoodInHeld96, Fld.eq_iff]
  refine (eqFields_of Try.prog (d + 1) (encFld a).toArray (encFld b).toArray _ [decide (a.tag = b.tag), decide (a.data = b.data)] ?_ w).trans ?_
  · refine fieldsEq_cons ?_ (fieldsEq_cons ?_ (fieldsEq_nil))
    · exact fieldEq_int Try.prog (d + 0) _ _ _ _ 0 _ _ (by decide) rfl rfl (fun _ => by kernel_rfl) (by kernel_rfl) (encFld_tag a) (encFld_tag b)
    · exact fieldEq_str Try.prog (d + 0) _ _ _ _ 1 _ _ (by decide) rfl rfl (fun _ => by kernel_rfl) (by kernel_rfl) (encFld_data a) (encFld_data b)
  · simp [Bool.and_assoc]
@[go_sem high] theorem run_eql_Fld (a b : Fld) (w : World) : (binOp .eql 96 (.agg (encFld a).toArray) (.agg (encFld b).toArray)).run Try.prog w = .ok (.bool (decide (a = b))) w := by rw [run_eql_struct, run_eq_Fld 9998]; rfl
@[go_sem high] theorem run_neq_Fld (a b : Fld) (w : World) : (binOp .neq 96 (.agg (encFld a).toArray) (.agg (encFld b).toArray)).run Try.prog w = .ok (.bool (!decide (a = b))) w := by rw [run_neq_struct, run_eq_Fld 9998]; rfl

end Go.Proofs.Ytgnebofjfmbccaa
