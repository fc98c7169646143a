/-
  Slices of structs that a call makes itself: append, and what lies in them.
-/
import Derived.Test.YtgnebofjfmbccaaB
import Derived.Maps.AppendAt
set_option linter.all false
namespace Go.Proofs.Ytgnebofjfmbccaa
open Go.RowKit
/-- v is a slice of the call's own (its block lies at B or beyond), whose elements are l. -/
def OwnSl {α : Type} (enc : α → List Value) (n E : Nat) (w : World) (B : Nat) (v : Value) (l : List α) : Prop := w.ownsRow B E n v l.length (l.flatMap enc)
theorem flatMap_length {α : Type} {enc : α → List Value} {n : Nat} (hn : ∀ x, (enc x).length = n) (l : List α) : (l.flatMap enc).length = l.length * n := by
  induction l with
  | nil => simp
  | cons x l ih => rw [List.flatMap_cons, List.length_append, ih, hn, List.length_cons, Nat.add_mul]; omega
theorem flatMap_at {α : Type} {enc : α → List Value} {n : Nat} (hn : ∀ x, (enc x).length = n) : ∀ (l : List α) (j : Nat) (u : Value), (l.flatMap enc)[j]? = some u → ∃ i x r, l[i]? = some x ∧ j = i * n + r ∧ r < n ∧ (enc x)[r]? = some u := by
  intro l
  induction l with
  | nil => intro j u h; simp at h
  | cons x l ih =>
    intro j u h
    rw [List.flatMap_cons] at h
    by_cases hj : j < n
    · rw [List.getElem?_append_left (by rw [hn]; exact hj)] at h
      exact ⟨0, x, j, rfl, by omega, hj, h⟩
    · rw [List.getElem?_append_right (by rw [hn]; omega), hn] at h
      obtain ⟨i, y, r, h1, h2, h3, h4⟩ := ih _ _ h
      exact ⟨i + 1, y, r, by simpa using h1, by rw [Nat.add_mul]; omega, h3, h4⟩
theorem flatMap_seg {α : Type} {enc : α → List Value} {n : Nat} (hn : ∀ x, (enc x).length = n) : ∀ (l : List α) (rest : List Value) (i : Nat) (x : α), l[i]? = some x → seg (l.flatMap enc ++ rest) (i * n) n = enc x := by
  intro l
  induction l with
  | nil => intro rest i x h; simp at h
  | cons y l ih =>
    intro rest i x h
    rw [List.flatMap_cons, List.append_assoc]
    cases i with
    | zero =>
      simp only [List.getElem?_cons_zero, Option.some.injEq] at h
      subst h
      unfold seg
      simp [hn]
    | succ i =>
      rw [List.getElem?_cons_succ] at h
      have := ih rest i x h
      unfold seg at this ⊢
      rw [show (i + 1) * n = (enc y).length + i * n by rw [hn, Nat.add_mul]; omega, ← List.drop_drop, List.drop_left]
      exact this
theorem SliceAt.news {α : Type} {enc : α → List Value} {n : Nat} {w : World} {a : Addr} {l : List α} (hn : ∀ x, (enc x).length = n) (h : SliceAt enc n w (some a) l) : ∀ j u, (l.flatMap enc)[j]? = some u → w.cell? (a.add j) = some u := by
  intro j u hu
  obtain ⟨i, x, r, h1, rfl, h3, h4⟩ := flatMap_at hn l j u hu
  rcases h with rfl | ⟨b, off, e, _, h⟩
  · simp at h1
  · cases e
    rw [Addr.add_mid, cell_at, ← h4]
    have := rowOf_cell (h i x h1) r h3
    rw [← this]; congr 1; omega
theorem OwnSl.nil {α : Type} (enc : α → List Value) (n E : Nat) (w : World) (B : Nat) : OwnSl enc n E w B (.slice none 0 0) [] := World.ownsRow_nil w B E n
theorem OwnSl.slice {α : Type} {enc : α → List Value} {n E : Nat} {w : World} {B : Nat} {v : Value} {l : List α} (hn : ∀ x, (enc x).length = n) (h : OwnSl enc n E w B v l) :
    ∃ a cap, v = .slice a l.length cap ∧ SliceAt enc n w a l ∧ l.length ≤ cap ∧ ∀ b, a = some b → B ≤ b.block ∧ b.block < w.heap.size := by
  rcases h.2 with ⟨rfl, h0⟩ | ⟨g, cap, cur, rfl, hbg, hg, hnc, hcm, hcs, htake⟩
  · have : l = [] := List.eq_nil_of_length_eq_zero h0
    subst this
    exact ⟨none, 0, rfl, .inl rfl, Nat.le_refl _, fun b e => by cases e⟩
  · have hlt := (Array.getElem?_eq_some_iff.1 hg).1
    refine ⟨_, cap, rfl, .inr ⟨g, 0, rfl, hlt, fun i x hx => ?_⟩, hnc, fun b e => by cases e; exact ⟨hbg, hlt⟩⟩
    have hi := (List.getElem?_eq_some_iff.1 hx).1
    have e : cur.toList = l.flatMap enc ++ cur.toList.drop (l.length * n) := by rw [← htake, List.take_append_drop]
    have hm : (i + 1) * n ≤ l.length * n := Nat.mul_le_mul_right n hi
    have hc : l.length * n ≤ cap * n := Nat.mul_le_mul_right n hnc
    rw [Nat.add_mul] at hm
    rw [at_def, hg]
    simp only [rowOf, Nat.zero_add]
    rw [if_pos (by omega), e, flatMap_seg hn l _ i x hx]
theorem OwnSl.kept {α : Type} {enc : α → List Value} {n E : Nat} {w w' : World} {B : Nat} {v : Value} {l : List α} (h : OwnSl enc n E w B v l) (hb : Below w.heap.size w w') : OwnSl enc n E w' B v l :=
  World.ownsRow.kept (row := none) h ⟨hb.os, hb.tape, hb.output, hb.size, fun k hk _ => hb.block k hk⟩ (by cases h' : v.ownBlock <;> simp)
theorem OwnSl.alloc {α : Type} {enc : α → List Value} {n E : Nat} {w : World} {B : Nat} {v : Value} {l : List α} (h : OwnSl enc n E w B v l) (o : Obj) : OwnSl enc n E (w.alloc o) B v l := World.ownsRow.alloc h o
theorem OwnSl.drew {α : Type} {enc : α → List Value} {n E : Nat} {w : World} {B : Nat} {v : Value} {l : List α} (h : OwnSl enc n E w B v l) : OwnSl enc n E w.drew B v l := h
theorem OwnSl.base {α : Type} {enc : α → List Value} {n E : Nat} {w : World} {B B' : Nat} {v : Value} {l : List α} (h : OwnSl enc n E w B v l) (hB : B' ≤ B) : OwnSl enc n E w B' v l := by
  refine ⟨h.1, ?_⟩
  rcases h.2 with h | ⟨g, cap, cur, h1, h2, h3⟩
  · exact .inl h
  · exact .inr ⟨g, cap, cur, h1, by omega, h3⟩
theorem OwnSl.block {α : Type} {enc : α → List Value} {n E : Nat} {w : World} {B : Nat} {v : Value} {l : List α} (h : OwnSl enc n E w B v l) : ∀ k, v.ownBlock = some k → B ≤ k ∧ k < w.heap.size := World.ownsRow.lt h
/-- What an append into an own slice leaves alone. -/
theorem below_grown {w W W' : World} {row : Option Nat} (h : Below w.heap.size w W) (hg : W.grownBy W' row) (hr : ∀ k, row = some k → w.heap.size ≤ k) : Below w.heap.size w W' := h.grown hg h.size hr
theorem grown_rule {w w' : World} {row : Option Nat} (h : w.grownBy w' row) (n : Nat) (hn : n < w.heap.size) (hr : some n ≠ row) : w'.at_ n = w.at_ n := h.block n hn hr
theorem SliceAt.grown {α : Type} {enc : α → List Value} {n : Nat} {w w' : World} {row : Option Nat} {a : Option Addr} {l : List α} (h : SliceAt enc n w a l) (hg : w.grownBy w' row) (hr : ∀ b, a = some b → some b.block ≠ row) : SliceAt enc n w' a l := by
  rcases h with h | ⟨b, off, rfl, hlt, h⟩
  · exact .inl h
  · refine .inr ⟨b, off, rfl, by have := hg.size; omega, fun i x hx => ?_⟩
    rw [grown_rule hg b hlt (hr _ rfl)]; exact h i x hx
theorem run_append_nilsrc {P : Program} {w : World} (B t ty e : Nat) (i : TypeInfo) (size : Nat) (ht : P.underlying t = some (.slice e)) (hi : P.info? e = some i)
    (v : Value) (n : Nat) (xs : List Value) (hown : w.ownsRow B e size v n xs) (c : Nat) :
    (Builtin.append_ #[t, t] ty #[v, .slice none 0 c]).run P w = .ok v w := by
  rcases hown.2 with ⟨rfl, rfl⟩ | ⟨g, cap, cur, rfl, _, _, hnc, _⟩
  · simp [Builtin.append_, run_underlying ht, sizeOf, typeInfo, hi, Builtin.lenOf, Builtin.firstCells]
  · simp [Builtin.append_, run_underlying ht, sizeOf, typeInfo, hi, Builtin.lenOf, Builtin.firstCells, hnc, storeCells]
theorem run_app {α : Type} {enc : α → List Value} {P : Program} {w : World} (B t ty E : Nat) (i : TypeInfo) (z : Value) (n bytes : Nat) (ht : P.underlying t = some (.slice E)) (hi : P.info? E = some i) (hz : i.zero = some z)
    (hsize : i.size = n) (hby : i.bytes = bytes) (hzs : z.cells.size = n) (hsz : 0 < n) (hn : ∀ x, (enc x).length = n) (h1 : ∀ x, ∀ u ∈ enc x, u.oneCell' = true)
    (v : Value) (l : List α) (hown : OwnSl enc n E w B v l) (a : Option Addr) (c : Nat) (m : List α) (hsrc : SliceAt enc n w a m)
    (h63 : l.length + m.length ≤ maxLen) (hbytes : (l.length + m.length) * bytes ≤ 140737488355328) (hbase : B ≤ w.heap.size) :
    ∃ v' w', (Builtin.append_ #[t, t] ty #[v, .slice a m.length c]).run P w = .ok v' w' ∧ OwnSl enc n E w' B v' (l ++ m) ∧ w.grownBy w' v.ownBlock ∧ (v'.ownBlock = v.ownBlock ∨ v'.ownBlock = some w.heap.size) := by
  cases a with
  | none =>
    have hm : m = [] := by
      rcases hsrc with h | ⟨b, off, e, _⟩
      · exact h
      · cases e
    subst hm
    refine ⟨v, w, run_append_nilsrc B t ty E i n ht hi v l.length _ hown c, by rw [List.append_nil]; exact hown, World.grownBy.refl w _, .inl rfl⟩
  | some a =>
    obtain ⟨v', w', hr, h2, h3, _, h5⟩ := run_append_own_at (P := P) w B t ty E i z n bytes ht hi hz hsize hby hzs hsz v l.length _ hown a m.length c (m.flatMap enc) (flatMap_length hn m) (hsrc.news hn)
      (fun u hu => by rw [List.mem_flatMap] at hu; obtain ⟨x, _, hx⟩ := hu; exact h1 x u hx) h63 hbytes hbase
    refine ⟨v', w', hr, ?_, h3, h5⟩
    unfold OwnSl
    rw [List.length_append, List.flatMap_append]; exact h2
theorem wpList_app {α : Type} {enc : α → List Value} {P : Program} {w : World} {ops : Array Oper} {rest : List Oper} {o : Oper} {A : Act} {Q : Exit → Act → World → Prop} (hgd : o.guard = none) (s x : Operand) (t : Nat)
    (ho : o.op = .call { callee := .builtin .append, args := #[s, x], argTypes := #[t, t] })
    (B E : Nat) (z : Value) (n bytes : Nat) (ht : P.underlying t = some (.slice E)) (hi : (P.info? E).map (fun i => (i.zero, i.size, i.bytes)) = some (some z, n, bytes))
    (hzs : z.cells.size = n) (hsz : 0 < n) (hn : ∀ x, (enc x).length = n) (h1 : ∀ x, ∀ u ∈ enc x, u.oneCell' = true)
    (v : Value) (l : List α) (hs : A.eval s = v) (hown : OwnSl enc n E w B v l) (a : Option Addr) (c : Nat) (m : List α) (hx : A.eval x = .slice a m.length c) (hsrc : SliceAt enc n w a m)
    (h63 : l.length + m.length ≤ 9223372036854775807) (hbytes : (l.length + m.length) * bytes ≤ 140737488355328) (hbase : B ≤ w.heap.size)
    (h : ∀ v' w', OwnSl enc n E w' B v' (l ++ m) → w.grownBy w' v.ownBlock → (v'.ownBlock = v.ownBlock ∨ v'.ownBlock = some w.heap.size) → wpList P ops Q rest (A.put o.dst v') w') : wpList P ops Q (o :: rest) A w :=
  wpList_plain hgd fun K hK => by
    obtain ⟨i, hi, hz, hsize, hby⟩ := info_parts hi
    obtain ⟨v', w', hr, h2, h3, h4⟩ := run_app (P := P) (w := w) B t o.type E i z n bytes ht hi hz hsize hby hzs hsz hn h1 v l hown a c m hsrc (by unfold maxLen; omega) hbytes hbase
    unfold Oper.wp execOp
    simp only [ho, resolve, invoke, builtin, Sem.run_bind, Sem.run_pure, Result.andThen_ok, List.map_toArray, List.map_cons, List.map_nil, hs, hx, hr]
    exact hK _ _ (h v' w' h2 h3 h4)
/-- A slice of the call's own is handed back. -/
def ResOwn {α : Type} (enc : α → List Value) (n E : Nat) (l : List α) (w : World) (e : Ending) (w' : World) : Prop := ∃ v, e = .returned v ∧ OwnSl enc n E w' w.heap.size v l ∧ Below w.heap.size w w'
theorem info_Item : (Try.prog.info? 35).map (fun i => (i.zero, i.size, i.bytes)) = some (some (.agg (encItem Item.zero).toArray), 110, 216) := by kernel_rfl
set_option maxHeartbeats 400000 in
theorem ref11_Own (l : List Item) (a : Option Addr) (cap : Nat) (w : World) (h : SliceAt encItem 110 w a l) (hl : l.length ≤ 1000000) :
    Calls Try.prog 13 #[.slice a l.length cap] w (ResOwn encItem 110 35 l w) := by
  go_enter Try.func13, Try.ntmps13
  go_wp2_with ((at_builtin; refine wpList_app (enc := encItem) rfl _ _ 22 rfl w.heap.size 35 _ 110 216 Try.underlying22 info_Item rfl (by omega) encItem_length encItem_one (.slice none 0 0) [] rfl (OwnSl.nil _ _ _ _ _) a cap l rfl h (by simp; omega) (by simp; omega) (Nat.le_refl _) ?_; intro v' w' hown hg hk))
  go_ret
  exact ⟨_, rfl, hown, below_grown (Below.refl _ _) hg (by simp [Value.ownBlock])⟩
end Go.Proofs.Ytgnebofjfmbccaa
