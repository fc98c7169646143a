/-
  What lies where data is read: a struct's cells are those of a Lean structure; a slice's rows are those of a list.
-/
import Derived.Test.YtgnebofjfmbccaaZ
import Derived.Test.YtgnebofjfmbccaaB
import Derived.ProofKit
import Derived.Deep.Slices
import Derived.OpenShut
import Derived.DataShut
set_option linter.all false
namespace Go.Proofs.Ytgnebofjfmbccaa
open Go.RowKit
open Go.ChangeShapes Go.WideShapes
/-- cs can be read as data of type t. -/
def Rd {H : Type} (enc : TypeId × Value → H) (P : Program) (w : World) (base : Nat) (spare : Nat → Bool) (held : Bool) (t : TypeId) (cs : List Value) : Prop := ∃ n x, DataW.trod enc P w base spare held n t cs = some x
section
variable {H : Type} {enc : TypeId × Value → H} {P : Program} {w : World} {base : Nat} {spare : Nat → Bool} {held : Bool} {t : TypeId} {cs : List Value}
theorem rd_int {k : IntKind} (hu : P.underlying t = some (.int k)) (h : Rd enc P w base spare held t cs) : ∃ i, cs = [.int k i] ∧ (Lit.int k i).wf = true := by
  obtain ⟨n, x, h⟩ := h
  cases n with
  | zero => simp [DataW.trod] at h
  | succ n =>
    rw [DataW.trod_step] at h
    unfold DataW.trodStep at h
    simp only [hu] at h
    split at h <;> simp_all
theorem rd_str (hu : P.underlying t = some .string) (h : Rd enc P w base spare held t cs) : ∃ s, cs = [.string s] ∧ s.size ≤ maxLen := by
  obtain ⟨n, x, h⟩ := h
  cases n with
  | zero => simp [DataW.trod] at h
  | succ n =>
    rw [DataW.trod_step] at h
    unfold DataW.trodStep at h
    simp only [hu] at h
    split at h <;> simp_all
theorem rd_field {fs : Array Field} (hu : P.underlying t = some (.struct fs)) (h : Rd enc P w base spare held t cs) (i off n : Nat) (ty : TypeId) (hf : (fs[i]?).map (fun f => (f.offset, P.cellsOf f.type, f.type)) = some (off, n, ty)) : Rd enc P w base spare held ty (seg cs off n) := by
  obtain ⟨m, x, h⟩ := h
  obtain ⟨xs, m', rfl, _, _, hl, hx⟩ := DataW.trod_struct hu h
  cases hi : fs[i]? with
  | none => simp [hi] at hf
  | some f =>
    simp only [hi, Option.map_some, Option.some.injEq, Prod.mk.injEq] at hf
    obtain ⟨rfl, rfl, rfl⟩ := hf
    have hlt : i < xs.length := by rw [hl]; exact (Array.getElem?_eq_some_iff.1 hi).1
    refine ⟨m', xs[i], ?_⟩
    have := hx i f hi
    rw [List.getElem?_eq_getElem hlt] at this
    exact this
theorem rd_field_int {fs : Array Field} (hu : P.underlying t = some (.struct fs)) (h : Rd enc P w base spare held t cs) (i off : Nat) (k : IntKind) (hf : (fs[i]?).map (fun f => (f.offset, P.cellsOf f.type, P.underlying f.type)) = some (off, 1, some (.int k))) : ∃ v, seg cs off 1 = [.int k v] ∧ (Lit.int k v).wf = true := by
  cases hi : fs[i]? with
  | none => simp [hi] at hf
  | some f =>
    simp only [hi, Option.map_some, Option.some.injEq, Prod.mk.injEq] at hf
    have := rd_field hu h i off 1 f.type (by simp [hi, hf])
    exact rd_int hf.2.2 this
theorem rd_field_str {fs : Array Field} (hu : P.underlying t = some (.struct fs)) (h : Rd enc P w base spare held t cs) (i off : Nat) (hf : (fs[i]?).map (fun f => (f.offset, P.cellsOf f.type, P.underlying f.type)) = some (off, 1, some .string)) : ∃ s, seg cs off 1 = [.string s] ∧ s.size ≤ maxLen := by
  cases hi : fs[i]? with
  | none => simp [hi] at hf
  | some f =>
    simp only [hi, Option.map_some, Option.some.injEq, Prod.mk.injEq] at hf
    have := rd_field hu h i off 1 f.type (by simp [hi, hf])
    exact rd_str hf.2.2 this
theorem rd_struct_len {fs : Array Field} (hu : P.underlying t = some (.struct fs)) (h : Rd enc P w base spare held t cs) : cs.length = P.cellsOf t := by
  obtain ⟨m, x, h⟩ := h
  obtain ⟨xs, m', rfl, _, hl, _, hx⟩ := DataW.trod_struct hu h
  exact hl
theorem rd_dig {e : TypeId} (hu : P.underlying t = some (.array 32 e)) (he : P.underlying e = some (.int .u8)) (h1 : P.cellsOf e = 1) (h32 : P.cellsOf t = 32) (h : Rd enc P w base spare held t cs) : ∃ d : Dig, cs = encDig d := by
  obtain ⟨m, x, h⟩ := h
  obtain ⟨xs, m', rfl, _, hl, hxl, hx⟩ := DataW.trod_array hu h
  rw [h32] at hl
  have each : ∀ i, i < 32 → ∃ b : UInt8, cs[i]? = some (.int .u8 b.toNat) := fun i hi => by
    have hr := hx i hi
    rw [List.getElem?_eq_getElem (by omega), h1, Nat.mul_one] at hr
    obtain ⟨v, hv, hw⟩ := rd_int (enc := enc) (w := w) (base := base) (spare := spare) (held := held) he ⟨_, _, hr⟩
    have h0 : cs[i]? = some (.int .u8 v) := by
      have := congrArg (fun l => l[0]?) hv
      simpa [List.getElem?_take, List.getElem?_drop] using this
    have hr2 : 0 ≤ v ∧ v ≤ 255 := by rw [Lit.wf_int_iff] at hw; exact hw
    refine ⟨UInt8.ofNat v.toNat, ?_⟩
    rw [h0]
    congr 2
    have : v.toNat < 256 := by omega
    simp only [UInt8.toNat_ofNat', Nat.reducePow, Nat.mod_eq_of_lt this]
    omega
  refine ⟨⟨(List.range 32).map fun i => if hi : i < 32 then Classical.choose (each i hi) else 0, by simp⟩, ?_⟩
  apply List.ext_getElem?
  intro i
  by_cases hi : i < 32
  · rw [Classical.choose_spec (each i hi)]
    simp [encDig, hi]
  · rw [List.getElem?_eq_none (by omega), List.getElem?_eq_none (by simp [encDig]; omega)]
theorem seg_cat (l : List Value) (k n m : Nat) : seg l k (n + m) = seg l k n ++ seg l (k + n) m := by
  unfold seg
  rw [List.take_add, List.drop_drop]
theorem seg_whole (l : List Value) : seg l 0 l.length = l := by unfold seg; rw [List.drop_zero, List.take_length]
theorem add_block (a : Addr) (k : Nat) : (a.add k).block = a.block := by unfold Addr.add; split <;> rfl
theorem add_off (a : Addr) (k : Nat) : (a.add k).off = a.off + k := by unfold Addr.add; split <;> simp_all
theorem cell_cells {w : World} {a : Addr} {v : Value} (h : w.cell? a = some v) : a.spot = none ∧ ∃ c t f, w.at_ a.block = some (.cells c t f) ∧ c[a.off]? = some v := by
  unfold World.cell? at h
  split at h
  · rename_i c t f ho
    split at h
    · cases h
    · rename_i hs
      exact ⟨by simpa using hs, c, t, f, ho, h⟩
  · cases h
theorem row_of_cells {w : World} {base : Nat} {a : Addr} {n : Nat} {cs : List Value} (hn : 0 < n) (h : w.cells? base a n = some cs) : a.spot = none ∧ a.block < w.heap.size ∧ rowOf (w.at_ a.block) a.off n = some cs := by
  obtain ⟨_, hl, hc⟩ := World.cells?_some h
  have h0 := hc 0 hn
  rw [List.getElem?_eq_getElem (by omega)] at h0
  have ha0 : a.add 0 = a := by simp [Addr.add]
  rw [ha0] at h0
  obtain ⟨hs, c, t, f, ho, _⟩ := cell_cells h0
  have each : ∀ i, i < n → c[a.off + i]? = cs[i]? := fun i hi => by
    have h1 := hc i hi
    rw [List.getElem?_eq_getElem (by omega)] at h1 ⊢
    obtain ⟨_, c', t', f', ho', h2⟩ := cell_cells h1
    rw [add_block, ho] at ho'
    cases ho'
    rwa [add_off] at h2
  have hsz : a.off + n ≤ c.size := by
    have := each (n - 1) (by omega)
    rw [List.getElem?_eq_getElem (by omega)] at this
    have := (Array.getElem?_eq_some_iff.1 this).1
    omega
  refine ⟨hs, (Array.getElem?_eq_some_iff.1 ho).1, ?_⟩
  rw [ho]
  simp only [rowOf, if_pos hsz, Option.some.injEq]
  apply List.ext_getElem?
  intro i
  by_cases hi : i < n
  · rw [← each i hi, seg_eq, List.getElem?_take_of_lt hi, List.getElem?_drop, Array.getElem?_toList]
  · rw [List.getElem?_eq_none (by simp [seg]; omega), List.getElem?_eq_none (by omega)]
theorem open_rows {α : Type} [Inhabited α] {e : TypeId} {n : Nat} {enc' : α → List Value} {v : Value} (hu : P.underlying t = some (.slice e)) (hn : P.cellsOf e = n) (hn0 : 0 < n) (hx : ∀ cs, Rd enc P w base spare held e cs → ∃ x : α, cs = enc' x)
    {d : DataW H} {ps : List MemPlace} (h : DataW.Trod enc P w base spare held t v d ps) (hv : v.cells.toList = [v]) : ∃ a l cap, v = .slice a (List.length l) cap ∧ SliceAt enc' n w a l ∧ (l = [] ∨ ∃ es sp, d = .slice es sp ∧ es.length = List.length l) := by
  obtain ⟨fuel, h⟩ := h
  rw [hv] at h
  rcases Deep.open_slice hu h with ⟨hcs, _⟩ | ⟨a, len, cap, m, k, D, Pl, hcs, hb, hlc, hcm, hm, hd, hel⟩
  · simp only [List.cons.injEq, and_true] at hcs
    subst hcs
    exact ⟨none, [], 0, rfl, .inl rfl, .inl rfl⟩
  · simp only [List.cons.injEq, and_true] at hcs
    subst hcs
    have hle : len ≤ m := by rw [hm]; split <;> omega
    have each : ∀ i, i < len → ∃ x : α, (i = 0 → a.spot = none) ∧ a.block < w.heap.size ∧ rowOf (w.at_ a.block) (a.off + i * n) n = some (enc' x) := fun i hi => by
      obtain ⟨cs', h1, h2⟩ := hel i (by omega)
      rw [hn] at h1
      obtain ⟨x, rfl⟩ := hx cs' ⟨_, _, h2⟩
      obtain ⟨q1, q2, q3⟩ := row_of_cells hn0 h1
      rw [add_block] at q2 q3
      rw [add_off] at q3
      exact ⟨x, fun e => by subst e; rw [Nat.zero_mul] at q1; simpa [Addr.add] using q1, q2, q3⟩
    obtain ⟨f, hf⟩ := Deep.choose_lt each
    refine ⟨some a, (List.range len).map f, cap, by simp, ?_, .inr ⟨_, _, congrArg Prod.fst hd, by simp⟩⟩
    by_cases h0 : len = 0
    · subst h0; exact .inl rfl
    · obtain ⟨p1, p2, p3⟩ := hf 0 (by omega)
      refine .inr ⟨a.block, a.off, ?_, p2, fun i x hx => ?_⟩
      · obtain ⟨ab, ao, sp⟩ := a
        have := p1 rfl
        simp only at this
        rw [this]
      · by_cases hi : i < len
        · simp [hi] at hx
          rw [← hx]; exact (hf i hi).2.2
        · simp [hi] at hx
theorem rd_of_trod {d : DataW H} {p : List MemPlace} {v : Value} (h : DataW.Trod enc P w base spare held t v d p) : Rd enc P w base spare held t v.cells.toList := by
  obtain ⟨n, h⟩ := h
  exact ⟨n, _, h⟩
end
instance : Inhabited Dig := ⟨⟨List.replicate 32 0, by simp⟩⟩
theorem open_Dig {H : Type} {enc : TypeId × Value → H} {w : World} {base : Nat} {spare : Nat → Bool} {held : Bool} {cs : List Value} (h : Rd enc Try.prog w base spare held 25 cs) : ∃ d : Dig, cs = encDig d :=
  rd_dig Try.underlying25 Try.underlying5 (by kernel_rfl) (by kernel_rfl) h
instance : Inhabited Head := ⟨Head.zero⟩
theorem open_Head {H : Type} {enc : TypeId × Value → H} {w : World} {base : Nat} {spare : Nat → Bool} {held : Bool} {cs : List Value} (h : Rd enc Try.prog w base spare held 27 cs) : ∃ x : Head, cs = encHead x := by
  have hl : cs.length = 36 := (rd_struct_len Try.underlying27 h).trans (by kernel_rfl)
  obtain ⟨v0, e0, _⟩ := rd_field_int Try.underlying27 h 0 0 .i64 (by kernel_rfl)
  have c0 : seg cs 0 36 = seg cs 0 1 ++ seg cs 1 35 := seg_cat cs 0 1 35
  obtain ⟨v1, e1, _⟩ := rd_field_int Try.underlying27 h 1 1 .i64 (by kernel_rfl)
  have c1 : seg cs 1 35 = seg cs 1 1 ++ seg cs 2 34 := seg_cat cs 1 1 34
  obtain ⟨v2, e2, _⟩ := rd_field_int Try.underlying27 h 2 2 .i64 (by kernel_rfl)
  have c2 : seg cs 2 34 = seg cs 2 1 ++ seg cs 3 33 := seg_cat cs 2 1 33
  obtain ⟨v3, e3⟩ := open_Dig (rd_field Try.underlying27 h 3 3 32 25 (by kernel_rfl))
  have c3 : seg cs 3 33 = seg cs 3 32 ++ seg cs 35 1 := seg_cat cs 3 32 1
  obtain ⟨v4, e4, _⟩ := rd_field_int Try.underlying27 h 4 35 .i64 (by kernel_rfl)
  have s0 : seg cs 0 36 = cs := hl ▸ seg_whole cs
  refine ⟨⟨v0, v1, v2, v3, v4⟩, ?_⟩
  rw [← s0, c0, e0, c1, e1, c2, e2, c3, e3, e4]
  simp only [encHead, List.cons_append, List.nil_append, List.append_nil]
instance : Inhabited Signed := ⟨Signed.zero⟩
theorem open_Signed {H : Type} {enc : TypeId × Value → H} {w : World} {base : Nat} {spare : Nat → Bool} {held : Bool} {cs : List Value} (h : Rd enc Try.prog w base spare held 29 cs) : ∃ x : Signed, cs = encSigned x := by
  have hl : cs.length = 69 := (rd_struct_len Try.underlying29 h).trans (by kernel_rfl)
  obtain ⟨v0, e0⟩ := open_Head (rd_field Try.underlying29 h 0 0 36 27 (by kernel_rfl))
  have c0 : seg cs 0 69 = seg cs 0 36 ++ seg cs 36 33 := seg_cat cs 0 36 33
  obtain ⟨v1, e1, _⟩ := rd_field_int Try.underlying29 h 1 36 .i64 (by kernel_rfl)
  have c1 : seg cs 36 33 = seg cs 36 1 ++ seg cs 37 32 := seg_cat cs 36 1 32
  obtain ⟨v2, e2⟩ := open_Dig (rd_field Try.underlying29 h 2 37 32 25 (by kernel_rfl))
  have s0 : seg cs 0 69 = cs := hl ▸ seg_whole cs
  refine ⟨⟨v0, v1, v2⟩, ?_⟩
  rw [← s0, c0, e0, c1, e1, e2]
  simp only [encSigned, List.cons_append, List.nil_append, List.append_nil]
instance : Inhabited Claim := ⟨Claim.zero⟩
theorem open_Claim {H : Type} {enc : TypeId × Value → H} {w : World} {base : Nat} {spare : Nat → Bool} {held : Bool} {cs : List Value} (h : Rd enc Try.prog w base spare held 31 cs) : ∃ x : Claim, cs = encClaim x := by
  have hl : cs.length = 36 := (rd_struct_len Try.underlying31 h).trans (by kernel_rfl)
  obtain ⟨v0, e0, _⟩ := rd_field_int Try.underlying31 h 0 0 .i64 (by kernel_rfl)
  have c0 : seg cs 0 36 = seg cs 0 1 ++ seg cs 1 35 := seg_cat cs 0 1 35
  obtain ⟨v1, e1, _⟩ := rd_field_int Try.underlying31 h 1 1 .i64 (by kernel_rfl)
  have c1 : seg cs 1 35 = seg cs 1 1 ++ seg cs 2 34 := seg_cat cs 1 1 34
  obtain ⟨v2, e2, _⟩ := rd_field_int Try.underlying31 h 2 2 .i64 (by kernel_rfl)
  have c2 : seg cs 2 34 = seg cs 2 1 ++ seg cs 3 33 := seg_cat cs 2 1 33
  obtain ⟨v3, e3, _⟩ := rd_field_int Try.underlying31 h 3 3 .i64 (by kernel_rfl)
  have c3 : seg cs 3 33 = seg cs 3 1 ++ seg cs 4 32 := seg_cat cs 3 1 32
  obtain ⟨v4, e4⟩ := open_Dig (rd_field Try.underlying31 h 4 4 32 25 (by kernel_rfl))
  have s0 : seg cs 0 36 = cs := hl ▸ seg_whole cs
  refine ⟨⟨v0, v1, v2, v3, v4⟩, ?_⟩
  rw [← s0, c0, e0, c1, e1, c2, e2, c3, e3, e4]
  simp only [encClaim, List.cons_append, List.nil_append, List.append_nil]
instance : Inhabited Entry := ⟨Entry.zero⟩
theorem open_Entry {H : Type} {enc : TypeId × Value → H} {w : World} {base : Nat} {spare : Nat → Bool} {held : Bool} {cs : List Value} (h : Rd enc Try.prog w base spare held 33 cs) : ∃ x : Entry, cs = encEntry x := by
  have hl : cs.length = 109 := (rd_struct_len Try.underlying33 h).trans (by kernel_rfl)
  obtain ⟨v0, e0, _⟩ := rd_field_int Try.underlying33 h 0 0 .i64 (by kernel_rfl)
  have c0 : seg cs 0 109 = seg cs 0 1 ++ seg cs 1 108 := seg_cat cs 0 1 108
  obtain ⟨v1, e1, _⟩ := rd_field_int Try.underlying33 h 1 1 .i64 (by kernel_rfl)
  have c1 : seg cs 1 108 = seg cs 1 1 ++ seg cs 2 107 := seg_cat cs 1 1 107
  obtain ⟨v2, e2, _⟩ := rd_field_int Try.underlying33 h 2 2 .i64 (by kernel_rfl)
  have c2 : seg cs 2 107 = seg cs 2 1 ++ seg cs 3 106 := seg_cat cs 2 1 106
  obtain ⟨v3, e3, _⟩ := rd_field_str Try.underlying33 h 3 3 (by kernel_rfl)
  have c3 : seg cs 3 106 = seg cs 3 1 ++ seg cs 4 105 := seg_cat cs 3 1 105
  obtain ⟨v4, e4⟩ := open_Signed (rd_field Try.underlying33 h 4 4 69 29 (by kernel_rfl))
  have c4 : seg cs 4 105 = seg cs 4 69 ++ seg cs 73 36 := seg_cat cs 4 69 36
  obtain ⟨v5, e5⟩ := open_Claim (rd_field Try.underlying33 h 5 73 36 31 (by kernel_rfl))
  have s0 : seg cs 0 109 = cs := hl ▸ seg_whole cs
  refine ⟨⟨v0, v1, v2, v3, v4, v5⟩, ?_⟩
  rw [← s0, c0, e0, c1, e1, c2, e2, c3, e3, c4, e4, e5]
  simp only [encEntry, List.cons_append, List.nil_append, List.append_nil]
instance : Inhabited Item := ⟨Item.zero⟩
theorem open_Item {H : Type} {enc : TypeId × Value → H} {w : World} {base : Nat} {spare : Nat → Bool} {held : Bool} {cs : List Value} (h : Rd enc Try.prog w base spare held 35 cs) : ∃ x : Item, cs = encItem x := by
  have hl : cs.length = 110 := (rd_struct_len Try.underlying35 h).trans (by kernel_rfl)
  obtain ⟨v0, e0, _⟩ := rd_field_int Try.underlying35 h 0 0 .i64 (by kernel_rfl)
  have c0 : seg cs 0 110 = seg cs 0 1 ++ seg cs 1 109 := seg_cat cs 0 1 109
  obtain ⟨v1, e1⟩ := open_Entry (rd_field Try.underlying35 h 1 1 109 33 (by kernel_rfl))
  have s0 : seg cs 0 110 = cs := hl ▸ seg_whole cs
  refine ⟨⟨v0, v1⟩, ?_⟩
  rw [← s0, c0, e0, e1]
  simp only [encItem, List.cons_append, List.nil_append, List.append_nil]
end Go.Proofs.Ytgnebofjfmbccaa
