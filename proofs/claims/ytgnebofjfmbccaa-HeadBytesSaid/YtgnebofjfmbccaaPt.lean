/-
  copy(d[:], s); what entry.GetClaim takes of a field.
-/
import Derived.Test.YtgnebofjfmbccaaPs
import Derived.Test.YtgnebofjfmbccaaPl
import Derived.Lib.LazyBuf
set_option linter.all false
namespace Go.Proofs.Ytgnebofjfmbccaa
open Go.RowKit
theorem byteCells_one (l : List UInt8) : ∀ v ∈ bcells l, v.oneCell' = true := by
  intro v hv; simp only [bcells, List.mem_map] at hv; obtain ⟨b, _, rfl⟩ := hv; rfl
theorem size_u8 (w : World) : (sizeOf 5).run Try.prog w = .ok 1 w := by
  have hsz : (Try.prog.info? 5).map (·.size) = some 1 := by kernel_rfl
  cases hq : Try.prog.info? 5 with
  | none => rw [hq] at hsz; cases hsz
  | some i =>
    rw [hq] at hsz
    have h1 : i.size = 1 := by simpa using hsz
    simp [sizeOf, typeInfo, hq, h1]
/-- 'copy(b, s)' of a string, under a name that the walk does not lay open. -/
def copyStr (ty : TypeId) (d s : Value) : Sem Value := Builtin.copy_ #[47, 9] ty #[d, s]
@[go_sem ↓] theorem copy_copyStr (ty : TypeId) (d s : Value) : Builtin.copy_ #[47, 9] ty #[d, s] = copyStr ty d s := rfl
theorem room_parts {w : World} {b o n : Nat} (h : roomOf (w.at_ b) o n = true) : ∃ c t, w.at_ b = some (.cells c t (0, 0)) ∧ o + n ≤ c.size := by
  cases hq : w.at_ b with
  | none => rw [hq] at h; cases h
  | some ob =>
    rw [hq] at h
    cases ob with
    | cells c t f =>
      simp only [roomOf, Bool.and_eq_true, beq_iff_eq, decide_eq_true_eq] at h
      obtain ⟨rfl, hl⟩ := h
      exact ⟨c, t, rfl, hl⟩
    | _ => cases h
@[go_sem] theorem run_copyStr (ty : TypeId) (b o n c : Nat) (s : ByteArray) (w : World) (h : roomOf (w.at_ b) o n = true) :
    (copyStr ty (.slice (some ⟨b, o, none⟩) n c) (.string s)).run Try.prog w = .ok (.int .i64 ((min s.size n : Nat) : Int)) (w.put_ b o (bcells (s.data.toList.take n))) := by
  obtain ⟨cs, t, hb, hl⟩ := room_parts h
  have hlen : (bcells (s.data.toList.take n)).length ≤ n := by rw [bcells_length, List.length_take]; exact Nat.min_le_left _ _
  have hst := run_storeCells_cells (P := Try.prog) b o (bcells (s.data.toList.take n)) 0 w
    (by intro j hj; rw [cell_at, hb]; simp only [cellOf]; rw [Array.getElem?_eq_getElem (by omega)]; rfl)
    (by intro j hj; rw [frozen_at, hb]; simp [frozenOf]) (byteCells_one _)
  rw [Nat.add_zero, setCells_eq_put b _ o w cs t (0, 0) hb (by omega)] at hst
  have hcells : List.take (Nat.min s.size n) (s.data.toList.map fun x => Value.int .u8 (x.toNat : Int)) = bcells (s.data.toList.take n) := by
    unfold bcells
    rw [← List.map_take]
    congr 1
    by_cases hsn : s.size ≤ n
    · rw [show Nat.min s.size n = s.size from Nat.min_eq_left hsn, List.take_of_length_le (by rw [Array.length_toList]; exact Nat.le_refl _), List.take_of_length_le (by rw [Array.length_toList]; exact hsn)]
    · rw [show Nat.min s.size n = n from Nat.min_eq_right (by omega)]
  simp [copyStr, Builtin.copy_, run_underlying Try.underlying47, Builtin.lenOf, Builtin.firstCells, size_u8]
  simp only [← List.map_take] at hcells ⊢
  rw [hcells, hst]; rfl
theorem encDig_over (r : Dig) (d : List UInt8) : splice (encDig r) 0 (bcells (d.take 32)) = encDig (overDig r d) := by
  have hr := r.len
  unfold splice encDig overDig bcells
  simp only [List.take_zero, List.nil_append, Nat.zero_add, List.length_map, List.map_append, List.map_drop, List.length_take]
  congr 1
  by_cases h : d.length ≤ 32
  · rw [Nat.min_eq_right h]
  · rw [Nat.min_eq_left (by omega), List.drop_of_length_le (by simp; omega), List.drop_of_length_le (by simp; omega)]
@[go_sem] theorem encClaim_over (x : Claim) (d : List UInt8) : splice (encClaim x) 4 (bcells (d.take 32)) = encClaim { x with root := overDig x.root d } := by
  have := splice_sub (encClaim_root x) (j := 0) (q := bcells (d.take 32)) (by rw [bcells_length, List.length_take]; omega) (by rw [encClaim_length]; omega)
  rw [Nat.add_zero] at this
  rw [this, encDig_over, encClaim_put_root]
/-- Nothing is handed back; the cells at p are these now; all else lies as it lay. -/
def ResSet (p : Nat) (o : Obj) (w : World) (e : Ending) (w' : World) : Prop := (∃ u, e = .returned u) ∧ w'.at_ p = some o ∧ Moves (· = p) w w'
theorem setCell_list {w : World} {b i : Nat} {l : List Value} {v : Value} {t : TypeId} {fr : Nat × Nat} (h : w.at_ b = some (.cells l.toArray t fr)) : (w.setCell ⟨b, i, none⟩ v).at_ b = some (.cells (l.set i v).toArray t fr) := by
  rw [at_setCell, if_pos rfl, h]
  simp [setIn]
theorem put_list {w : World} {b k : Nat} {l m : List Value} {t : TypeId} {fr : Nat × Nat} (h : w.at_ b = some (.cells l.toArray t fr)) : (w.put_ b k m).at_ b = some (.cells (splice l k m).toArray t fr) := by
  rw [at_put, if_pos rfl, h]
  rfl
set_option maxRecDepth 20000 in
set_option maxHeartbeats 2000000 in
theorem entry_GetClaim1 (p : Nat) (c : Claim) (f : Fld) (w : World) (hp : w.at_ p = some (.cells (encClaim c).toArray 31)) (hf : f.data.size ≤ 1000000000) :
    Calls Try.prog 59 #[.pointer (some ⟨p, 0, none⟩), .agg (encFld f).toArray] w (ResSet p (.cells (encClaim (takeC c f)).toArray 31) w) := by
  have hpl := at_lt hp
  have hnum : (valF f.data.data.toList).1 = numF f.data := rfl
  by_cases h1 : f.tag = 1
  · rw [show takeC c f = { c with region := numF f.data } by simp [takeC, h1]]
    go_enter Try.func59, Try.ntmps59
    go_wp2_with ((go_at_call 60; refine (entry_number _ _ hf).mono ?_; rintro e w1 ⟨rfl, hb⟩; have ha := below_rule hb; have hs := hb.size; (try simp only [World.size_alloc, World.size_setCell, size_put, World.size_drew] at hs)))
    have hp1 : w1.at_ p = some (.cells (encClaim c).toArray 31) := by (repeat' (first | assumption | exact at_alloc_new (by simp; done) | refine at_alloc_old ?_ _ | refine setCell_other (by omega) ?_ | rw [at_drew] | refine at_below (by assumption) ?_))
    go_end0
    exact ⟨⟨_, rfl⟩, by rw [setCell_list hp1, encClaim_set_region], Moves.setCell ((Moves.refl _ w).alloc _ |>.call hb) _ _ (.inl rfl)⟩
  have n1 : (f.tag == 1) = false := by simp [h1]
  by_cases h2 : f.tag = 2
  · rw [show takeC c f = { c with epoch := numF f.data } by simp [takeC, h2]]
    go_enter Try.func59, Try.ntmps59
    go_wp2_with ((go_at_call 60; refine (entry_number _ _ hf).mono ?_; rintro e w1 ⟨rfl, hb⟩; have ha := below_rule hb; have hs := hb.size; (try simp only [World.size_alloc, World.size_setCell, size_put, World.size_drew] at hs)))
    have hp1 : w1.at_ p = some (.cells (encClaim c).toArray 31) := by (repeat' (first | assumption | exact at_alloc_new (by simp; done) | refine at_alloc_old ?_ _ | refine setCell_other (by omega) ?_ | rw [at_drew] | refine at_below (by assumption) ?_))
    go_end0
    exact ⟨⟨_, rfl⟩, by rw [setCell_list hp1, encClaim_set_epoch], Moves.setCell ((Moves.refl _ w).alloc _ |>.call hb) _ _ (.inl rfl)⟩
  have n2 : (f.tag == 2) = false := by simp [h2]
  by_cases h3 : f.tag = 3
  · rw [show takeC c f = { c with node := numF f.data } by simp [takeC, h3]]
    go_enter Try.func59, Try.ntmps59
    go_wp2_with ((go_at_call 60; refine (entry_number _ _ hf).mono ?_; rintro e w1 ⟨rfl, hb⟩; have ha := below_rule hb; have hs := hb.size; (try simp only [World.size_alloc, World.size_setCell, size_put, World.size_drew] at hs)))
    have hp1 : w1.at_ p = some (.cells (encClaim c).toArray 31) := by (repeat' (first | assumption | exact at_alloc_new (by simp; done) | refine at_alloc_old ?_ _ | refine setCell_other (by omega) ?_ | rw [at_drew] | refine at_below (by assumption) ?_))
    go_end0
    exact ⟨⟨_, rfl⟩, by rw [setCell_list hp1, encClaim_set_node], Moves.setCell ((Moves.refl _ w).alloc _ |>.call hb) _ _ (.inl rfl)⟩
  have n3 : (f.tag == 3) = false := by simp [h3]
  by_cases h4 : f.tag = 4
  · rw [show takeC c f = { c with size := numF f.data } by simp [takeC, h4]]
    go_enter Try.func59, Try.ntmps59
    go_wp2_with ((go_at_call 60; refine (entry_number _ _ hf).mono ?_; rintro e w1 ⟨rfl, hb⟩; have ha := below_rule hb; have hs := hb.size; (try simp only [World.size_alloc, World.size_setCell, size_put, World.size_drew] at hs)))
    have hp1 : w1.at_ p = some (.cells (encClaim c).toArray 31) := by (repeat' (first | assumption | exact at_alloc_new (by simp; done) | refine at_alloc_old ?_ _ | refine setCell_other (by omega) ?_ | rw [at_drew] | refine at_below (by assumption) ?_))
    go_end0
    exact ⟨⟨_, rfl⟩, by rw [setCell_list hp1, encClaim_set_size], Moves.setCell ((Moves.refl _ w).alloc _ |>.call hb) _ _ (.inl rfl)⟩
  have n4 : (f.tag == 4) = false := by simp [h4]
  by_cases h5 : f.tag = 5
  · rw [show takeC c f = { c with root := overDig c.root f.data.data.toList } by simp [takeC, h5, bytesOf]]
    go_enter Try.func59, Try.ntmps59
    go_wp2
    go_region
    go_wp2
    go_end0
    exact ⟨⟨_, rfl⟩, by rw [at_drew]; exact at_alloc_old (by rw [put_list (l := encClaim c) hp, encClaim_over]) _, ((Moves.put_ (M := (· = p)) (Moves.refl _ w) p 4 _ (.inl rfl)).alloc _).drew⟩
  · have n5 : (f.tag == 5) = false := by simp [h5]
    rw [show takeC c f = c by simp [takeC, h1, h2, h3, h4, h5]]
    go_enter Try.func59, Try.ntmps59
    go_wp2
    go_end0
    exact ⟨⟨_, rfl⟩, by (repeat' (first | assumption | exact at_alloc_new (by simp; done) | refine at_alloc_old ?_ _ | refine setCell_other (by omega) ?_ | rw [at_drew] | refine at_below (by assumption) ?_)), (Moves.refl _ w).alloc _⟩
end Go.Proofs.Ytgnebofjfmbccaa
