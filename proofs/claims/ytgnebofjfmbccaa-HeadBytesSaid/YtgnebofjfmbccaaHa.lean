/-
  A head's row of texts, laid.
-/
import Derived.Test.YtgnebofjfmbccaaPn
set_option linter.all false
namespace Go.Proofs.Ytgnebofjfmbccaa
open Go.RowKit
/-- The slice in the cell p, of the type t, has grown by a text. -/
def ResPutR (p B : Nat) (l : List (List UInt8)) (w : World) (e : Ending) (w' : World) : Prop :=
  (∃ u, e = .returned u) ∧ ∃ v', w'.at_ p = some (.cells #[v'] 100) ∧ OwnSl encS 1 9 w' B v' l ∧ Moves (fun k => k = p ∨ B ≤ k) w w'
theorem info_str : (Try.prog.info? 9).map (fun i => (i.zero, i.size, i.bytes)) = some (some (.string ⟨#[]⟩), 1, 16) := by kernel_rfl
theorem encS_one (d : List UInt8) : ∀ v ∈ encS d, v.oneCell' = true := by intro v hv; simp only [encS, List.mem_singleton] at hv; subst hv; rfl
set_option maxRecDepth 20000 in
set_option maxHeartbeats 1000000 in
theorem head_s (p B : Nat) (d : List UInt8) (v : Value) (l : List (List UInt8)) (w : World) (hp : w.at_ p = some (.cells #[v] 100)) (hown : OwnSl encS 1 9 w B v l) (hpB : p < B) (hB : B ≤ w.heap.size) (hl : l.length ≤ 1000000) :
    Calls Try.prog 62 #[.pointer (some ⟨p, 0, none⟩), .string (strOf d)] w (ResPutR p B (l ++ [d]) w) := by
  have hlt := at_lt hp
  go_enter Try.func62, Try.ntmps62
  go_wp2_with (at_builtin; refine wpList_app (enc := encS) rfl _ _ 100 rfl B 9 _ 1 16 Try.underlying100 info_str rfl (by omega) encS_length encS_one v l rfl (hown.alloc _) _ 1 [d] rfl (sliceAt_rows (xs := [d]) encS_length (t := 9) (fr := (0, 0)) (at_alloc_new rfl)) (by simp; omega) (by simp; omega) (by simp; omega) ?_; intro v' w' hown' hg' hk'; have hpw : w'.at_ p = some (.cells #[v] 100) := (hg'.block p (by simp; omega) (fun e => by have := (hown.block p e.symm).1; omega)).trans (at_alloc_old hp _); obtain ⟨a', cap', rfl, hsl', hcap', hblk'⟩ := hown'.slice encS_length; have hpl := at_lt hpw)
  go_end0
  exact ⟨⟨_, rfl⟩, _, setCell_same hpw, OwnSl.setCell (by simpa using hown') _ _ hpB, Moves.setCell (Moves.grown ((Moves.refl _ w).alloc _) hg' (fun k hk => .inl (.inr (hown.block k hk).1))) _ _ (.inl (.inl rfl))⟩
set_option maxRecDepth 20000 in
set_option maxHeartbeats 1000000 in
theorem head_n (p B : Nat) (n : Int) (v : Value) (l : List (List UInt8)) (w : World) (hp : w.at_ p = some (.cells #[v] 100)) (hown : OwnSl encS 1 9 w B v l) (hpB : p < B) (hB : B ≤ w.heap.size) (hl : l.length ≤ 1000000) :
    Calls Try.prog 61 #[.pointer (some ⟨p, 0, none⟩), .int .i64 n] w (ResPutR p B (l ++ [numB n]) w) := by
  have hlt := at_lt hp
  go_enter Try.func61, Try.ntmps61
  go_wp2_with (first | (go_at_call 91; refine (pack_Number _ _).mono ?_; rintro e w1 ⟨rfl, hb⟩; have ha := below_rule hb; have hs := hb.size; (try simp only [World.size_alloc, World.size_setCell, size_put, World.size_drew] at hs)) | (at_builtin; have hp1 := at_below hb hp; have hown1 := hown.kept hb; refine wpList_app (enc := encS) rfl _ _ 100 rfl B 9 _ 1 16 Try.underlying100 info_str rfl (by omega) encS_length encS_one v l rfl (hown1.alloc _) _ 1 [numB n] rfl (sliceAt_rows (xs := [numB n]) encS_length (t := 9) (fr := (0, 0)) (at_alloc_new rfl)) (by simp; omega) (by simp; omega) (by simp; omega) ?_; intro v' w' hown' hg' hk'; have hpw : w'.at_ p = some (.cells #[v] 100) := (hg'.block p (by simp; omega) (fun e => by have := (hown.block p e.symm).1; omega)).trans (at_alloc_old hp1 _); obtain ⟨a', cap', rfl, hsl', hcap', hblk'⟩ := hown'.slice encS_length; have hpl := at_lt hpw))
  go_end0
  exact ⟨⟨_, rfl⟩, _, setCell_same hpw, OwnSl.setCell (by simpa using hown') _ _ hpB, Moves.setCell (Moves.grown ((Moves.of_below hb).alloc _) hg' (fun k hk => .inl (.inr (hown.block k hk).1))) _ _ (.inl (.inl rfl))⟩
@[go_sem ↓] theorem buildSlice_fld' (n : Nat) (ps : Array (Nat × Value)) : Instr.buildSlice 84 n ps = buildSl 84 n ps := rfl
@[go_sem] theorem run_buildSl1_fld' (w : World) (x : Fld) : (buildSl 84 1 #[(0, .agg (encFld x).toArray)]).run Try.prog w = .ok (.slice (some ⟨w.heap.size, 0, none⟩) 1 1) (w.alloc (.cells (rowsOf encFld [x]).toArray 96)) :=
  run_buildRows encFld_length w [x] 1 rfl _ rfl Try.underlying84 sizeOnly_Fld zeroIs_Fld (by omega) (by omega)
theorem fldsFrom_append (l : List (List UInt8)) (d : List UInt8) : ∀ k, fldsFrom k (l ++ [d]) = fldsFrom k l ++ [⟨((k + l.length : Nat) : Int) + 1, strOf d⟩] := by
  induction l with
  | nil => intro k; rfl
  | cons x r ih =>
    intro k
    simp only [List.cons_append, fldsFrom, ih (k + 1), List.length_cons]
    rw [show k + 1 + r.length = k + (r.length + 1) by omega]
theorem fldsFrom_length (l : List (List UInt8)) : ∀ k, (fldsFrom k l).length = l.length := by
  induction l with
  | nil => intro k; rfl
  | cons x r ih => intro k; simp [fldsFrom, ih]
set_option maxRecDepth 20000 in
set_option maxHeartbeats 2000000 in
theorem head_bytes (p : Nat) (l : List (List UInt8)) (a : Option Addr) (cap : Nat) (w : World) (hp : w.at_ p = some (.cells #[.slice a l.length cap] 100)) (h : SliceAt encS 1 w a l) (hl : l.length ≤ 200) :
    Calls Try.prog 63 #[.pointer (some ⟨p, 0, none⟩)] w (ResB (layA [] 0 (fldsFrom 0 l)).1 w) := by
  go_enter Try.func63, Try.ntmps63
  go_wp2
  go_loopw [3, 12] (fun v i wr => ∃ (k : Nat), k ≤ l.length ∧ i = .int .i64 k ∧ OwnSl encFld 2 96 wr w.heap.size v (fldsFrom 0 (l.take k)) ∧ Below w.heap.size w wr) (fun _ i _ => l.length - (intOf i).toNat)
  case atStart => exact ⟨0, Nat.zero_le _, rfl, OwnSl.nil _ _ _ _ _, Below.refl _ _⟩
  case round =>
    obtain ⟨k, hk, rfl, hown, hb0⟩ := hrel
    have hfl := fldsFrom_length (l.take k) 0
    have hsz := hb0.size
    rw [List.length_take] at hfl
    by_cases hlt : k < l.length
    · obtain ⟨b, off, ha, hbl, hrow⟩ := (h.below hb0).get hlt
      subst ha
      have c0 : cellOf (wr.at_ b) (off + k * 1) = some (.string (strOf l[k])) := by have := rowOf_cell hrow 0 (by omega); simpa [encS] using this
      have c1 : cellOf (wr.at_ b) (off + k) = some (.string (strOf l[k])) := by rw [Nat.mul_one] at c0; exact c0
      go_wp2_with (at_builtin; refine wpList_app (enc := encFld) rfl _ _ 84 rfl w.heap.size 96 _ 2 24 Try.underlying84 info_Fld rfl (by omega) encFld_length encFld_one _ _ rfl (hown.alloc _) _ 1 [⟨(k : Int) + 1, strOf l[k]⟩] rfl (sliceAt_rows encFld_length (at_alloc_new rfl)) (by simp; omega) (by simp; omega) (by simp; omega) ?_; intro v' w' hown' hg' hk')
      go_roundw
      case rel =>
        refine ⟨k + 1, by omega, by go_num, ?_, below_grown (below_alloc hb0 _) hg' (fun j hj => (hown.block j hj).1)⟩
        rw [List.take_succ_eq_append_getElem hlt, fldsFrom_append]
        rw [List.length_take, Nat.min_eq_left hk, Nat.zero_add]
        exact hown'
      case measure => simp [intOf]; omega
    · have hkl : k = l.length := by omega
      subst hkl
      rw [List.take_length] at hown
      obtain ⟨av, capv, rfl, hslv, hcv, hbv⟩ := hown.slice encFld_length
      go_wp2_with (go_at_call 92; refine (pack_Lay _ _ _ _ hslv (by rw [fldsFrom_length]; omega)).mono ?_; rintro e w1 ⟨v1, rfl, hown1, hb⟩; have ha := below_rule hb; have hs := hb.size; (try simp only [World.size_alloc, World.size_setCell, size_put, World.size_drew] at hs))
      go_ret
      exact ⟨_, rfl, (OwnSl.base hown1.sl hsz).b, by (repeat' (first | exact Below.refl _ _ | assumption | refine below_drew ?_ | refine below_drewN ?_ _ | refine below_alloc ?_ _ | refine below_call ?_ (by assumption) | refine below_put ?_ _ _ _ (by first | omega | (simp; omega)) | refine below_setCell ?_ _ _ (by first | (simp; omega) | (simp; done) | omega) | refine below_putObj ?_ _ _ (by first | omega | (simp; omega) | (simp; done))))⟩
end Go.Proofs.Ytgnebofjfmbccaa
