/-
  A row of fields, laid one by one.
-/
import Derived.Test.YtgnebofjfmbccaaPf
set_option linter.all false
namespace Go.Proofs.Ytgnebofjfmbccaa
open Go.RowKit
/-- The slice in the cell p has grown by a field. -/
def ResPut (p B : Nat) (l : List Fld) (w : World) (e : Ending) (w' : World) : Prop :=
  (∃ u, e = .returned u) ∧ ∃ v', w'.at_ p = some (.cells #[v'] 85) ∧ OwnSl encFld 2 96 w' B v' l ∧ Moves (fun k => k = p ∨ B ≤ k) w w'
theorem info_Fld : (Try.prog.info? 96).map (fun i => (i.zero, i.size, i.bytes)) = some (some (.agg (encFld Fld.zero).toArray), 2, 24) := by kernel_rfl
theorem sizeOnly_Fld : (Try.prog.info? 96).map (·.size) = some 2 := by kernel_rfl
theorem zeroIs_Fld : ((Try.prog.info? 96).bind (·.zero)).isSome = true := by kernel_rfl
@[go_sem ↓] theorem buildSlice_flds (n : Nat) (ps : Array (Nat × Value)) : Instr.buildSlice 85 n ps = buildSl 85 n ps := rfl
@[go_sem] theorem run_buildSl1_flds (w : World) (x : Fld) : (buildSl 85 1 #[(0, .agg (encFld x).toArray)]).run Try.prog w = .ok (.slice (some ⟨w.heap.size, 0, none⟩) 1 1) (w.alloc (.cells (rowsOf encFld [x]).toArray 96)) :=
  run_buildRows encFld_length w [x] 1 rfl _ rfl Try.underlying85 sizeOnly_Fld zeroIs_Fld (by omega) (by omega)
theorem OwnSl.setCell {α : Type} {enc : α → List Value} {n E : Nat} {w : World} {B : Nat} {v : Value} {l : List α} (h : OwnSl enc n E w B v l) (a : Addr) (u : Value) (ha : a.block < B) : OwnSl enc n E (w.setCell a u) B v l := by
  rcases h with ⟨h1, h2 | ⟨g, c, cur, e1, hg, hh, rest⟩⟩
  · exact ⟨h1, .inl h2⟩
  · exact ⟨h1, .inr ⟨g, c, cur, e1, hg, by rw [Below.heap_setCell _ _ _ _ (by omega)]; exact hh, rest⟩⟩
theorem Moves.grown {M : Nat → Prop} {A B C : World} {row : Option Nat} (h : Moves M A B) (hg : B.grownBy C row) (hr : ∀ k, row = some k → M k ∨ A.heap.size ≤ k) : Moves M A C :=
  ⟨hg.os.trans h.os, hg.tape.trans h.tape, hg.output.trans h.output, Nat.le_trans h.size hg.size, fun k hk hm => (hg.block k (Nat.lt_of_lt_of_le hk h.size) (fun e => (hr k e.symm).elim hm (fun h' => by omega))).trans (h.block k hk hm)⟩
set_option maxRecDepth 20000 in
set_option maxHeartbeats 1000000 in
theorem entry_s (p B : Nat) (tag : Int) (d : ByteArray) (v : Value) (l : List Fld) (w : World) (hp : w.at_ p = some (.cells #[v] 85)) (hown : OwnSl encFld 2 96 w B v l) (hpB : p < B) (hB : B ≤ w.heap.size) (hl : l.length ≤ 1000) :
    Calls Try.prog 52 #[.pointer (some ⟨p, 0, none⟩), .int .i64 tag, .string d] w (ResPut p B (l ++ [⟨tag, d⟩]) w) := by
  have hlt := at_lt hp
  go_enter Try.func52, Try.ntmps52
  go_wp2_with (at_builtin; refine wpList_app (enc := encFld) rfl _ _ 85 rfl B 96 _ 2 24 Try.underlying85 info_Fld rfl (by omega) encFld_length encFld_one v l rfl (hown.alloc _) _ 1 [⟨tag, d⟩] rfl (sliceAt_rows encFld_length (at_alloc_new rfl)) (by simp; omega) (by simp; omega) (by simp; omega) ?_; intro v' w' hown' hg' hk'; have hpw : w'.at_ p = some (.cells #[v] 85) := (hg'.block p (by simp; omega) (fun e => by have := (hown.block p e.symm).1; omega)).trans (at_alloc_old hp _); obtain ⟨a', cap', rfl, hsl', hcap', hblk'⟩ := hown'.slice encFld_length; have hpl := at_lt hpw)
  go_end0
  exact ⟨⟨_, rfl⟩, _, setCell_same hpw, OwnSl.setCell (by simpa using hown') _ _ hpB, Moves.setCell (Moves.grown ((Moves.refl _ w).alloc _) hg' (fun k hk => .inl (.inr (hown.block k hk).1))) _ _ (.inl (.inl rfl))⟩
set_option maxRecDepth 20000 in
set_option maxHeartbeats 1000000 in
theorem entry_n (p B : Nat) (tag n : Int) (v : Value) (l : List Fld) (w : World) (hp : w.at_ p = some (.cells #[v] 85)) (hown : OwnSl encFld 2 96 w B v l) (hpB : p < B) (hB : B ≤ w.heap.size) (hl : l.length ≤ 1000) :
    Calls Try.prog 51 #[.pointer (some ⟨p, 0, none⟩), .int .i64 tag, .int .i64 n] w (ResPut p B (l ++ [⟨tag, strOf (numB n)⟩]) w) := by
  go_enter Try.func51, Try.ntmps51
  go_wp2_with (first | (go_at_call 91; refine (pack_Number _ _).mono ?_; rintro e w1 ⟨rfl, hb⟩; have ha := below_rule hb; have hs := hb.size; (try simp only [World.size_alloc, World.size_setCell, size_put, World.size_drew] at hs)) | (go_at_call 52; refine (entry_s p B _ _ v l _ (at_below hb hp) (hown.kept hb) hpB (Nat.le_trans hB hb.size) hl).mono ?_; rintro e w2 ⟨⟨u, rfl⟩, v', h1, h2, h3⟩))
  go_end0
  exact ⟨⟨_, rfl⟩, v', h1, h2, (Moves.of_below hb).trans h3⟩
end Go.Proofs.Ytgnebofjfmbccaa
