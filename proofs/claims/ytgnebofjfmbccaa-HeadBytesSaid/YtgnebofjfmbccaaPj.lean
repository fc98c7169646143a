/-
  pack.put.
-/
import Derived.Test.YtgnebofjfmbccaaPi
set_option linter.all false
namespace Go.Proofs.Ytgnebofjfmbccaa
open Go.RowKit
set_option maxRecDepth 20000 in
set_option maxHeartbeats 2000000 in
theorem pack_put (B : Nat) (v : Value) (acc : List UInt8) (tag : Int) (d : List UInt8) (w : World) (hown : OwnB w B v acc) (hB : B ≤ w.heap.size) (hd : d.length ≤ 65536) (hacc : acc.length ≤ 1000000000) :
    Calls Try.prog 110 #[v, .agg (encFld ⟨tag, strOf d⟩).toArray] w (ResApp B v (acc ++ fieldB tag d) w) := by
  have hsz : (strOf d).size = d.length := strOf_size d
  go_enter Try.func110, Try.ntmps110
  go_wp2_with fail
  generalize hW : World.alloc w _ = W
  have rT : W.at_ w.heap.size = some (.cells (encFld ⟨tag, strOf d⟩).toArray 96) := by rw [← hW]; exact at_alloc_new rfl
  have hownW : OwnB W B v acc := by rw [← hW]; exact (OwnSl.alloc hown.sl _).b
  have hsW : w.heap.size < W.heap.size := by rw [← hW]; simp
  have hmW : Moves (fun k => v.ownBlock = some k) w W := by rw [← hW]; exact (Moves.refl _ w).alloc _
  have hob := hown.sl.block
  clear hW
  go_region_held3 (fun w' => w'.at_ w.heap.size = some (.cells (encFld ⟨tag, strOf d⟩).toArray 96))
    ((first | ((repeat' (first | assumption | exact at_alloc_new (by simp; done) | refine at_alloc_old ?_ _ | refine setCell_other (by omega) ?_ | rw [at_drew] | refine at_below (by assumption) ?_)); done) | exact (hg1.block _ (by simp; omega) (fun e => by have := (hob _ e.symm).2; omega)).trans (at_alloc_old (by assumption) _) | exact (hg2.block _ (by omega) (fun e => by rcases hk1 with hk1 | hk1 <;> rw [hk1] at e <;> first | (have := (hob _ e.symm).2; omega) | (simp at e; omega))).trans (by assumption)))
    ((first | (refine step_app (enc := encB) (by rfl) _ _ 47 (by rfl) B 5 _ 1 1 Try.underlying47 info_u8 rfl (by omega) encB_length encB_one v acc (by rfl) (OwnSl.alloc (OwnSl.drew hownW.sl) _) _ 4 (headB tag d.length) (by rfl) (sliceAt_rows encB_length (t := 5) (fr := (0, 0)) (by rw [← head_rows]; exact at_alloc_new rfl)) (by simp [headB]; omega) (by simp [headB]; omega) (by simp; omega) ?_; intro v1 w1 hown1 hg1 hk1; have hs1 := hg1.size; (try simp only [World.size_alloc, World.size_drew] at hs1)) | (refine step_appStr (by rfl) _ _ (by rfl) B v1 (acc ++ headB tag d.length) (by rfl) hown1.b d (by rfl) (by simp [headB]; omega) (by omega) ?_; intro v2 w2 hown2 hg2)))
  all_goals
    go_wp2
    go_ret
    refine ⟨_, rfl, by rw [fieldB, ← List.append_assoc]; exact hown2, ?_⟩
    have m1 := Moves.grown (((hmW.drew)).alloc _) hg1 (fun k hk => .inl hk)
    exact Moves.grown m1 hg2 (fun k hk => by
      rcases hk1 with hk1 | hk1
      · exact .inl (hk1 ▸ hk)
      · rw [hk1] at hk
        simp at hk
        exact .inr (by omega))
theorem pack_put_fld (B : Nat) (v : Value) (acc : List UInt8) (f : Fld) (w : World) (hown : OwnB w B v acc) (hB : B ≤ w.heap.size) (hd : f.data.size ≤ 65536) (hacc : acc.length ≤ 1000000000) :
    Calls Try.prog 110 #[v, .agg (encFld f).toArray] w (ResApp B v (acc ++ fieldB f.tag f.data.data.toList) w) :=
  pack_put B v acc f.tag f.data.data.toList w hown hB (by rw [Array.length_toList]; exact hd) hacc
end Go.Proofs.Ytgnebofjfmbccaa
