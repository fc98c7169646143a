/-
  estreatlaw11.HistoryOld returns true at every input, and its argument reads behind the call as it read before.
-/
import Derived.Test.YtgnebofjfmbccaaM
import Derived.Test.YtgnebofjfmbccaaO
import Derived.Test.YtgnebofjfmbccaaRows
import Derived.ProofKit
import Derived.SizedLaws
set_option linter.all false
namespace Go.Proofs.Ytgnebofjfmbccaa
open Go.RowKit
open Go.ChangeShapes Go.WideShapes Go.ChangeAt
theorem ownN : ownKnob Try.prog.godebug = none := by kernel_rfl
theorem laidOutN : laidOutB Try.prog = true := by kernel_rfl
set_option maxHeartbeats 1000000 in
set_option maxRecDepth 100000 in
theorem historyOld_lifted (os : Os) (started : os.Started) (H : Type) (enc : TypeId × Value → H) :
    ReturnsInHanded {} Try.checked os 4 .any (Rows.historyOldSpec.pre6 enc Try.prog Try.f4 Rows.historyOldRow.domain false) (Rows.historyOldSpec.post enc Try.prog Try.f4 false true false false) := by
  refine returnsInHanded_of_change_sized (C := Try.checked) ownN started (by kernel_rfl) Try.func4
    (ChangeSpec.witness6 (enc := enc) (C := Try.checked) false ⟨#[], #[.slice none 0 0], []⟩ 8 (by kernel_rfl) (by kernel_rfl) (by kernel_rfl) (by kernel_rfl)) ?_
  intro W base args ds gs before hval0 hW _ hsz0 _
  have hsz : (DataW.weightsEach Try.prog (Try.f4.params.toList ++ Rows.historyOldSpec.plain.varTypes Try.prog) (ds ++ gs)).all (· ≤ reachBytes) = true := hsz0
  clear hsz0
  have hval : ∀ (j : Nat) t v, Try.f4.params[j]? = some t → args[j]? = some v → Value.okWide Try.prog W .any base t v := hval0
  have hW' := hW
  obtain ⟨p, q, hA0, hV, rfl, hfz, hnd⟩ := hW
  have hA : DataW.TrodAll enc Try.prog W 0 (fun _ => true) true Try.f4.params.toList args.toList ds p := hA0
  rw [Try.params4] at hA hval hsz
  obtain ⟨v0, d0, rfl, rfl, h0⟩ := trodAll_one hA
  obtain ⟨rfl, rfl⟩ := trodVars_none hV
  clear hA0 hval0
  simp only [List.append_nil] at hW'
  have hlt : ∀ x ∈ p, x.block < W.heap.size := fun x hx => by simpa using hW'.lt x hx
  obtain ⟨aa, len0, cap0, rfl⟩ := okWide_slice Try.underlying22 (hval 0 22 v0 rfl rfl)
  obtain ⟨a0, l, cap, hv, hsl, hlen⟩ := open_rows (t := 22) (v := .slice aa len0 cap0) (enc' := encItem) Try.underlying22 (n := 110) (by kernel_rfl) (by omega) (fun cs h => open_Item h) h0 rfl
  have hl : l.length ≤ 1000000000000 := by
    rcases hlen with h | ⟨es, sp, hd, he⟩
    · rw [h]; simp
    · subst hd
      have := sized_slice hsz (j := 0) (t := 22) (e := 35) rfl rfl Try.underlying22
      rw [show Try.prog.bytesOf 35 = 216 by kernel_rfl, he] at this
      simp only [reachBytes] at this
      omega
  rw [Value.slice.injEq] at hv
  obtain ⟨hv1, hv2, hv3⟩ := hv
  subst hv1 hv2 hv3
  refine (estreatlaw11_HistoryOld l _ _ W hsl hl).mono fun e W' ⟨he, hb⟩ => ?_
  subst he
  exact ⟨_, rfl, _, _, _, [], _, [], hW', trodAll_mk1 (shut_bool Try.underlying4 true), trodAll_mk1 (Below.trod laidOutN (by kernel_rfl) (of_decide_eq_true (by kernel_rfl)) h0 hb hlt), rfl, hb.frame _, fun h => by cases h⟩
theorem HistoryOld : Rows.HistoryOldSaid :=
  OpenClaim.holds_of_wide 4 Try.f4 rfl rfl rfl rfl rfl rfl rfl ⟨rfl, rfl, rfl, rfl, rfl⟩ rfl rfl rfl rfl rfl (by kernel_rfl) Try.func4 (by kernel_rfl)
    (of_decide_eq_true (by kernel_rfl)) (by unfold Func.isWrapper; first | (rw [if_pos (by decide +kernel)]; kernel_rfl) | (rw [if_neg (by decide +kernel)]; exact ⟨rfl, rfl⟩))
    (fun os started H enc _ => historyOld_lifted os started H enc)
end Go.Proofs.Ytgnebofjfmbccaa
