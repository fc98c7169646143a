/-
  estreatlaw11.HistoryMay returns true at every input, and each argument reads behind the call as it read before.
-/
import Derived.Test.YtgnebofjfmbccaaJ
import Derived.Test.YtgnebofjfmbccaaO
import Derived.Test.YtgnebofjfmbccaaRows
import Derived.ProofKit
import Derived.SizedLaws
set_option linter.all false
namespace Go.Proofs.Ytgnebofjfmbccaa
open Go.RowKit
open Go.ChangeShapes Go.WideShapes Go.ChangeAt
theorem ownK : ownKnob Try.prog.godebug = none := by kernel_rfl
theorem laidOut : laidOutB Try.prog = true := by kernel_rfl
set_option maxHeartbeats 1000000 in
set_option maxRecDepth 100000 in
theorem historyMay_lifted (os : Os) (started : os.Started) (H : Type) (enc : TypeId × Value → H) :
    ReturnsInHanded {} Try.checked os 3 .any (Rows.historyMaySpec.pre6 enc Try.prog Try.f3 Rows.historyMayRow.domain false) (Rows.historyMaySpec.post enc Try.prog Try.f3 false true false false) := by
  refine returnsInHanded_of_change_sized (C := Try.checked) ownK started (by kernel_rfl) Try.func3
    (ChangeSpec.witness6 (enc := enc) (C := Try.checked) false ⟨#[], #[.slice none 0 0, .int .i64 0, .int .i64 0, .agg (encItem Item.zero).toArray], []⟩ 8 (by kernel_rfl) (by kernel_rfl) (by kernel_rfl) (by kernel_rfl)) ?_
  intro W base args ds gs before hval0 hW _ hsz0 _
  have hsz : (DataW.weightsEach Try.prog (Try.f3.params.toList ++ Rows.historyMaySpec.plain.varTypes Try.prog) (ds ++ gs)).all (· ≤ reachBytes) = true := hsz0
  clear hsz0
  have hval : ∀ (j : Nat) t v, Try.f3.params[j]? = some t → args[j]? = some v → Value.okWide Try.prog W .any base t v := hval0
  have hW' := hW
  obtain ⟨p, q, hA0, hV, rfl, hfz, hnd⟩ := hW
  have hA : DataW.TrodAll enc Try.prog W 0 (fun _ => true) true Try.f3.params.toList args.toList ds p := hA0
  rw [Try.params3] at hA hval hsz
  obtain ⟨v0, v1, v2, v3, d0, d1, d2, d3, p0, p1, p2, p3, rfl, rfl, rfl, h0, h1, h2, h3⟩ := trodAll_four hA
  obtain ⟨rfl, rfl⟩ := trodVars_none hV
  clear hA0 hval0
  simp only [List.append_nil] at hW'
  have hlt : ∀ x ∈ p0 ++ p1 ++ p2 ++ p3, x.block < W.heap.size := fun x hx => by simpa using hW'.lt x hx
  obtain ⟨aa, len0, cap0, rfl⟩ := okWide_slice Try.underlying22 (hval 0 22 v0 rfl rfl)
  obtain ⟨a0, l, cap, hv, hsl, hlen⟩ := open_rows (t := 22) (v := .slice aa len0 cap0) (enc' := encItem) Try.underlying22 (n := 110) (by kernel_rfl) (by omega) (fun cs h => open_Item h) h0 rfl
  have hl : l.length ≤ 1000000000000 := by
    rcases hlen with h | ⟨es, sp, hd, he⟩
    · rw [h]; simp
    · subst hd
      have := sized_slice hsz (j := 0) (t := 22) (e := 35) rfl rfl Try.underlying22
      rw [show Try.prog.bytesOf 35 = 216 by kernel_rfl, he] at this
      simp only [reachBytes] at this
      omega
  rw [Value.slice.injEq] at hv
  obtain ⟨hv1, hv2, hv3⟩ := hv
  subst hv1 hv2 hv3
  obtain ⟨c, rfl⟩ := okWide_int Try.underlying3 (hval 1 3 v1 rfl rfl)
  obtain ⟨s, rfl⟩ := okWide_int Try.underlying3 (hval 2 3 v2 rfl rfl)
  obtain ⟨cs, rfl, hcs⟩ := okWide_struct Try.underlying35 (hval 3 35 v3 rfl rfl)
  obtain ⟨x, hx⟩ := open_Item (rd_of_trod h3)
  have hx' : cs = (encItem x).toArray := by
    have : cs.toList = encItem x := hx
    rw [← this]
  subst hx'
  have trod : ∀ {t : TypeId} {v : Value} {d : DataW H} {p : List MemPlace}, Try.prog.readableRec t = true → t < Try.prog.types.size → ∀ (W' : World), Below W.heap.size W W' → DataW.Trod enc Try.prog W 0 (fun _ => true) true t v d p → (∀ x ∈ p, x.block < W.heap.size) → DataW.Trod enc Try.prog W' 0 (fun b => decide (b < W.heap.size)) true t v d p :=
    fun h1 h2 W' hb h hl => Below.trod laidOut h1 h2 h hb hl
  refine (estreatlaw11_HistoryMay l _ _ c s x W hsl hl).mono fun e W' ⟨he, hb⟩ => ?_
  subst he
  refine ⟨_, rfl, _, _, _, [], _, [], hW', trodAll_mk1 (shut_bool Try.underlying4 true), trodAll_mk4 (trod (by kernel_rfl) (of_decide_eq_true (by kernel_rfl)) W' hb h0 (fun x hx => hlt x (by simp [hx]))) (trod (by kernel_rfl) (of_decide_eq_true (by kernel_rfl)) W' hb h1 (fun x hx => hlt x (by simp [hx])))
    (trod (by kernel_rfl) (of_decide_eq_true (by kernel_rfl)) W' hb h2 (fun x hx => hlt x (by simp [hx]))) (trod (by kernel_rfl) (of_decide_eq_true (by kernel_rfl)) W' hb h3 (fun x hx => hlt x (by simp [hx]))), rfl, hb.frame _, fun h => by cases h⟩
theorem HistoryMay : Rows.HistoryMaySaid :=
  OpenClaim.holds_of_wide 3 Try.f3 rfl rfl rfl rfl rfl rfl rfl ⟨rfl, rfl, rfl, rfl, rfl⟩ rfl rfl rfl rfl rfl (by kernel_rfl) Try.func3 (by kernel_rfl)
    (of_decide_eq_true (by kernel_rfl)) (by unfold Func.isWrapper; first | (rw [if_pos (by decide +kernel)]; kernel_rfl) | (rw [if_neg (by decide +kernel)]; exact ⟨rfl, rfl⟩))
    (fun os started H enc _ => historyMay_lifted os started H enc)
end Go.Proofs.Ytgnebofjfmbccaa
