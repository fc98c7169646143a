/-
  A range over a function whose iterator keeps state of its own in cells: the law for the caller, and the iterator's contract.
-/
import Derived.Test.YtgnebofjfmbccaaB
import Derived.RangeFuncNested
import Derived.RangeFuncBound
import Derived.RangeFuncCalls
import Derived.RangeFuncLeaves
import Derived.Shelf.Abstract
import Derived.OwnWalkIn
import Derived.TacticsInMore
import Derived.LoopNIn
import Derived.LoopIn
import Derived.Sort.BigQuietIn
set_option linter.all false
namespace Go.Proofs.Ytgnebofjfmbccaa
open Go.RowKit
/-- From W to W' nothing has turned but the blocks of M, and new ones. -/
structure Moves (M : Nat → Prop) (W W' : World) : Prop where
  os : W'.os = W.os
  tape : W'.tape = W.tape
  output : W'.output = W.output
  size : W.heap.size ≤ W'.heap.size
  block : ∀ k, k < W.heap.size → ¬ M k → W'.heap[k]? = W.heap[k]?
theorem Moves.refl (M : Nat → Prop) (W : World) : Moves M W W := ⟨rfl, rfl, rfl, Nat.le_refl _, fun _ _ _ => rfl⟩
theorem Moves.trans {M : Nat → Prop} {A B C : World} (h : Moves M A B) (k : Moves M B C) : Moves M A C :=
  ⟨k.os.trans h.os, k.tape.trans h.tape, k.output.trans h.output, Nat.le_trans h.size k.size, fun j hj hm => (k.block j (Nat.lt_of_lt_of_le hj h.size) hm).trans (h.block j hj hm)⟩
theorem Moves.mono {M M' : Nat → Prop} {A B : World} (h : Moves M A B) (hM : ∀ k, M k → M' k) : Moves M' A B := ⟨h.os, h.tape, h.output, h.size, fun k hk hm => h.block k hk (fun e => hm (hM k e))⟩
theorem Moves.of_below {M : Nat → Prop} {A B : World} (h : Below A.heap.size A B) : Moves M A B := ⟨h.os, h.tape, h.output, h.size, fun k hk _ => h.block k hk⟩
theorem Moves.alloc {M : Nat → Prop} {A B : World} (h : Moves M A B) (o : Obj) : Moves M A (B.alloc o) := h.trans (Moves.of_below ((Below.refl _ B).alloc (Nat.le_refl _) o))
theorem Moves.drew {M : Nat → Prop} {A B : World} (h : Moves M A B) : Moves M A B.drew := ⟨h.os, h.tape, h.output, h.size, h.block⟩
theorem Moves.setCell {M : Nat → Prop} {A B : World} (h : Moves M A B) (a : Addr) (v : Value) (ha : M a.block ∨ A.heap.size ≤ a.block) : Moves M A (B.setCell a v) :=
  ⟨h.os, h.tape, h.output, by rw [World.size_setCell]; exact h.size, fun k hk hm => by
    rw [Below.heap_setCell B a v k (fun e => ha.elim (fun ha => hm (e ▸ ha)) (fun ha => by omega))]; exact h.block k hk hm⟩
theorem Moves.put_ {M : Nat → Prop} {A B : World} (h : Moves M A B) (b k : Nat) (m : List Value) (hb : M b ∨ A.heap.size ≤ b) : Moves M A (B.put_ b k m) :=
  ⟨h.os, h.tape, h.output, by rw [size_put]; exact h.size, fun j hj hm => by
    have := at_put B b k j m
    rw [if_neg (fun (e : j = b) => hb.elim (fun hb => hm (e.symm ▸ hb)) (fun hb => by omega))] at this
    exact this.trans (h.block j hj hm)⟩
theorem Moves.call {M : Nat → Prop} {A B C : World} (h : Moves M A B) (hb : Below B.heap.size B C) : Moves M A C := h.trans (Moves.of_below hb)
theorem Moves.putObj {M : Nat → Prop} {A B : World} (h : Moves M A B) (r : Nat) (o : Obj) (hr : M r ∨ A.heap.size ≤ r) : Moves M A (B.putObj r o) :=
  ⟨h.os, h.tape, h.output, by rw [World.putObj_size]; exact h.size, fun k hk hm => by
    rw [World.putObj_heap_other (show k ≠ r from fun e => hr.elim (fun hr => hm (e.symm ▸ hr)) (fun hr => by omega))]; exact h.block k hk hm⟩
theorem Moves.below {M : Nat → Prop} {w A B : World} (h : Moves M A B) (hw : Below w.heap.size w A) (hM : ∀ k, M k → w.heap.size ≤ k) : Below w.heap.size w B :=
  ⟨h.os.trans hw.os, h.tape.trans hw.tape, h.output.trans hw.output, Nat.le_trans hw.size h.size, fun k hk => (h.block k (Nat.lt_of_lt_of_le hk hw.size) (fun e => by have := hM k e; omega)).trans (hw.block k hk)⟩
theorem moves_rule {M : Nat → Prop} [DecidablePred M] {A B : World} (h : Moves M A B) (n : Nat) : B.at_ n = if M n then B.atS n else if n < A.heap.size then A.at_ n else B.atS n := by
  split
  · rfl
  · rename_i hm
    split
    · rename_i hn; exact h.block n hn hm
    · rfl
@[go_sem] theorem at_putObj (w : World) (r k : Nat) (o : Obj) : (w.putObj r o).at_ k = if k = r then (if r < w.heap.size then some o else none) else w.at_ k := by
  simp only [World.at_, World.putObj, Array.getElem?_setIfInBounds]
  split
  · rename_i h; subst h; simp
  · rename_i h; rw [if_neg (fun e => h e.symm)]
@[simp, go_sem] theorem size_putObj (w : World) (r : Nat) (o : Obj) : (w.putObj r o).heap.size = w.heap.size := World.putObj_size

/-- J speaks of no block of M. -/
def Abide {β : Type} (M : Nat → Prop) (J : β → World → Prop) : Prop := ∀ s W W', J s W → Moves M W W' → J s W'
/-- THE ITERATOR's CONTRACT: it hands xs on, one by one, till there are no more or the body wants no more; between two of them it may turn the blocks of M, and new ones. -/
def SeqM {α : Type} (P : Program) (g : Nat) (lb : Array Value) (encs : α → Array Value) (M : Nat → Prop) (Kp : World → World → Prop) (xs : List α) (w : World) : Prop :=
  ∀ (l : Nat) (J Jx : List α → World → Prop) (W : World), Below w.heap.size w W → Abide M J → Abide M Jx →
    (∀ pre x W1, J pre W1 → pre ++ [x] <+: xs → YieldAt Fence.wide 3 P l (encs x) W1 fun e W' =>
      (e = .returned (.bool true) ∧ J (pre ++ [x]) W' ∧ Kp W1 W') ∨ (e = .returned (.bool false) ∧ Jx (pre ++ [x]) W')) →
    J [] W →
    CallsIn Fence.wide 4 P g (#[.func (.yield l) #[] #[]] ++ lb) W fun e W' => (∃ v, e = .returned v) ∧ (J xs W' ∨ ∃ pre, pre <+: xs ∧ Jx pre W')
/-- HOW A ROUND's BODY MAY BE LEFT. (D: w's size: the block for deferred calls, and the loop's record behind it, lie as they lay.) -/
def roundEndM {α : Type} (D : Nat) (Kp : World → World → Prop) (I : List α → World → Prop) (Ix : Code → List α → World → Prop) (xs : List α) (W W₂ : World) : Exit → Act → World → Prop
  | .normal, _, W' => W'.at_ D = W₂.at_ D ∧ W'.at_ (D + 1) = W₂.at_ (D + 1) ∧ Kp W W' ∧ I xs W'
  | .ret, _, W' => W'.at_ D = W₂.at_ D ∧ W'.at_ (D + 1) = W₂.at_ (D + 1) ∧ Ix .ret xs W'
  | .exit id, _, W' => W'.at_ D = W₂.at_ D ∧ W'.at_ (D + 1) = W₂.at_ (D + 1) ∧ Ix (.exit id) xs W'
  | .goto t, _, W' => W'.at_ D = W₂.at_ D ∧ W'.at_ (D + 1) = W₂.at_ (D + 1) ∧ Ix (.goto t) xs W'
  | .panic _, _, _ => False
  | .outgrown, _, _ => False
/-- A ROUND HAS BEGUN: its variables are laid; the loop's record is turned to 'busy'; the body runs. -/
def Begun {α : Type} (P : Program) (body : Code) (D : Nat) (Kp : World → World → Prop) (I : List α → World → Prop) (Ix : Code → List α → World → Prop) (xs : List α) (W : World) (a₁ : Act) (W₁ : World) : Prop :=
  W₁.at_ D = W.at_ D ∧ W₁.at_ (D + 1) = W.at_ (D + 1) ∧ D + 1 < W₁.heap.size ∧
    ∀ W₂, Moves (· = D + 1) W₁ W₂ → (∀ {V : World}, Kp W₂ V → Kp W₁ V) → W₂.heap.size = W₁.heap.size → body.wpIn (Fence.wide.inRound (D + 1)) 3 P (roundEndM D Kp I Ix xs W W₂) a₁ W₂
theorem wp_range {α : Type} {P : Program} {g : Operand} {ps : Array Tmp} {assign body : Code} {Q : Exit → Act → World → Prop} {a : Act} {w : World}
    (gf : Nat) (lb : Array Value) (hg : a.eval g = .func (.func gf) #[] lb) (eg : Enters P gf) {encs : α → Array Value} {M : Nat → Prop} {Kp : World → World → Prop} {xs : List α}
    (hseq : SeqM P gf lb encs M Kp xs w) (hM : ∀ k, M k → k < w.heap.size) (hKt : ∀ {A B C : World}, Kp A B → Kp B C → Kp A C) (hKb : ∀ (W : World) (o : Obj), Kp W (W.putObj (w.heap.size + 1) o)) (hps : ∀ x, (encs x).size = ps.size)
    (I : List α → World → Prop) (Ix : Code → List α → World → Prop) (hI : Abide (fun k => M k ∨ k = w.heap.size ∨ k = w.heap.size + 1) I) (hIx : ∀ c, Abide (fun k => M k ∨ k = w.heap.size ∨ k = w.heap.size + 1) (Ix c)) (h0 : I [] w)
    (hround : ∀ pre x W, I pre W → w.heap.size + 1 < W.heap.size → pre ++ [x] <+: xs →
      assign.wpIn (Fence.wide.inRound (w.heap.size + 1)) 3 P (Exit.then (Begun P body w.heap.size Kp I Ix (pre ++ [x]) W) (fun _ _ _ => False))
        { tmps := (ps.zip (encs x)).foldl (fun t (p, v) => t.setIfInBounds p v) a.tmps, defers := [] } W)
    (hdone : ∀ (W : World), I xs W → w.heap.size + 1 < W.heap.size → W.at_ w.heap.size = some (.deferred (some [])) → Q .normal { a with defers := { target := .collected w.heap.size, args := #[] } :: a.defers } W)
    (hstop : ∀ (c : Code) (pre : List α) (W : World), pre <+: xs → Ix c pre W → w.heap.size + 1 < W.heap.size → W.at_ w.heap.size = some (.deferred (some [])) → c.wpIn Fence.wide 5 P Q { a with defers := { target := .collected w.heap.size, args := #[] } :: a.defers } W) :
    (Code.rangeFunc g ps assign body).wpIn Fence.wide 5 P Q a w := by
  refine wpIn_rangeFunc ?_
  intro fn hfn
  rw [Fence.wide_round]
  obtain ⟨rec, hrec⟩ : ∃ rec : LoopState → Option Code → Loop, rec = fun st pe => { state := st, pending := pe, fn, tmps := a.tmps, params := ps, assign, body, defers := w.heap.size } := ⟨_, rfl⟩
  obtain ⟨W1, hW1⟩ : ∃ W1, (w.alloc (.deferred (some []))).alloc (.loop (rec .ready none)) = W1 := ⟨_, rfl⟩
  have hL1 : W1.at_ (w.heap.size + 1) = some (.loop (rec .ready none)) := by
    rw [← hW1, at_alloc, if_pos (by simp)]
  have hK1 : W1.at_ w.heap.size = some (.deferred (some [])) := by
    rw [← hW1, at_alloc, if_neg (by simp), at_alloc, if_pos rfl]
  have hs1 : w.heap.size + 1 < W1.heap.size := by rw [← hW1]; simp
  have hb1 : Below w.heap.size w W1 := by rw [← hW1]; exact below_alloc (below_alloc (Below.refl _ w) _) _
  have hI1 : I [] W1 := hI _ _ _ h0 (Moves.of_below hb1)
  refine ⟨w.heap.size + 1, [{ target := .collected w.heap.size, args := #[] }], W1, { target := .fn (.func gf) lb, args := #[.func (.yield (w.heap.size + 1)) #[] #[]] }, W1, gf,
    #[.func (.yield (w.heap.size + 1)) #[] #[]] ++ lb, W1, ?_, ?_, ?_, ?_, fun _ => by omega, ?_⟩
  · rw [← hW1, hrec]; exact run_enterLoop_outer _ _ _ _ _
  · simp only [resolve, hg]
    simp [go_sem]
  · intro f' hf'; trivial
  · simp [invoke, go_sem, eg _ _]
  · have hmM : ∀ {A B : World}, Moves M A B → Moves (fun k => M k ∨ k = w.heap.size ∨ k = w.heap.size + 1) A B := fun h => h.mono (fun k hk => .inl hk)
    have keepM : ∀ {A B : World} (k : Nat), w.heap.size ≤ k → k < A.heap.size → Moves M A B → B.at_ k = A.at_ k := fun k h1 h2 h => h.block k h2 (fun e => by have := hM k e; omega)
    refine (hseq (w.heap.size + 1)
      (fun pre W => I pre W ∧ w.heap.size + 1 < W.heap.size ∧ W.at_ (w.heap.size + 1) = some (.loop (rec .ready none)) ∧ W.at_ w.heap.size = some (.deferred (some [])))
      (fun pre W => ∃ c, Ix c pre W ∧ w.heap.size + 1 < W.heap.size ∧ W.at_ (w.heap.size + 1) = some (.loop (rec .done (some c))) ∧ W.at_ w.heap.size = some (.deferred (some [])))
      W1 hb1
      (fun s A B hs hm => ⟨hI s A B hs.1 (hmM hm), Nat.lt_of_lt_of_le hs.2.1 hm.size, (keepM _ (by omega) hs.2.1 hm).trans hs.2.2.1, (keepM _ (by omega) (by have := hs.2.1; omega) hm).trans hs.2.2.2⟩)
      (fun s A B hs hm => by
        obtain ⟨c, h1, h2, h3, h4⟩ := hs
        exact ⟨c, hIx c s A B h1 (hmM hm), Nat.lt_of_lt_of_le h2 hm.size, (keepM _ (by omega) h2 hm).trans h3, (keepM _ (by omega) (by omega) hm).trans h4⟩)
      ?_ ⟨hI1, hs1, hL1, hK1⟩).mono ?_
    · rintro pre x W ⟨hi, hlt, hl, hk⟩ hpre
      have hy := run_yield (P := P) (args := encs x) (w := W) hl (by rw [hrec]; exact hps x)
      rw [hrec] at hy
      refine ⟨fn, _, assign, body, hy, roundIn_of_wpIn hfn (wpIn_mono (hround pre x W hi hlt hpre) ?_)⟩
      intro e a₁ W₁ hp
      cases e with
      | normal =>
        obtain ⟨h1, h2, h3, h4⟩ := hp
        have hl1 : W₁.heap[w.heap.size + 1]? = some (.loop (rec .ready none)) := h2.trans hl
        have hk1 : W₁.at_ w.heap.size = some (.deferred (some [])) := h1.trans hk
        refine ⟨_, run_beginRound hl1 (by rw [hrec]), ?_⟩
        have hlb : (W₁.putObj (w.heap.size + 1) (.loop { rec .ready none with state := .busy })).at_ (w.heap.size + 1) = some (.loop { rec .ready none with state := .busy }) := by
          rw [at_putObj, if_pos rfl, if_pos h3]
        have hkb : (W₁.putObj (w.heap.size + 1) (.loop { rec .ready none with state := .busy })).at_ w.heap.size = some (.deferred (some [])) := by
          rw [at_putObj, if_neg (by omega)]; exact hk1
        refine wpIn_mono (h4 _ (Moves.putObj (Moves.refl _ W₁) _ _ (.inl rfl)) (fun h => hKt (hKb W₁ _) h) (by simp)) ?_
        have fin : ∀ (jump : Option Code) (W3 : World), W3.at_ (w.heap.size + 1) = some (.loop { rec .ready none with state := .busy }) → W3.at_ w.heap.size = some (.deferred (some [])) →
            (Instr.endRound (w.heap.size + 1) jump).run P W3 = .ok (.bool jump.isNone) (W3.putObj (w.heap.size + 1) (.loop (rec (if jump.isNone then .ready else .done) jump))) ∧
            w.heap.size + 1 < (W3.putObj (w.heap.size + 1) (.loop (rec (if jump.isNone then .ready else .done) jump))).heap.size ∧
            (W3.putObj (w.heap.size + 1) (.loop (rec (if jump.isNone then .ready else .done) jump))).at_ (w.heap.size + 1) = some (.loop (rec (if jump.isNone then .ready else .done) jump)) ∧
            (W3.putObj (w.heap.size + 1) (.loop (rec (if jump.isNone then .ready else .done) jump))).at_ w.heap.size = some (.deferred (some [])) := fun jump W3 h5 h6 => by
          have hlt3 : w.heap.size + 1 < W3.heap.size := (Array.getElem?_eq_some_iff.1 h5).1
          have := run_endRound (P := P) (w := W3) jump h5
          rw [hrec] at this ⊢
          exact ⟨this, by simpa using hlt3, by rw [at_putObj, if_pos rfl, if_pos hlt3], by rw [at_putObj, if_neg (by omega)]; exact h6⟩
        have mv : ∀ (W3 : World) (o : Obj), Moves (fun k => M k ∨ k = w.heap.size ∨ k = w.heap.size + 1) W3 (W3.putObj (w.heap.size + 1) o) := fun W3 o => Moves.putObj (Moves.refl _ W3) _ _ (.inl (.inr (.inr rfl)))
        rintro e a3 W3 hp
        cases e with
        | normal =>
          obtain ⟨h5, h6, hkp, hi3⟩ := hp
          obtain ⟨hr, hs3, hl3, hk3⟩ := fin none W3 (h6.trans hlb) (h5.trans hkb)
          exact ⟨_, _, hr, .inl ⟨rfl, ⟨hI _ _ _ hi3 (mv W3 _), hs3, hl3, hk3⟩, hKt hkp (hKb W3 _)⟩⟩
        | ret =>
          obtain ⟨h5, h6, hi3⟩ := hp
          obtain ⟨hr, hs3, hl3, hk3⟩ := fin (some .ret) W3 (h6.trans hlb) (h5.trans hkb)
          exact ⟨_, _, hr, .inr ⟨rfl, .ret, hIx _ _ _ _ hi3 (mv W3 _), hs3, hl3, hk3⟩⟩
        | exit id =>
          obtain ⟨h5, h6, hi3⟩ := hp
          obtain ⟨hr, hs3, hl3, hk3⟩ := fin (some (.exit id)) W3 (h6.trans hlb) (h5.trans hkb)
          exact ⟨_, _, hr, .inr ⟨rfl, .exit id, hIx _ _ _ _ hi3 (mv W3 _), hs3, hl3, hk3⟩⟩
        | goto t =>
          obtain ⟨h5, h6, hi3⟩ := hp
          obtain ⟨hr, hs3, hl3, hk3⟩ := fin (some (.goto t)) W3 (h6.trans hlb) (h5.trans hkb)
          exact ⟨_, _, hr, .inr ⟨rfl, .goto t, hIx _ _ _ _ hi3 (mv W3 _), hs3, hl3, hk3⟩⟩
        | panic ch => exact hp.elim
        | outgrown => exact hp.elim
      | _ => exact hp.elim
    · rintro e W2 ⟨⟨v, rfl⟩, (⟨hi, hlt, hl, hk⟩ | ⟨pre, hpre, c, hi, hlt, hl, hk⟩)⟩
      · have := run_endLoop (P := P) (w := W2) hl (by rw [hrec]; simp)
        rw [hrec] at this
        exact ⟨none, _, this, hdone _ (hI _ _ _ hi (Moves.putObj (Moves.refl _ W2) _ _ (.inl (.inr (.inr rfl))))) (by simpa using hlt) (by rw [at_putObj, if_neg (by omega)]; exact hk)⟩
      · have := run_endLoop (P := P) (w := W2) hl (by rw [hrec]; simp)
        rw [hrec] at this
        exact ⟨some c, _, this, hstop c pre _ hpre (hIx _ _ _ _ hi (Moves.putObj (Moves.refl _ W2) _ _ (.inl (.inr (.inr rfl))))) (by simpa using hlt) (by rw [at_putObj, if_neg (by omega)]; exact hk)⟩
/-- The function's return, the loop's mark among its deferred calls. -/
theorem leaves_mark {P : Program} {fn : Func} {tmps : Array Value} {R : Ending → World → Prop} {W : World} {D : Nat} {v : Value} (hD : W.at_ D = some (.deferred (some [])))
    (hr : (results fn tmps).run P (W.putObj D (.deferred none)) = .ok v (W.putObj D (.deferred none))) (hR : R (.returned v) (W.putObj D (.deferred none))) :
    LeavesInM Fence.wide 5 P fn tmps R [{ target := .collected D, args := #[] }] .returning W :=
  ⟨by simp, .inl ⟨D, _, rfl, run_takeDeferred hD, ⟨v, hr, hR⟩⟩⟩
theorem leaves_none {P : Program} {fn : Func} {tmps : Array Value} {R : Ending → World → Prop} {W : World} {v : Value} (hr : (results fn tmps).run P W = .ok v W) (hR : R (.returned v) W) :
    LeavesInM Fence.wide 5 P fn tmps R [] .returning W := ⟨v, hr, hR⟩
theorem wpIn_region_ext {F : Fence} {n : Nat} {P : Program} {id : Nat} {Q : Exit → Act → World → Prop} {a : Act} {w : World} {l : List Oper} (hro : F.round = none) (hm : P.follows .mixedOrders = true) (hB : Region.lexB .any l.toArray = true)
    (h : wpQuietIn F n P l.toArray (fun w' => ∃ x : Ext w, w' = x.w) (fun a' => ∀ w', (∃ x : Ext w, w' = x.w) → Q .normal a' w') l a) : (Code.region id l.toArray true).wpIn F n P Q a w :=
  wpIn_region_quiet (C := fun w' => ∃ x : Ext w, w' = x.w) hro hm hB ⟨⟨{ w with drawn := w.drawn + 1 }, (Below.refl _ w).drew⟩, rfl⟩ (by simpa using h)
end Go.Proofs.Ytgnebofjfmbccaa
