/-
  The plain law of HistoryOld: a log grown by what May lets in.
-/
import Derived.Test.YtgnebofjfmbccaaG
import Derived.Test.YtgnebofjfmbccaaV
set_option linter.all false
namespace Go.Proofs.Ytgnebofjfmbccaa
open Go.RowKit
/-- What May lets in, of the first items. -/
def growBy (all : List Item) (x : Item) : List Item := if mayErr all x = 0 then all ++ [x] else all
def grow (all l : List Item) : List Item := l.foldl growBy all
structure Grew (all : List Item) : Prop where
  ok : logOk all = true
  inc : ∀ (i j : Nat) (x y : Item), all[i]? = some x → all[j]? = some y → i < j → x.entry.kind = 1 → y.entry.kind = 1 → x.entry.client = y.entry.client → x.entry.seq < y.entry.seq
theorem Grew.nil : Grew [] := ⟨by decide, fun i j x y h => by simp at h⟩
def lastEp : Int → List Item → Int
  | e, [] => e
  | _, y :: r => lastEp y.epoch r
theorem okFrom_append (l : List Item) (x : Item) : ∀ e, okFrom e (l ++ [x]) = (okFrom e l && (x.ok && decide (lastEp e l ≤ x.epoch))) := by
  induction l with
  | nil => intro e; simp only [List.nil_append, okFrom, lastEp, Bool.and_true, Bool.true_and]; rfl
  | cons y r ih =>
    intro e
    simp only [List.cons_append, okFrom, ih, lastEp, Bool.and_assoc]; rfl
theorem lastEp_get (l : List Item) : ∀ e, lastEp e l = (l.getLast?.map (·.epoch)).getD e := by
  induction l with
  | nil => intro e; rfl
  | cons y r ih =>
    intro e
    rw [lastEp, ih]
    cases r with
    | nil => rfl
    | cons z r => rw [List.getLast?_cons_cons, List.getLast?_eq_getElem?, List.getElem?_eq_getElem (by simp)]; rfl
theorem lastEpoch_get (l : List Item) : lastEpoch l = lastEp 0 l := by
  by_cases h : 0 < l.length
  · rw [lastEpoch_of h, lastEp_get, List.getLast?_eq_getElem?, List.getElem?_eq_getElem (by omega)]; rfl
  · have : l = [] := List.eq_nil_of_length_eq_zero (by omega)
    subst this; rfl
theorem mayErr_zero {l : List Item} {x : Item} (h : mayErr l x = 0) : logOk l = true ∧ x.ok = true ∧ lastEpoch l ≤ x.epoch ∧ l.length < 2000 ∧ (x.entry.kind = 1 → ∀ y ∈ l, y.entry.kind = 1 → y.entry.client = x.entry.client → y.entry.seq < x.entry.seq) := by
  unfold mayErr at h
  split at h
  · omega
  rename_i h1
  split at h
  · omega
  rename_i h2
  split at h
  · omega
  rename_i h3
  split at h
  · omega
  rename_i h4
  simp only [Bool.not_eq_true', Bool.not_eq_false, Bool.and_eq_true, Bool.not_eq_true, decide_eq_true_eq] at h1 h2 h3 h4
  simp at h1 h2 h3 h4
  refine ⟨h1.1, h1.2, h2, h3, fun hk y hy hy1 hy2 => ?_⟩
  have := h4 hk y hy
  unfold isOld at this
  simp [hy1, hy2] at this
  exact this
theorem Grew.add {all : List Item} (h : Grew all) (x : Item) : Grew (growBy all x) := by
  unfold growBy
  split
  case isFalse => exact h
  rename_i hm
  obtain ⟨h1, h2, h3, h4, h5⟩ := mayErr_zero hm
  refine ⟨?_, ?_⟩
  · unfold logOk at h1 ⊢
    simp only [Bool.and_eq_true, decide_eq_true_eq] at h1 ⊢
    rw [lastEpoch_get] at h3
    exact ⟨by rw [okFrom_append, h1.1, h2, decide_eq_true h3]; rfl, by simp; omega⟩
  · intro i j a b ha hb hij ka kb hc
    have hj : j < all.length + 1 := by have := (List.getElem?_eq_some_iff.1 hb).1; simpa using this
    rw [List.getElem?_append_left (by omega)] at ha
    by_cases hj2 : j < all.length
    · rw [List.getElem?_append_left hj2] at hb
      exact h.inc i j a b ha hb hij ka kb hc
    · have : j = all.length := by omega
      subst this
      simp at hb
      subst hb
      exact h5 kb a (List.mem_of_getElem? ha) ka hc
theorem Grew.length {all : List Item} (h : Grew all) : all.length ≤ 2000 := logOk_len h.ok
theorem okFrom_mem : ∀ (l : List Item) (e : Int), okFrom e l = true → ∀ x ∈ l, x.ok = true := by
  intro l
  induction l with
  | nil => intro e _ x hx; simp at hx
  | cons y r ih =>
    intro e h x hx
    simp only [okFrom, Bool.and_eq_true] at h
    rcases List.mem_cons.1 hx with rfl | hx
    · exact h.1.1
    · exact ih _ h.2 x hx
theorem Item.ok_user {x : Item} (h : x.ok = true) (hk : x.entry.kind = 1) : 1 ≤ x.entry.client ∧ x.entry.client ≤ 3 ∧ 1 ≤ x.entry.seq := by
  unfold Item.ok at h
  simp only [Bool.and_eq_true] at h
  have := h.2
  unfold Entry.ok at this
  rw [if_pos hk] at this
  simp only [Entry.okU, inR, Bool.and_eq_true, decide_eq_true_eq] at this
  exact ⟨this.1.1.1.1, this.1.1.1.2, this.1.1.2.1⟩
def lastSeq (c : Int) (l : List Item) : Int := l.foldl (fun m x => if x.entry.kind = 1 ∧ x.entry.client = c then x.entry.seq else m) 0
theorem lastSeq_snoc (c : Int) (l : List Item) (x : Item) : lastSeq c (l ++ [x]) = if x.entry.kind = 1 ∧ x.entry.client = c then x.entry.seq else lastSeq c l := by simp [lastSeq]
theorem lastSeq_from (c : Int) (l : List Item) : ∀ m : Int, l.foldl (fun m x => if x.entry.kind = 1 ∧ x.entry.client = c then x.entry.seq else m) m = m ∨ ∃ x ∈ l, x.entry.kind = 1 ∧ x.entry.client = c ∧ l.foldl (fun m x => if x.entry.kind = 1 ∧ x.entry.client = c then x.entry.seq else m) m = x.entry.seq := by
  induction l with
  | nil => intro m; exact .inl rfl
  | cons y r ih =>
    intro m
    simp only [List.foldl_cons]
    split
    · rename_i h
      rcases ih y.entry.seq with h' | ⟨x, h1, h2, h3, h4⟩
      · exact .inr ⟨y, by simp, h.1, h.2, h'⟩
      · exact .inr ⟨x, by simp [h1], h2, h3, h4⟩
    · rcases ih m with h' | ⟨x, h1, h2, h3, h4⟩
      · exact .inl h'
      · exact .inr ⟨x, by simp [h1], h2, h3, h4⟩
theorem lastSeq_lt {all : List Item} (h : Grew all) {k : Nat} (hk : k < all.length) (hu : all[k].entry.kind = 1) : lastSeq all[k].entry.client (all.take k) < all[k].entry.seq := by
  have hok := Item.ok_user (okFrom_mem all 0 (by have := h.ok; unfold logOk at this; simp only [Bool.and_eq_true] at this; exact this.1) _ (List.getElem_mem hk)) hu
  rcases lastSeq_from all[k].entry.client (all.take k) 0 with h0 | ⟨x, h1, h2, h3, h4⟩
  · unfold lastSeq; rw [h0]; omega
  · unfold lastSeq; rw [h4]
    obtain ⟨i, hi, rfl⟩ := List.mem_iff_getElem.1 h1
    have hik : i < k := by simp at hi; omega
    rw [List.getElem_take] at h2 h3 ⊢
    exact h.inc i k _ _ (List.getElem?_eq_getElem (by omega)) (List.getElem?_eq_getElem hk) hik h2 hu h3
theorem take_snoc {l : List Item} {k : Nat} (hk : k < l.length) : l.take (k + 1) = l.take k ++ [l[k]] := by rw [List.take_add_one, List.getElem?_eq_getElem hk]; rfl
theorem posFrom_at (p : Item → Bool) : ∀ (l : List Item) (j k : Nat) (hk : k < l.length), p l[k] = true → (∀ i, (hi : i < k) → p (l[i]'(by omega)) = false) → posFrom p j l = some (j + k) := by
  intro l
  induction l with
  | nil => intro j k hk; simp at hk
  | cons x r ih =>
    intro j k hk hp hn
    cases k with
    | zero => simp only [List.getElem_cons_zero] at hp; simp [posFrom, hp]
    | succ k =>
      have h0 := hn 0 (by omega)
      simp only [List.getElem_cons_zero] at h0
      simp only [List.getElem_cons_succ] at hp
      simp only [posFrom, h0, Bool.false_eq_true, if_false]
      rw [ih (j + 1) k (by simpa using hk) hp (fun i hi => by have := hn (i + 1) (by omega); simpa using this)]
      congr 1; omega
theorem find_self {all : List Item} (h : Grew all) {k : Nat} (hk : k < all.length) (hu : all[k].entry.kind = 1) : posFrom (isSeq all[k].entry.client all[k].entry.seq) 0 all = some k := by
  rw [posFrom_at _ all 0 k hk (by simp [isSeq, hu]) ?_, Nat.zero_add]
  intro i hi
  by_cases h1 : all[i].entry.kind = 1 ∧ all[i].entry.client = all[k].entry.client
  · have := h.inc i k _ _ (List.getElem?_eq_getElem (by omega)) (List.getElem?_eq_getElem hk) hi h1.1 hu h1.2
    have hne : ¬ all[i].entry.seq = all[k].entry.seq := by omega
    simp [isSeq, hne]
  · simp only [not_and] at h1
    by_cases h2 : all[i].entry.kind = 1
    · simp [isSeq, h1 h2]
    · simp [isSeq, h2]
theorem grow_snoc (all l : List Item) (x : Item) : grow all (l ++ [x]) = growBy (grow all l) x := by simp [grow]
theorem grew_take (l : List Item) : ∀ k, Grew (grow [] (l.take k)) := by
  intro k
  induction k with
  | zero => simpa [grow] using Grew.nil
  | succ k ih =>
    by_cases hk : k < l.length
    · rw [take_snoc hk, grow_snoc]; exact ih.add _
    · rwa [List.take_of_length_le (by omega), ← List.take_of_length_le (i := k) (l := l) (by omega)]
end Go.Proofs.Ytgnebofjfmbccaa
