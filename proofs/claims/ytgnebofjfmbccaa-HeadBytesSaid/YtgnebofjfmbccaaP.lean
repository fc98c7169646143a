/-
  Bytes: what a slice of bytes holds; its string; numbers as bytes.
-/
import Derived.Test.YtgnebofjfmbccaaV
import Derived.Test.YtgnebofjfmbccaaS
import Derived.Laws.IdiomStrings
set_option linter.all false
namespace Go.Proofs.Ytgnebofjfmbccaa
open Go.RowKit
def encB (b : UInt8) : List Value := [.int .u8 b.toNat]
theorem encB_length (b : UInt8) : (encB b).length = 1 := rfl
theorem encB_one (b : UInt8) : ∀ v ∈ encB b, v.oneCell' = true := by intro v hv; simp only [encB, List.mem_singleton] at hv; subst hv; rfl
/-- The cells of bytes. -/
def bcells (l : List UInt8) : List Value := l.map fun b => .int .u8 b.toNat
theorem bcells_length (l : List UInt8) : (bcells l).length = l.length := by simp [bcells]
@[go_sem] theorem ln_bcells (l : List UInt8) : ln (bcells l) = l.length := bcells_length l
def strOf (l : List UInt8) : ByteArray := ⟨l.toArray⟩
theorem strOf_size (l : List UInt8) : (strOf l).size = l.length := by simp [strOf, ByteArray.size]
theorem strOf_inj {l m : List UInt8} (h : strOf l = strOf m) : l = m := by
  have := congrArg (fun s : ByteArray => s.data.toList) h
  simpa [strOf] using this
/-- The bytes that cells hold. -/
def bval : Value → UInt8
  | .int _ n => UInt8.ofNat n.toNat
  | _ => 0
def bytesIn (cs : List Value) : List UInt8 := cs.map bval
@[go_sem] theorem bytesIn_bcells (l : List UInt8) : bytesIn (bcells l) = l := by
  simp only [bytesIn, bcells, List.map_map]
  conv => rhs; rw [← List.map_id l]
  apply List.map_congr_left
  intro b _
  simp [bval]
/-- A slice's cells are these bytes. -/
def BytesAt (w : World) (a : Option Addr) (l : List UInt8) : Prop := SliceAt encB 1 w a l
theorem BytesAt.row {w : World} {a : Option Addr} {l : List UInt8} (h : BytesAt w a l) (hl : 0 < l.length) : ∃ b o, a = some ⟨b, o, none⟩ ∧ b < w.heap.size ∧ rowOf (w.at_ b) o l.length = some (bcells l) := by
  rcases h with h | ⟨b, o, rfl, hb, h⟩
  · rw [h] at hl; simp at hl
  refine ⟨b, o, rfl, hb, ?_⟩
  have each : ∀ i (hi : i < l.length), cellOf (w.at_ b) (o + i) = some (.int .u8 l[i].toNat) := fun i hi => by
    have := rowOf_cell (h i _ (List.getElem?_eq_getElem hi)) 0 (by omega)
    simpa [encB] using this
  have h0 := each (l.length - 1) (by omega)
  cases ho : w.at_ b with
  | none => rw [ho] at h0; simp [cellOf] at h0
  | some ob =>
    cases ob with
    | cells c t f =>
      rw [ho] at h0 each
      simp only [cellOf] at h0 each
      have hlt := (Array.getElem?_eq_some_iff.1 h0).1
      simp only [rowOf]
      rw [if_pos (by omega)]
      congr 1
      apply List.ext_getElem?
      intro i
      by_cases hi : i < l.length
      · have := each i hi
        rw [seg_eq, List.getElem?_take_of_lt hi, List.getElem?_drop, Array.getElem?_toList, this]
        simp [bcells, hi]
      · rw [List.getElem?_eq_none (by simp [seg]; omega), List.getElem?_eq_none (by simp [bcells]; omega)]
    | _ => rw [ho] at h0; simp [cellOf] at h0
theorem BytesAt.of_row {w : World} {b o : Nat} {l : List UInt8} (h : rowOf (w.at_ b) o l.length = some (bcells l)) (hb : b < w.heap.size) : BytesAt w (some ⟨b, o, none⟩) l := by
  refine .inr ⟨b, o, rfl, hb, fun i x hx => ?_⟩
  have hi := (List.getElem?_eq_some_iff.1 hx).1
  have := rowOf_sub h (p := i) (m := 1) (by omega)
  rw [Nat.mul_one, this]
  have hx' : l[i] = x := by rw [List.getElem?_eq_getElem hi] at hx; exact Option.some.inj hx
  congr 1
  simp only [seg, bcells, encB]
  rw [List.drop_eq_getElem_cons (by simpa using hi)]
  simp [hx']
/-- 'string(b)'. -/
theorem run_str {P : Program} {src dst e : TypeId} (hs : P.underlying src = some (.slice e)) (he : P.underlying e = some (.int .u8)) (hd : P.underlying dst = some .string) (w : World) (a : Option Addr) (cap : Nat) (l : List UInt8) (h : BytesAt w a l) :
    (convert src dst (.slice a l.length cap)).run P w = .ok (.string (strOf l)) w := by
  cases a with
  | none =>
    rcases h with h | ⟨b, o, e, _⟩
    · subst h
      show (convert src dst (.slice none 0 cap)).run P w = _
      rw [run_convert_bytes_string w src dst e none 0 cap hs he hd]
      simp [Conv.bytesToString, strOf]; rfl
    · cases e
  | some a =>
    refine run_convert_bytes_back w src dst e a cap l hs he hd ?_
    intro j hj
    rcases h with h | ⟨b, o, e, hb, h⟩
    · rw [h] at hj; simp at hj
    · cases e
      have := rowOf_cell (h j _ (List.getElem?_eq_getElem hj)) 0 (by omega)
      rw [Addr.add_mid, cell_at]
      simpa [encB] using this

def byteOk : Value → Bool
  | .int .u8 n => decide (0 ≤ n) && decide (n < 256)
  | _ => false
@[go_sem] theorem bytesOk_bcells (l : List UInt8) : (bcells l).all byteOk = true := by
  simp only [bcells, List.all_map, List.all_eq_true, Function.comp]
  intro b _
  have := b.toNat_lt
  simp [byteOk]; omega
theorem byteOk_val {v : Value} (h : byteOk v = true) : v = .int .u8 (bval v).toNat := by
  unfold byteOk at h
  split at h
  · rename_i n
    simp only [Bool.and_eq_true, decide_eq_true_eq] at h
    simp only [bval, UInt8.toNat_ofNat', Nat.reducePow]
    rw [Nat.mod_eq_of_lt (by omega)]
    congr 1; omega
  · cases h
theorem bcells_of {cs : List Value} (h : cs.all byteOk = true) : cs = bcells (bytesIn cs) := by
  simp only [bcells, bytesIn, List.map_map]
  conv => lhs; rw [← List.map_id cs]
  apply List.map_congr_left
  intro v hv
  exact byteOk_val (List.all_eq_true.1 h v hv)
def strConv (v : Value) : Sem Value := convert 47 9 v
@[go_sem ↓] theorem convert_str (v : Value) : convert 47 9 v = strConv v := rfl
noncomputable def strRes (b o n c : Nat) (r : Option (List Value)) (w : World) : Result Value :=
  match r with
  | some cs => if cs.all byteOk then .ok (.string (strOf (bytesIn cs))) w else (strConv (.slice (some ⟨b, o, none⟩) n c)).run Try.prog w
  | none => (strConv (.slice (some ⟨b, o, none⟩) n c)).run Try.prog w
@[go_sem] theorem strRes_some (b o n c : Nat) (cs : List Value) (w : World) (h : cs.all byteOk = true) : strRes b o n c (some cs) w = .ok (.string (strOf (bytesIn cs))) w := by simp [strRes, h]
@[go_sem] theorem run_strConv (w : World) (b o n c : Nat) : (strConv (.slice (some ⟨b, o, none⟩) n c)).run Try.prog w = strRes b o n c (rowOf (w.at_ b) o n) w := by
  unfold strRes
  split
  · rename_i cs hr
    split
    · rename_i hok
      have hl := rowOf_length hr
      rw [bcells_of hok] at hr
      have hn : n = (bytesIn cs).length := by rw [← hl]; simp [bytesIn]
      rw [hn] at hr ⊢
      by_cases h0 : 0 < (bytesIn cs).length
      · refine run_str Try.underlying47 Try.underlying5 Try.underlying9 w _ c _ (BytesAt.of_row hr ?_)
        cases ho : w.at_ b with
        | none => rw [ho] at hr; cases hr
        | some ob => exact at_lt ho
      · have : bytesIn cs = [] := List.eq_nil_of_length_eq_zero (by omega)
        rw [this]
        exact run_str Try.underlying47 Try.underlying5 Try.underlying9 w _ c [] (.inl rfl)
    · rfl
  · rfl
@[go_sem] theorem run_strConv_nil (w : World) (c : Nat) : (strConv (.slice none 0 c)).run Try.prog w = .ok (.string (strOf [])) w :=
  run_str Try.underlying47 Try.underlying5 Try.underlying9 w none c [] (.inl rfl)
def numL (n : Nat) : List UInt8 := if n = 0 then [] else numL (n / 256) ++ [UInt8.ofNat (n % 256)]
theorem numL_zero : numL 0 = [] := by rw [numL]; rfl
theorem numL_pos {n : Nat} (h : 0 < n) : numL n = numL (n / 256) ++ [UInt8.ofNat (n % 256)] := by rw [numL, if_neg (by omega)]
@[go_sem] theorem seg_full (l : List Value) (n : Nat) (h : ln l = n) : seg l 0 n = l := by subst h; rw [ln_eq, seg_eq, List.drop_zero, List.take_length]
theorem byteOk_mod (m : Nat) : byteOk (.int .u8 ((m : Int) % 256)) = true := by
  simp only [byteOk, Bool.and_eq_true, decide_eq_true_eq]; omega
theorem bytes_one (m : Nat) : bytesIn [.int .u8 ((m : Int) % 256)] = [UInt8.ofNat (m % 256)] := by
  simp only [bytesIn, List.map_cons, List.map_nil, bval]
  congr 1
theorem strOf_append (l m : List UInt8) : strOf l ++ strOf m = strOf (l ++ m) := by
  apply ByteArray.ext
  simp [strOf]
theorem numL_len : ∀ (k n : Nat), n < 256 ^ k → (numL n).length ≤ k := by
  intro k
  induction k with
  | zero => intro n h; have : n = 0 := by simpa using h
            subst this; rw [numL_zero]; exact Nat.le_refl _
  | succ k ih =>
    intro n h
    by_cases h0 : n = 0
    · subst h0; rw [numL_zero]; simp
    · rw [numL_pos (by omega), List.length_append, List.length_singleton]
      have := ih (n / 256) (Nat.div_lt_of_lt_mul (by rw [Nat.pow_succ, Nat.mul_comm] at h; exact h))
      omega
theorem numL_len8 {n : Int} (h0 : 0 ≤ n) (h : n ≤ 4611686018427387903) : (numL n.toNat).length ≤ 8 := numL_len 8 _ (by omega)
end Go.Proofs.Ytgnebofjfmbccaa
