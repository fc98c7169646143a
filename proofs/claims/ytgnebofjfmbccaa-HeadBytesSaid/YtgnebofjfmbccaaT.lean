/-
  The program's structs as Lean structures; their cells in memory; reading and writing a part of them.
-/
import Derived.WalkKit
import Derived.WalkSpells
import Derived.WalkLawsBesides
set_option linter.all false
namespace Go.Proofs.Ytgnebofjfmbccaa
open Go.RowKit

/-- A list's length, under a name that no simp rule but ours knows. -/
def ln (l : List Value) : Nat := l.length
theorem ln_eq (l : List Value) : ln l = l.length := rfl
@[go_sem] theorem ln_nil : ln [] = 0 := rfl
@[go_sem] theorem ln_cons (v : Value) (l : List Value) : ln (v :: l) = ln l + 1 := rfl
@[go_sem] theorem ln_append (l m : List Value) : ln (l ++ m) = ln l + ln m := List.length_append
/-! ### Lists: a part in the middle -/
def seg (l : List Value) (k n : Nat) : List Value := (l.drop k).take n
theorem seg_eq (l : List Value) (k n : Nat) : seg l k n = (l.drop k).take n := rfl
def splice (l : List Value) (k : Nat) (m : List Value) : List Value := l.take k ++ (m ++ l.drop (k + m.length))
theorem get_mid (A B : List Value) (v : Value) {k : Nat} (h : A.length = k) : (A ++ (v :: B))[k]? = some v := by
  subst h; simp
theorem set_mid (A B : List Value) (v u : Value) {k : Nat} (h : A.length = k) : (A ++ (v :: B)).set k u = A ++ (u :: B) := by
  subst h; simp
theorem sub_mid (A B C : List Value) {k n : Nat} (h : A.length = k) (h' : B.length = n) : seg (A ++ (B ++ C)) k n = B := by
  subst h; subst h'; simp [seg]
theorem splice_mid (A B C B' : List Value) {k : Nat} (h : A.length = k) (h' : B'.length = B.length) : splice (A ++ (B ++ C)) k B' = A ++ (B' ++ C) := by
  subst h
  simp only [splice, List.take_left', h']
  congr 2
  rw [← List.append_assoc]
  exact List.drop_left' (by simp)
theorem sub_sub {l m q : List Value} {k n j p : Nat} (h : seg l k n = m) (h' : seg m j p = q) (hjp : j + p ≤ n) : seg l (k + j) p = q := by
  subst h; subst h'
  unfold seg
  rw [List.drop_take, List.drop_drop, List.take_take, Nat.min_eq_left (by omega)]
theorem get_sub {l m : List Value} {k n j : Nat} {v : Value} (h : seg l k n = m) (h' : m[j]? = some v) (hj : j < n) : l[k + j]? = some v := by
  subst h
  unfold seg at h'
  rw [List.getElem?_take_of_lt hj, List.getElem?_drop] at h'
  exact h'
theorem splice_length (l m : List Value) (k : Nat) (h : k + m.length ≤ l.length) : (splice l k m).length = l.length := by
  simp [splice]; omega
theorem splice_sub {l m : List Value} {k n j : Nat} (h : seg l k n = m) {q : List Value} (hj : j + q.length ≤ n) (hk : k + n ≤ l.length) : splice l (k + j) q = splice l k (splice m j q) := by
  subst h
  apply List.ext_getElem?
  intro i
  simp only [splice, seg, List.getElem?_append, List.length_append, List.length_take, List.length_drop, List.getElem?_take, List.getElem?_drop]
  (repeat' split) <;> first | rfl | omega | (congr 1; omega)
theorem set_sub {l m : List Value} {k n j : Nat} {v : Value} (h : seg l k n = m) (hj : j < n) (hk : k + n ≤ l.length) : l.set (k + j) v = splice l k (m.set j v) := by
  subst h
  apply List.ext_getElem?
  intro i
  simp only [splice, seg, List.getElem?_append, List.length_set, List.length_take, List.length_drop, List.getElem?_take, List.getElem?_drop, List.getElem?_set]
  (repeat' split) <;> first | rfl | omega | (congr 1; omega)

/-! ### A digest -/
structure Dig where
  l : List UInt8
  len : l.length = 32
instance : DecidableEq Dig := fun a b => if h : a.l = b.l then isTrue (by cases a; cases b; simp_all) else isFalse (by intro e; exact h (by rw [e]))
def encDig (d : Dig) : List Value := d.l.map fun b => .int .u8 b.toNat
theorem encDig_length (d : Dig) : (encDig d).length = 32 := by simp [encDig, d.len]
@[go_sem] theorem ln_encDig (d : Dig) : ln (encDig d) = 32 := encDig_length d
@[go_sem] theorem encDig_all (d : Dig) : seg (encDig d) 0 32 = encDig d := by unfold seg; rw [List.drop_zero]; exact List.take_of_length_le (by rw [encDig_length]; exact Nat.le_refl _)
@[go_sem] theorem encDig_all' (d : Dig) : (encDig d).take 32 = encDig d := List.take_of_length_le (by rw [encDig_length]; exact Nat.le_refl _)
theorem encDig_one (d : Dig) : ∀ v ∈ encDig d, v.oneCell' = true := by
  intro v hv; simp only [encDig, List.mem_map] at hv; obtain ⟨b, _, rfl⟩ := hv; rfl
theorem encDig_inj {x y : Dig} (h : encDig x = encDig y) : x = y := by
  obtain ⟨x, hx⟩ := x; obtain ⟨y, hy⟩ := y
  simp only [encDig] at h
  have hi : Function.Injective (fun b : UInt8 => Value.int .u8 (b.toNat : Int)) := by
    intro a b hab
    simp only [Value.int.injEq, true_and, Int.natCast_inj] at hab
    exact UInt8.toNat_inj.1 hab
  have := (List.map_inj_right (fun a b hab => hi hab)).1 h
  subst this; rfl

structure Head where
  region : Int
  epoch : Int
  size : Int
  root : Dig
  tick : Int
  deriving DecidableEq

def encHead (x : Head) : List Value := Value.int .i64 x.region :: (Value.int .i64 x.epoch :: (Value.int .i64 x.size :: (encDig x.root ++ (Value.int .i64 x.tick :: ([])))))
theorem encHead_length (x : Head) : (encHead x).length = 36 := by simp [encHead, encDig_length]
@[go_sem] theorem ln_encHead (x : Head) : ln (encHead x) = 36 := encHead_length x
@[go_sem] theorem encHead_all (x : Head) : seg (encHead x) 0 36 = encHead x := by unfold seg; rw [List.drop_zero]; exact List.take_of_length_le (by rw [encHead_length]; exact Nat.le_refl _)
@[go_sem] theorem encHead_all' (x : Head) : (encHead x).take 36 = encHead x := List.take_of_length_le (by rw [encHead_length]; exact Nat.le_refl _)
theorem encHead_split_region (x : Head) : encHead x = (([] : List Value)) ++ (Value.int .i64 x.region :: (Value.int .i64 x.epoch :: (Value.int .i64 x.size :: (encDig x.root ++ (Value.int .i64 x.tick :: ([])))))) := by simp only [encHead, List.cons_append, List.nil_append, List.append_assoc, List.append_nil]
@[go_sem] theorem encHead_region (x : Head) : (encHead x)[0]? = some (Value.int .i64 x.region) := by rw [encHead_split_region]; exact get_mid _ _ _ (by simp only [List.length_append, List.length_cons, List.length_nil, encDig_length])
@[go_sem] theorem encHead_set_region (x : Head) (y : Int) : (encHead x).set 0 (Value.int .i64 y) = encHead { x with region := y } := by rw [encHead_split_region x, encHead_split_region]; exact set_mid _ _ _ _ (by simp only [List.length_append, List.length_cons, List.length_nil, encDig_length])
theorem encHead_split_epoch (x : Head) : encHead x = (([Value.int .i64 x.region])) ++ (Value.int .i64 x.epoch :: (Value.int .i64 x.size :: (encDig x.root ++ (Value.int .i64 x.tick :: ([]))))) := by simp only [encHead, List.cons_append, List.nil_append, List.append_assoc, List.append_nil]
@[go_sem] theorem encHead_epoch (x : Head) : (encHead x)[1]? = some (Value.int .i64 x.epoch) := by rw [encHead_split_epoch]; exact get_mid _ _ _ (by simp only [List.length_append, List.length_cons, List.length_nil, encDig_length])
@[go_sem] theorem encHead_set_epoch (x : Head) (y : Int) : (encHead x).set 1 (Value.int .i64 y) = encHead { x with epoch := y } := by rw [encHead_split_epoch x, encHead_split_epoch]; exact set_mid _ _ _ _ (by simp only [List.length_append, List.length_cons, List.length_nil, encDig_length])
theorem encHead_split_size (x : Head) : encHead x = (([Value.int .i64 x.region]) ++ ([Value.int .i64 x.epoch])) ++ (Value.int .i64 x.size :: (encDig x.root ++ (Value.int .i64 x.tick :: ([])))) := by simp only [encHead, List.cons_append, List.nil_append, List.append_assoc, List.append_nil]
@[go_sem] theorem encHead_size (x : Head) : (encHead x)[2]? = some (Value.int .i64 x.size) := by rw [encHead_split_size]; exact get_mid _ _ _ (by simp only [List.length_append, List.length_cons, List.length_nil, encDig_length])
@[go_sem] theorem encHead_set_size (x : Head) (y : Int) : (encHead x).set 2 (Value.int .i64 y) = encHead { x with size := y } := by rw [encHead_split_size x, encHead_split_size]; exact set_mid _ _ _ _ (by simp only [List.length_append, List.length_cons, List.length_nil, encDig_length])
theorem encHead_split_root (x : Head) : encHead x = (([Value.int .i64 x.region]) ++ ([Value.int .i64 x.epoch]) ++ ([Value.int .i64 x.size])) ++ (encDig x.root ++ (Value.int .i64 x.tick :: ([]))) := by simp only [encHead, List.cons_append, List.nil_append, List.append_assoc, List.append_nil]
@[go_sem] theorem encHead_root (x : Head) : seg (encHead x) 3 32 = encDig x.root := by rw [encHead_split_root]; exact sub_mid _ _ _ (by simp only [List.length_append, List.length_cons, List.length_nil, encDig_length]) (by simp only [encDig_length])
@[go_sem] theorem encHead_put_root (x : Head) (y : Dig) : splice (encHead x) 3 (encDig y) = encHead { x with root := y } := by rw [encHead_split_root x, encHead_split_root]; exact splice_mid _ _ _ _ (by simp only [List.length_append, List.length_cons, List.length_nil, encDig_length]) (by simp only [encDig_length])
theorem encHead_split_tick (x : Head) : encHead x = (([Value.int .i64 x.region]) ++ ([Value.int .i64 x.epoch]) ++ ([Value.int .i64 x.size]) ++ (encDig x.root)) ++ (Value.int .i64 x.tick :: ([])) := by simp only [encHead, List.cons_append, List.nil_append, List.append_assoc, List.append_nil]
@[go_sem] theorem encHead_tick (x : Head) : (encHead x)[35]? = some (Value.int .i64 x.tick) := by rw [encHead_split_tick]; exact get_mid _ _ _ (by simp only [List.length_append, List.length_cons, List.length_nil, encDig_length])
@[go_sem] theorem encHead_set_tick (x : Head) (y : Int) : (encHead x).set 35 (Value.int .i64 y) = encHead { x with tick := y } := by rw [encHead_split_tick x, encHead_split_tick]; exact set_mid _ _ _ _ (by simp only [List.length_append, List.length_cons, List.length_nil, encDig_length])
theorem encHead_one (x : Head) : ∀ v ∈ encHead x, v.oneCell' = true := by
  intro v hv; simp only [encHead, List.mem_cons, List.mem_append, List.not_mem_nil, or_false] at hv
  rcases hv with h | h | h | h | h
  · subst h; rfl
  · subst h; rfl
  · subst h; rfl
  · exact encDig_one _ v h
  · subst h; rfl
theorem encHead_inj {x y : Head} (h : encHead x = encHead y) : x = y := by
  have h_region := congrArg (fun l => l[0]?) h
  simp only [encHead_region, Option.some.injEq, Value.int.injEq, true_and] at h_region
  have h_epoch := congrArg (fun l => l[1]?) h
  simp only [encHead_epoch, Option.some.injEq, Value.int.injEq, true_and] at h_epoch
  have h_size := congrArg (fun l => l[2]?) h
  simp only [encHead_size, Option.some.injEq, Value.int.injEq, true_and] at h_size
  have h_root := congrArg (fun l => seg l 3 32) h
  simp only [encHead_root] at h_root
  have h_root := encDig_inj h_root
  have h_tick := congrArg (fun l => l[35]?) h
  simp only [encHead_tick, Option.some.injEq, Value.int.injEq, true_and] at h_tick
  cases x; cases y; simp_all

structure Signed where
  head : Head
  node : Int
  tag : Dig
  deriving DecidableEq

def encSigned (x : Signed) : List Value := encHead x.head ++ (Value.int .i64 x.node :: (encDig x.tag ++ ([])))
theorem encSigned_length (x : Signed) : (encSigned x).length = 69 := by simp [encSigned, encHead_length, encDig_length]
@[go_sem] theorem ln_encSigned (x : Signed) : ln (encSigned x) = 69 := encSigned_length x
@[go_sem] theorem encSigned_all (x : Signed) : seg (encSigned x) 0 69 = encSigned x := by unfold seg; rw [List.drop_zero]; exact List.take_of_length_le (by rw [encSigned_length]; exact Nat.le_refl _)
@[go_sem] theorem encSigned_all' (x : Signed) : (encSigned x).take 69 = encSigned x := List.take_of_length_le (by rw [encSigned_length]; exact Nat.le_refl _)
theorem encSigned_split_head (x : Signed) : encSigned x = (([] : List Value)) ++ (encHead x.head ++ (Value.int .i64 x.node :: (encDig x.tag ++ ([])))) := by simp only [encSigned, List.cons_append, List.nil_append, List.append_assoc, List.append_nil]
@[go_sem] theorem encSigned_head (x : Signed) : seg (encSigned x) 0 36 = encHead x.head := by rw [encSigned_split_head]; exact sub_mid _ _ _ (by simp only [List.length_append, List.length_cons, List.length_nil, encDig_length, encHead_length]) (by simp only [encHead_length])
@[go_sem] theorem encSigned_put_head (x : Signed) (y : Head) : splice (encSigned x) 0 (encHead y) = encSigned { x with head := y } := by rw [encSigned_split_head x, encSigned_split_head]; exact splice_mid _ _ _ _ (by simp only [List.length_append, List.length_cons, List.length_nil, encDig_length, encHead_length]) (by simp only [encHead_length])
theorem encSigned_split_node (x : Signed) : encSigned x = ((encHead x.head)) ++ (Value.int .i64 x.node :: (encDig x.tag ++ ([]))) := by simp only [encSigned, List.cons_append, List.nil_append, List.append_assoc, List.append_nil]
@[go_sem] theorem encSigned_node (x : Signed) : (encSigned x)[36]? = some (Value.int .i64 x.node) := by rw [encSigned_split_node]; exact get_mid _ _ _ (by simp only [List.length_append, List.length_cons, List.length_nil, encDig_length, encHead_length])
@[go_sem] theorem encSigned_set_node (x : Signed) (y : Int) : (encSigned x).set 36 (Value.int .i64 y) = encSigned { x with node := y } := by rw [encSigned_split_node x, encSigned_split_node]; exact set_mid _ _ _ _ (by simp only [List.length_append, List.length_cons, List.length_nil, encDig_length, encHead_length])
theorem encSigned_split_tag (x : Signed) : encSigned x = ((encHead x.head) ++ ([Value.int .i64 x.node])) ++ (encDig x.tag ++ ([])) := by simp only [encSigned, List.cons_append, List.nil_append, List.append_assoc, List.append_nil]
@[go_sem] theorem encSigned_tag (x : Signed) : seg (encSigned x) 37 32 = encDig x.tag := by rw [encSigned_split_tag]; exact sub_mid _ _ _ (by simp only [List.length_append, List.length_cons, List.length_nil, encDig_length, encHead_length]) (by simp only [encDig_length])
@[go_sem] theorem encSigned_put_tag (x : Signed) (y : Dig) : splice (encSigned x) 37 (encDig y) = encSigned { x with tag := y } := by rw [encSigned_split_tag x, encSigned_split_tag]; exact splice_mid _ _ _ _ (by simp only [List.length_append, List.length_cons, List.length_nil, encDig_length, encHead_length]) (by simp only [encDig_length])
@[go_sem] theorem encSigned_head_region (x : Signed) : (encSigned x)[0]? = some (Value.int .i64 x.head.region) := get_sub (encSigned_head x) (encHead_region (x.head)) (by decide)
@[go_sem] theorem encSigned_set_head_region (x : Signed) (y : Int) : (encSigned x).set 0 (Value.int .i64 y) = encSigned { x with head := { x.head with region := y } } := by rw [show 0 = 0 + 0 from rfl, set_sub (encSigned_head x) (by decide) (by rw [encSigned_length]; decide), encHead_set_region, encSigned_put_head]
@[go_sem] theorem encSigned_head_epoch (x : Signed) : (encSigned x)[1]? = some (Value.int .i64 x.head.epoch) := get_sub (encSigned_head x) (encHead_epoch (x.head)) (by decide)
@[go_sem] theorem encSigned_set_head_epoch (x : Signed) (y : Int) : (encSigned x).set 1 (Value.int .i64 y) = encSigned { x with head := { x.head with epoch := y } } := by rw [show 1 = 0 + 1 from rfl, set_sub (encSigned_head x) (by decide) (by rw [encSigned_length]; decide), encHead_set_epoch, encSigned_put_head]
@[go_sem] theorem encSigned_head_size (x : Signed) : (encSigned x)[2]? = some (Value.int .i64 x.head.size) := get_sub (encSigned_head x) (encHead_size (x.head)) (by decide)
@[go_sem] theorem encSigned_set_head_size (x : Signed) (y : Int) : (encSigned x).set 2 (Value.int .i64 y) = encSigned { x with head := { x.head with size := y } } := by rw [show 2 = 0 + 2 from rfl, set_sub (encSigned_head x) (by decide) (by rw [encSigned_length]; decide), encHead_set_size, encSigned_put_head]
@[go_sem] theorem encSigned_head_root (x : Signed) : seg (encSigned x) 3 32 = encDig x.head.root := sub_sub (encSigned_head x) (encHead_root (x.head)) (by decide)
@[go_sem] theorem encSigned_put_head_root (x : Signed) (y : Dig) : splice (encSigned x) 3 (encDig y) = encSigned { x with head := { x.head with root := y } } := by rw [show 3 = 0 + 3 from rfl, splice_sub (encSigned_head x) (by rw [encDig_length]; decide) (by rw [encSigned_length]; decide), encHead_put_root, encSigned_put_head]
@[go_sem] theorem encSigned_head_tick (x : Signed) : (encSigned x)[35]? = some (Value.int .i64 x.head.tick) := get_sub (encSigned_head x) (encHead_tick (x.head)) (by decide)
@[go_sem] theorem encSigned_set_head_tick (x : Signed) (y : Int) : (encSigned x).set 35 (Value.int .i64 y) = encSigned { x with head := { x.head with tick := y } } := by rw [show 35 = 0 + 35 from rfl, set_sub (encSigned_head x) (by decide) (by rw [encSigned_length]; decide), encHead_set_tick, encSigned_put_head]
theorem encSigned_one (x : Signed) : ∀ v ∈ encSigned x, v.oneCell' = true := by
  intro v hv; simp only [encSigned, List.mem_cons, List.mem_append, List.not_mem_nil, or_false] at hv
  rcases hv with h | h | h
  · exact encHead_one _ v h
  · subst h; rfl
  · exact encDig_one _ v h
theorem encSigned_inj {x y : Signed} (h : encSigned x = encSigned y) : x = y := by
  have h_head := congrArg (fun l => seg l 0 36) h
  simp only [encSigned_head] at h_head
  have h_head := encHead_inj h_head
  have h_node := congrArg (fun l => l[36]?) h
  simp only [encSigned_node, Option.some.injEq, Value.int.injEq, true_and] at h_node
  have h_tag := congrArg (fun l => seg l 37 32) h
  simp only [encSigned_tag] at h_tag
  have h_tag := encDig_inj h_tag
  cases x; cases y; simp_all

structure Claim where
  region : Int
  epoch : Int
  node : Int
  size : Int
  root : Dig
  deriving DecidableEq

def encClaim (x : Claim) : List Value := Value.int .i64 x.region :: (Value.int .i64 x.epoch :: (Value.int .i64 x.node :: (Value.int .i64 x.size :: (encDig x.root ++ ([])))))
theorem encClaim_length (x : Claim) : (encClaim x).length = 36 := by simp [encClaim, encDig_length]
@[go_sem] theorem ln_encClaim (x : Claim) : ln (encClaim x) = 36 := encClaim_length x
@[go_sem] theorem encClaim_all (x : Claim) : seg (encClaim x) 0 36 = encClaim x := by unfold seg; rw [List.drop_zero]; exact List.take_of_length_le (by rw [encClaim_length]; exact Nat.le_refl _)
@[go_sem] theorem encClaim_all' (x : Claim) : (encClaim x).take 36 = encClaim x := List.take_of_length_le (by rw [encClaim_length]; exact Nat.le_refl _)
theorem encClaim_split_region (x : Claim) : encClaim x = (([] : List Value)) ++ (Value.int .i64 x.region :: (Value.int .i64 x.epoch :: (Value.int .i64 x.node :: (Value.int .i64 x.size :: (encDig x.root ++ ([])))))) := by simp only [encClaim, List.cons_append, List.nil_append, List.append_assoc, List.append_nil]
@[go_sem] theorem encClaim_region (x : Claim) : (encClaim x)[0]? = some (Value.int .i64 x.region) := by rw [encClaim_split_region]; exact get_mid _ _ _ (by simp only [List.length_append, List.length_cons, List.length_nil, encDig_length])
@[go_sem] theorem encClaim_set_region (x : Claim) (y : Int) : (encClaim x).set 0 (Value.int .i64 y) = encClaim { x with region := y } := by rw [encClaim_split_region x, encClaim_split_region]; exact set_mid _ _ _ _ (by simp only [List.length_append, List.length_cons, List.length_nil, encDig_length])
theorem encClaim_split_epoch (x : Claim) : encClaim x = (([Value.int .i64 x.region])) ++ (Value.int .i64 x.epoch :: (Value.int .i64 x.node :: (Value.int .i64 x.size :: (encDig x.root ++ ([]))))) := by simp only [encClaim, List.cons_append, List.nil_append, List.append_assoc, List.append_nil]
@[go_sem] theorem encClaim_epoch (x : Claim) : (encClaim x)[1]? = some (Value.int .i64 x.epoch) := by rw [encClaim_split_epoch]; exact get_mid _ _ _ (by simp only [List.length_append, List.length_cons, List.length_nil, encDig_length])
@[go_sem] theorem encClaim_set_epoch (x : Claim) (y : Int) : (encClaim x).set 1 (Value.int .i64 y) = encClaim { x with epoch := y } := by rw [encClaim_split_epoch x, encClaim_split_epoch]; exact set_mid _ _ _ _ (by simp only [List.length_append, List.length_cons, List.length_nil, encDig_length])
theorem encClaim_split_node (x : Claim) : encClaim x = (([Value.int .i64 x.region]) ++ ([Value.int .i64 x.epoch])) ++ (Value.int .i64 x.node :: (Value.int .i64 x.size :: (encDig x.root ++ ([])))) := by simp only [encClaim, List.cons_append, List.nil_append, List.append_assoc, List.append_nil]
@[go_sem] theorem encClaim_node (x : Claim) : (encClaim x)[2]? = some (Value.int .i64 x.node) := by rw [encClaim_split_node]; exact get_mid _ _ _ (by simp only [List.length_append, List.length_cons, List.length_nil, encDig_length])
@[go_sem] theorem encClaim_set_node (x : Claim) (y : Int) : (encClaim x).set 2 (Value.int .i64 y) = encClaim { x with node := y } := by rw [encClaim_split_node x, encClaim_split_node]; exact set_mid _ _ _ _ (by simp only [List.length_append, List.length_cons, List.length_nil, encDig_length])
theorem encClaim_split_size (x : Claim) : encClaim x = (([Value.int .i64 x.region]) ++ ([Value.int .i64 x.epoch]) ++ ([Value.int .i64 x.node])) ++ (Value.int .i64 x.size :: (encDig x.root ++ ([]))) := by simp only [encClaim, List.cons_append, List.nil_append, List.append_assoc, List.append_nil]
@[go_sem] theorem encClaim_size (x : Claim) : (encClaim x)[3]? = some (Value.int .i64 x.size) := by rw [encClaim_split_size]; exact get_mid _ _ _ (by simp only [List.length_append, List.length_cons, List.length_nil, encDig_length])
@[go_sem] theorem encClaim_set_size (x : Claim) (y : Int) : (encClaim x).set 3 (Value.int .i64 y) = encClaim { x with size := y } := by rw [encClaim_split_size x, encClaim_split_size]; exact set_mid _ _ _ _ (by simp only [List.length_append, List.length_cons, List.length_nil, encDig_length])
theorem encClaim_split_root (x : Claim) : encClaim x = (([Value.int .i64 x.region]) ++ ([Value.int .i64 x.epoch]) ++ ([Value.int .i64 x.node]) ++ ([Value.int .i64 x.size])) ++ (encDig x.root ++ ([])) := by simp only [encClaim, List.cons_append, List.nil_append, List.append_assoc, List.append_nil]
@[go_sem] theorem encClaim_root (x : Claim) : seg (encClaim x) 4 32 = encDig x.root := by rw [encClaim_split_root]; exact sub_mid _ _ _ (by simp only [List.length_append, List.length_cons, List.length_nil, encDig_length]) (by simp only [encDig_length])
@[go_sem] theorem encClaim_put_root (x : Claim) (y : Dig) : splice (encClaim x) 4 (encDig y) = encClaim { x with root := y } := by rw [encClaim_split_root x, encClaim_split_root]; exact splice_mid _ _ _ _ (by simp only [List.length_append, List.length_cons, List.length_nil, encDig_length]) (by simp only [encDig_length])
theorem encClaim_one (x : Claim) : ∀ v ∈ encClaim x, v.oneCell' = true := by
  intro v hv; simp only [encClaim, List.mem_cons, List.mem_append, List.not_mem_nil, or_false] at hv
  rcases hv with h | h | h | h | h
  · subst h; rfl
  · subst h; rfl
  · subst h; rfl
  · subst h; rfl
  · exact encDig_one _ v h
theorem encClaim_inj {x y : Claim} (h : encClaim x = encClaim y) : x = y := by
  have h_region := congrArg (fun l => l[0]?) h
  simp only [encClaim_region, Option.some.injEq, Value.int.injEq, true_and] at h_region
  have h_epoch := congrArg (fun l => l[1]?) h
  simp only [encClaim_epoch, Option.some.injEq, Value.int.injEq, true_and] at h_epoch
  have h_node := congrArg (fun l => l[2]?) h
  simp only [encClaim_node, Option.some.injEq, Value.int.injEq, true_and] at h_node
  have h_size := congrArg (fun l => l[3]?) h
  simp only [encClaim_size, Option.some.injEq, Value.int.injEq, true_and] at h_size
  have h_root := congrArg (fun l => seg l 4 32) h
  simp only [encClaim_root] at h_root
  have h_root := encDig_inj h_root
  cases x; cases y; simp_all

structure Entry where
  kind : Int
  client : Int
  seq : Int
  text : ByteArray
  head : Signed
  claim : Claim
  deriving DecidableEq

def encEntry (x : Entry) : List Value := Value.int .i64 x.kind :: (Value.int .i64 x.client :: (Value.int .i64 x.seq :: (Value.string x.text :: (encSigned x.head ++ (encClaim x.claim ++ ([]))))))
theorem encEntry_length (x : Entry) : (encEntry x).length = 109 := by simp [encEntry, encSigned_length, encClaim_length]
@[go_sem] theorem ln_encEntry (x : Entry) : ln (encEntry x) = 109 := encEntry_length x
@[go_sem] theorem encEntry_all (x : Entry) : seg (encEntry x) 0 109 = encEntry x := by unfold seg; rw [List.drop_zero]; exact List.take_of_length_le (by rw [encEntry_length]; exact Nat.le_refl _)
@[go_sem] theorem encEntry_all' (x : Entry) : (encEntry x).take 109 = encEntry x := List.take_of_length_le (by rw [encEntry_length]; exact Nat.le_refl _)
theorem encEntry_split_kind (x : Entry) : encEntry x = (([] : List Value)) ++ (Value.int .i64 x.kind :: (Value.int .i64 x.client :: (Value.int .i64 x.seq :: (Value.string x.text :: (encSigned x.head ++ (encClaim x.claim ++ ([]))))))) := by simp only [encEntry, List.cons_append, List.nil_append, List.append_assoc, List.append_nil]
@[go_sem] theorem encEntry_kind (x : Entry) : (encEntry x)[0]? = some (Value.int .i64 x.kind) := by rw [encEntry_split_kind]; exact get_mid _ _ _ (by simp only [List.length_append, List.length_cons, List.length_nil, encDig_length, encSigned_length, encClaim_length])
@[go_sem] theorem encEntry_set_kind (x : Entry) (y : Int) : (encEntry x).set 0 (Value.int .i64 y) = encEntry { x with kind := y } := by rw [encEntry_split_kind x, encEntry_split_kind]; exact set_mid _ _ _ _ (by simp only [List.length_append, List.length_cons, List.length_nil, encDig_length, encSigned_length, encClaim_length])
theorem encEntry_split_client (x : Entry) : encEntry x = (([Value.int .i64 x.kind])) ++ (Value.int .i64 x.client :: (Value.int .i64 x.seq :: (Value.string x.text :: (encSigned x.head ++ (encClaim x.claim ++ ([])))))) := by simp only [encEntry, List.cons_append, List.nil_append, List.append_assoc, List.append_nil]
@[go_sem] theorem encEntry_client (x : Entry) : (encEntry x)[1]? = some (Value.int .i64 x.client) := by rw [encEntry_split_client]; exact get_mid _ _ _ (by simp only [List.length_append, List.length_cons, List.length_nil, encDig_length, encSigned_length, encClaim_length])
@[go_sem] theorem encEntry_set_client (x : Entry) (y : Int) : (encEntry x).set 1 (Value.int .i64 y) = encEntry { x with client := y } := by rw [encEntry_split_client x, encEntry_split_client]; exact set_mid _ _ _ _ (by simp only [List.length_append, List.length_cons, List.length_nil, encDig_length, encSigned_length, encClaim_length])
theorem encEntry_split_seq (x : Entry) : encEntry x = (([Value.int .i64 x.kind]) ++ ([Value.int .i64 x.client])) ++ (Value.int .i64 x.seq :: (Value.string x.text :: (encSigned x.head ++ (encClaim x.claim ++ ([]))))) := by simp only [encEntry, List.cons_append, List.nil_append, List.append_assoc, List.append_nil]
@[go_sem] theorem encEntry_seq (x : Entry) : (encEntry x)[2]? = some (Value.int .i64 x.seq) := by rw [encEntry_split_seq]; exact get_mid _ _ _ (by simp only [List.length_append, List.length_cons, List.length_nil, encDig_length, encSigned_length, encClaim_length])
@[go_sem] theorem encEntry_set_seq (x : Entry) (y : Int) : (encEntry x).set 2 (Value.int .i64 y) = encEntry { x with seq := y } := by rw [encEntry_split_seq x, encEntry_split_seq]; exact set_mid _ _ _ _ (by simp only [List.length_append, List.length_cons, List.length_nil, encDig_length, encSigned_length, encClaim_length])
theorem encEntry_split_text (x : Entry) : encEntry x = (([Value.int .i64 x.kind]) ++ ([Value.int .i64 x.client]) ++ ([Value.int .i64 x.seq])) ++ (Value.string x.text :: (encSigned x.head ++ (encClaim x.claim ++ ([])))) := by simp only [encEntry, List.cons_append, List.nil_append, List.append_assoc, List.append_nil]
@[go_sem] theorem encEntry_text (x : Entry) : (encEntry x)[3]? = some (Value.string x.text) := by rw [encEntry_split_text]; exact get_mid _ _ _ (by simp only [List.length_append, List.length_cons, List.length_nil, encDig_length, encSigned_length, encClaim_length])
@[go_sem] theorem encEntry_set_text (x : Entry) (y : ByteArray) : (encEntry x).set 3 (Value.string y) = encEntry { x with text := y } := by rw [encEntry_split_text x, encEntry_split_text]; exact set_mid _ _ _ _ (by simp only [List.length_append, List.length_cons, List.length_nil, encDig_length, encSigned_length, encClaim_length])
theorem encEntry_split_head (x : Entry) : encEntry x = (([Value.int .i64 x.kind]) ++ ([Value.int .i64 x.client]) ++ ([Value.int .i64 x.seq]) ++ ([Value.string x.text])) ++ (encSigned x.head ++ (encClaim x.claim ++ ([]))) := by simp only [encEntry, List.cons_append, List.nil_append, List.append_assoc, List.append_nil]
@[go_sem] theorem encEntry_head (x : Entry) : seg (encEntry x) 4 69 = encSigned x.head := by rw [encEntry_split_head]; exact sub_mid _ _ _ (by simp only [List.length_append, List.length_cons, List.length_nil, encDig_length, encSigned_length, encClaim_length]) (by simp only [encSigned_length])
@[go_sem] theorem encEntry_put_head (x : Entry) (y : Signed) : splice (encEntry x) 4 (encSigned y) = encEntry { x with head := y } := by rw [encEntry_split_head x, encEntry_split_head]; exact splice_mid _ _ _ _ (by simp only [List.length_append, List.length_cons, List.length_nil, encDig_length, encSigned_length, encClaim_length]) (by simp only [encSigned_length])
theorem encEntry_split_claim (x : Entry) : encEntry x = (([Value.int .i64 x.kind]) ++ ([Value.int .i64 x.client]) ++ ([Value.int .i64 x.seq]) ++ ([Value.string x.text]) ++ (encSigned x.head)) ++ (encClaim x.claim ++ ([])) := by simp only [encEntry, List.cons_append, List.nil_append, List.append_assoc, List.append_nil]
@[go_sem] theorem encEntry_claim (x : Entry) : seg (encEntry x) 73 36 = encClaim x.claim := by rw [encEntry_split_claim]; exact sub_mid _ _ _ (by simp only [List.length_append, List.length_cons, List.length_nil, encDig_length, encSigned_length, encClaim_length]) (by simp only [encClaim_length])
@[go_sem] theorem encEntry_put_claim (x : Entry) (y : Claim) : splice (encEntry x) 73 (encClaim y) = encEntry { x with claim := y } := by rw [encEntry_split_claim x, encEntry_split_claim]; exact splice_mid _ _ _ _ (by simp only [List.length_append, List.length_cons, List.length_nil, encDig_length, encSigned_length, encClaim_length]) (by simp only [encClaim_length])
@[go_sem] theorem encEntry_head_head (x : Entry) : seg (encEntry x) 4 36 = encHead x.head.head := sub_sub (encEntry_head x) (encSigned_head (x.head)) (by decide)
@[go_sem] theorem encEntry_put_head_head (x : Entry) (y : Head) : splice (encEntry x) 4 (encHead y) = encEntry { x with head := { x.head with head := y } } := by rw [show 4 = 4 + 0 from rfl, splice_sub (encEntry_head x) (by rw [encHead_length]; decide) (by rw [encEntry_length]; decide), encSigned_put_head, encEntry_put_head]
@[go_sem] theorem encEntry_head_head_region (x : Entry) : (encEntry x)[4]? = some (Value.int .i64 x.head.head.region) := get_sub (encEntry_head_head x) (encHead_region (x.head.head)) (by decide)
@[go_sem] theorem encEntry_set_head_head_region (x : Entry) (y : Int) : (encEntry x).set 4 (Value.int .i64 y) = encEntry { x with head := { x.head with head := { x.head.head with region := y } } } := by rw [show 4 = 4 + 0 from rfl, set_sub (encEntry_head_head x) (by decide) (by rw [encEntry_length]; decide), encHead_set_region, encEntry_put_head_head]
@[go_sem] theorem encEntry_head_head_epoch (x : Entry) : (encEntry x)[5]? = some (Value.int .i64 x.head.head.epoch) := get_sub (encEntry_head_head x) (encHead_epoch (x.head.head)) (by decide)
@[go_sem] theorem encEntry_set_head_head_epoch (x : Entry) (y : Int) : (encEntry x).set 5 (Value.int .i64 y) = encEntry { x with head := { x.head with head := { x.head.head with epoch := y } } } := by rw [show 5 = 4 + 1 from rfl, set_sub (encEntry_head_head x) (by decide) (by rw [encEntry_length]; decide), encHead_set_epoch, encEntry_put_head_head]
@[go_sem] theorem encEntry_head_head_size (x : Entry) : (encEntry x)[6]? = some (Value.int .i64 x.head.head.size) := get_sub (encEntry_head_head x) (encHead_size (x.head.head)) (by decide)
@[go_sem] theorem encEntry_set_head_head_size (x : Entry) (y : Int) : (encEntry x).set 6 (Value.int .i64 y) = encEntry { x with head := { x.head with head := { x.head.head with size := y } } } := by rw [show 6 = 4 + 2 from rfl, set_sub (encEntry_head_head x) (by decide) (by rw [encEntry_length]; decide), encHead_set_size, encEntry_put_head_head]
@[go_sem] theorem encEntry_head_head_root (x : Entry) : seg (encEntry x) 7 32 = encDig x.head.head.root := sub_sub (encEntry_head_head x) (encHead_root (x.head.head)) (by decide)
@[go_sem] theorem encEntry_put_head_head_root (x : Entry) (y : Dig) : splice (encEntry x) 7 (encDig y) = encEntry { x with head := { x.head with head := { x.head.head with root := y } } } := by rw [show 7 = 4 + 3 from rfl, splice_sub (encEntry_head_head x) (by rw [encDig_length]; decide) (by rw [encEntry_length]; decide), encHead_put_root, encEntry_put_head_head]
@[go_sem] theorem encEntry_head_head_tick (x : Entry) : (encEntry x)[39]? = some (Value.int .i64 x.head.head.tick) := get_sub (encEntry_head_head x) (encHead_tick (x.head.head)) (by decide)
@[go_sem] theorem encEntry_set_head_head_tick (x : Entry) (y : Int) : (encEntry x).set 39 (Value.int .i64 y) = encEntry { x with head := { x.head with head := { x.head.head with tick := y } } } := by rw [show 39 = 4 + 35 from rfl, set_sub (encEntry_head_head x) (by decide) (by rw [encEntry_length]; decide), encHead_set_tick, encEntry_put_head_head]
@[go_sem] theorem encEntry_head_node (x : Entry) : (encEntry x)[40]? = some (Value.int .i64 x.head.node) := get_sub (encEntry_head x) (encSigned_node (x.head)) (by decide)
@[go_sem] theorem encEntry_set_head_node (x : Entry) (y : Int) : (encEntry x).set 40 (Value.int .i64 y) = encEntry { x with head := { x.head with node := y } } := by rw [show 40 = 4 + 36 from rfl, set_sub (encEntry_head x) (by decide) (by rw [encEntry_length]; decide), encSigned_set_node, encEntry_put_head]
@[go_sem] theorem encEntry_head_tag (x : Entry) : seg (encEntry x) 41 32 = encDig x.head.tag := sub_sub (encEntry_head x) (encSigned_tag (x.head)) (by decide)
@[go_sem] theorem encEntry_put_head_tag (x : Entry) (y : Dig) : splice (encEntry x) 41 (encDig y) = encEntry { x with head := { x.head with tag := y } } := by rw [show 41 = 4 + 37 from rfl, splice_sub (encEntry_head x) (by rw [encDig_length]; decide) (by rw [encEntry_length]; decide), encSigned_put_tag, encEntry_put_head]
@[go_sem] theorem encEntry_claim_region (x : Entry) : (encEntry x)[73]? = some (Value.int .i64 x.claim.region) := get_sub (encEntry_claim x) (encClaim_region (x.claim)) (by decide)
@[go_sem] theorem encEntry_set_claim_region (x : Entry) (y : Int) : (encEntry x).set 73 (Value.int .i64 y) = encEntry { x with claim := { x.claim with region := y } } := by rw [show 73 = 73 + 0 from rfl, set_sub (encEntry_claim x) (by decide) (by rw [encEntry_length]; decide), encClaim_set_region, encEntry_put_claim]
@[go_sem] theorem encEntry_claim_epoch (x : Entry) : (encEntry x)[74]? = some (Value.int .i64 x.claim.epoch) := get_sub (encEntry_claim x) (encClaim_epoch (x.claim)) (by decide)
@[go_sem] theorem encEntry_set_claim_epoch (x : Entry) (y : Int) : (encEntry x).set 74 (Value.int .i64 y) = encEntry { x with claim := { x.claim with epoch := y } } := by rw [show 74 = 73 + 1 from rfl, set_sub (encEntry_claim x) (by decide) (by rw [encEntry_length]; decide), encClaim_set_epoch, encEntry_put_claim]
@[go_sem] theorem encEntry_claim_node (x : Entry) : (encEntry x)[75]? = some (Value.int .i64 x.claim.node) := get_sub (encEntry_claim x) (encClaim_node (x.claim)) (by decide)
@[go_sem] theorem encEntry_set_claim_node (x : Entry) (y : Int) : (encEntry x).set 75 (Value.int .i64 y) = encEntry { x with claim := { x.claim with node := y } } := by rw [show 75 = 73 + 2 from rfl, set_sub (encEntry_claim x) (by decide) (by rw [encEntry_length]; decide), encClaim_set_node, encEntry_put_claim]
@[go_sem] theorem encEntry_claim_size (x : Entry) : (encEntry x)[76]? = some (Value.int .i64 x.claim.size) := get_sub (encEntry_claim x) (encClaim_size (x.claim)) (by decide)
@[go_sem] theorem encEntry_set_claim_size (x : Entry) (y : Int) : (encEntry x).set 76 (Value.int .i64 y) = encEntry { x with claim := { x.claim with size := y } } := by rw [show 76 = 73 + 3 from rfl, set_sub (encEntry_claim x) (by decide) (by rw [encEntry_length]; decide), encClaim_set_size, encEntry_put_claim]
@[go_sem] theorem encEntry_claim_root (x : Entry) : seg (encEntry x) 77 32 = encDig x.claim.root := sub_sub (encEntry_claim x) (encClaim_root (x.claim)) (by decide)
@[go_sem] theorem encEntry_put_claim_root (x : Entry) (y : Dig) : splice (encEntry x) 77 (encDig y) = encEntry { x with claim := { x.claim with root := y } } := by rw [show 77 = 73 + 4 from rfl, splice_sub (encEntry_claim x) (by rw [encDig_length]; decide) (by rw [encEntry_length]; decide), encClaim_put_root, encEntry_put_claim]
theorem encEntry_one (x : Entry) : ∀ v ∈ encEntry x, v.oneCell' = true := by
  intro v hv; simp only [encEntry, List.mem_cons, List.mem_append, List.not_mem_nil, or_false] at hv
  rcases hv with h | h | h | h | h | h
  · subst h; rfl
  · subst h; rfl
  · subst h; rfl
  · subst h; rfl
  · exact encSigned_one _ v h
  · exact encClaim_one _ v h
theorem encEntry_inj {x y : Entry} (h : encEntry x = encEntry y) : x = y := by
  have h_kind := congrArg (fun l => l[0]?) h
  simp only [encEntry_kind, Option.some.injEq, Value.int.injEq, true_and] at h_kind
  have h_client := congrArg (fun l => l[1]?) h
  simp only [encEntry_client, Option.some.injEq, Value.int.injEq, true_and] at h_client
  have h_seq := congrArg (fun l => l[2]?) h
  simp only [encEntry_seq, Option.some.injEq, Value.int.injEq, true_and] at h_seq
  have h_text := congrArg (fun l => l[3]?) h
  simp only [encEntry_text, Option.some.injEq, Value.string.injEq] at h_text
  have h_head := congrArg (fun l => seg l 4 69) h
  simp only [encEntry_head] at h_head
  have h_head := encSigned_inj h_head
  have h_claim := congrArg (fun l => seg l 73 36) h
  simp only [encEntry_claim] at h_claim
  have h_claim := encClaim_inj h_claim
  cases x; cases y; simp_all

structure Item where
  epoch : Int
  entry : Entry
  deriving DecidableEq

def encItem (x : Item) : List Value := Value.int .i64 x.epoch :: (encEntry x.entry ++ ([]))
theorem encItem_length (x : Item) : (encItem x).length = 110 := by simp [encItem, encEntry_length]
@[go_sem] theorem ln_encItem (x : Item) : ln (encItem x) = 110 := encItem_length x
@[go_sem] theorem encItem_all (x : Item) : seg (encItem x) 0 110 = encItem x := by unfold seg; rw [List.drop_zero]; exact List.take_of_length_le (by rw [encItem_length]; exact Nat.le_refl _)
@[go_sem] theorem encItem_all' (x : Item) : (encItem x).take 110 = encItem x := List.take_of_length_le (by rw [encItem_length]; exact Nat.le_refl _)
theorem encItem_split_epoch (x : Item) : encItem x = (([] : List Value)) ++ (Value.int .i64 x.epoch :: (encEntry x.entry ++ ([]))) := by simp only [encItem, List.cons_append, List.nil_append, List.append_assoc, List.append_nil]
@[go_sem] theorem encItem_epoch (x : Item) : (encItem x)[0]? = some (Value.int .i64 x.epoch) := by rw [encItem_split_epoch]; exact get_mid _ _ _ (by simp only [List.length_append, List.length_cons, List.length_nil, encDig_length, encEntry_length])
@[go_sem] theorem encItem_set_epoch (x : Item) (y : Int) : (encItem x).set 0 (Value.int .i64 y) = encItem { x with epoch := y } := by rw [encItem_split_epoch x, encItem_split_epoch]; exact set_mid _ _ _ _ (by simp only [List.length_append, List.length_cons, List.length_nil, encDig_length, encEntry_length])
theorem encItem_split_entry (x : Item) : encItem x = (([Value.int .i64 x.epoch])) ++ (encEntry x.entry ++ ([])) := by simp only [encItem, List.cons_append, List.nil_append, List.append_assoc, List.append_nil]
@[go_sem] theorem encItem_entry (x : Item) : seg (encItem x) 1 109 = encEntry x.entry := by rw [encItem_split_entry]; exact sub_mid _ _ _ (by simp only [List.length_append, List.length_cons, List.length_nil, encDig_length, encEntry_length]) (by simp only [encEntry_length])
@[go_sem] theorem encItem_put_entry (x : Item) (y : Entry) : splice (encItem x) 1 (encEntry y) = encItem { x with entry := y } := by rw [encItem_split_entry x, encItem_split_entry]; exact splice_mid _ _ _ _ (by simp only [List.length_append, List.length_cons, List.length_nil, encDig_length, encEntry_length]) (by simp only [encEntry_length])
@[go_sem] theorem encItem_entry_kind (x : Item) : (encItem x)[1]? = some (Value.int .i64 x.entry.kind) := get_sub (encItem_entry x) (encEntry_kind (x.entry)) (by decide)
@[go_sem] theorem encItem_set_entry_kind (x : Item) (y : Int) : (encItem x).set 1 (Value.int .i64 y) = encItem { x with entry := { x.entry with kind := y } } := by rw [show 1 = 1 + 0 from rfl, set_sub (encItem_entry x) (by decide) (by rw [encItem_length]; decide), encEntry_set_kind, encItem_put_entry]
@[go_sem] theorem encItem_entry_client (x : Item) : (encItem x)[2]? = some (Value.int .i64 x.entry.client) := get_sub (encItem_entry x) (encEntry_client (x.entry)) (by decide)
@[go_sem] theorem encItem_set_entry_client (x : Item) (y : Int) : (encItem x).set 2 (Value.int .i64 y) = encItem { x with entry := { x.entry with client := y } } := by rw [show 2 = 1 + 1 from rfl, set_sub (encItem_entry x) (by decide) (by rw [encItem_length]; decide), encEntry_set_client, encItem_put_entry]
@[go_sem] theorem encItem_entry_seq (x : Item) : (encItem x)[3]? = some (Value.int .i64 x.entry.seq) := get_sub (encItem_entry x) (encEntry_seq (x.entry)) (by decide)
@[go_sem] theorem encItem_set_entry_seq (x : Item) (y : Int) : (encItem x).set 3 (Value.int .i64 y) = encItem { x with entry := { x.entry with seq := y } } := by rw [show 3 = 1 + 2 from rfl, set_sub (encItem_entry x) (by decide) (by rw [encItem_length]; decide), encEntry_set_seq, encItem_put_entry]
@[go_sem] theorem encItem_entry_text (x : Item) : (encItem x)[4]? = some (Value.string x.entry.text) := get_sub (encItem_entry x) (encEntry_text (x.entry)) (by decide)
@[go_sem] theorem encItem_set_entry_text (x : Item) (y : ByteArray) : (encItem x).set 4 (Value.string y) = encItem { x with entry := { x.entry with text := y } } := by rw [show 4 = 1 + 3 from rfl, set_sub (encItem_entry x) (by decide) (by rw [encItem_length]; decide), encEntry_set_text, encItem_put_entry]
@[go_sem] theorem encItem_entry_head (x : Item) : seg (encItem x) 5 69 = encSigned x.entry.head := sub_sub (encItem_entry x) (encEntry_head (x.entry)) (by decide)
@[go_sem] theorem encItem_put_entry_head (x : Item) (y : Signed) : splice (encItem x) 5 (encSigned y) = encItem { x with entry := { x.entry with head := y } } := by rw [show 5 = 1 + 4 from rfl, splice_sub (encItem_entry x) (by rw [encSigned_length]; decide) (by rw [encItem_length]; decide), encEntry_put_head, encItem_put_entry]
@[go_sem] theorem encItem_entry_head_head (x : Item) : seg (encItem x) 5 36 = encHead x.entry.head.head := sub_sub (encItem_entry_head x) (encSigned_head (x.entry.head)) (by decide)
@[go_sem] theorem encItem_put_entry_head_head (x : Item) (y : Head) : splice (encItem x) 5 (encHead y) = encItem { x with entry := { x.entry with head := { x.entry.head with head := y } } } := by rw [show 5 = 5 + 0 from rfl, splice_sub (encItem_entry_head x) (by rw [encHead_length]; decide) (by rw [encItem_length]; decide), encSigned_put_head, encItem_put_entry_head]
@[go_sem] theorem encItem_entry_head_head_region (x : Item) : (encItem x)[5]? = some (Value.int .i64 x.entry.head.head.region) := get_sub (encItem_entry_head_head x) (encHead_region (x.entry.head.head)) (by decide)
@[go_sem] theorem encItem_set_entry_head_head_region (x : Item) (y : Int) : (encItem x).set 5 (Value.int .i64 y) = encItem { x with entry := { x.entry with head := { x.entry.head with head := { x.entry.head.head with region := y } } } } := by rw [show 5 = 5 + 0 from rfl, set_sub (encItem_entry_head_head x) (by decide) (by rw [encItem_length]; decide), encHead_set_region, encItem_put_entry_head_head]
@[go_sem] theorem encItem_entry_head_head_epoch (x : Item) : (encItem x)[6]? = some (Value.int .i64 x.entry.head.head.epoch) := get_sub (encItem_entry_head_head x) (encHead_epoch (x.entry.head.head)) (by decide)
@[go_sem] theorem encItem_set_entry_head_head_epoch (x : Item) (y : Int) : (encItem x).set 6 (Value.int .i64 y) = encItem { x with entry := { x.entry with head := { x.entry.head with head := { x.entry.head.head with epoch := y } } } } := by rw [show 6 = 5 + 1 from rfl, set_sub (encItem_entry_head_head x) (by decide) (by rw [encItem_length]; decide), encHead_set_epoch, encItem_put_entry_head_head]
@[go_sem] theorem encItem_entry_head_head_size (x : Item) : (encItem x)[7]? = some (Value.int .i64 x.entry.head.head.size) := get_sub (encItem_entry_head_head x) (encHead_size (x.entry.head.head)) (by decide)
@[go_sem] theorem encItem_set_entry_head_head_size (x : Item) (y : Int) : (encItem x).set 7 (Value.int .i64 y) = encItem { x with entry := { x.entry with head := { x.entry.head with head := { x.entry.head.head with size := y } } } } := by rw [show 7 = 5 + 2 from rfl, set_sub (encItem_entry_head_head x) (by decide) (by rw [encItem_length]; decide), encHead_set_size, encItem_put_entry_head_head]
@[go_sem] theorem encItem_entry_head_head_root (x : Item) : seg (encItem x) 8 32 = encDig x.entry.head.head.root := sub_sub (encItem_entry_head_head x) (encHead_root (x.entry.head.head)) (by decide)
@[go_sem] theorem encItem_put_entry_head_head_root (x : Item) (y : Dig) : splice (encItem x) 8 (encDig y) = encItem { x with entry := { x.entry with head := { x.entry.head with head := { x.entry.head.head with root := y } } } } := by rw [show 8 = 5 + 3 from rfl, splice_sub (encItem_entry_head_head x) (by rw [encDig_length]; decide) (by rw [encItem_length]; decide), encHead_put_root, encItem_put_entry_head_head]
@[go_sem] theorem encItem_entry_head_head_tick (x : Item) : (encItem x)[40]? = some (Value.int .i64 x.entry.head.head.tick) := get_sub (encItem_entry_head_head x) (encHead_tick (x.entry.head.head)) (by decide)
@[go_sem] theorem encItem_set_entry_head_head_tick (x : Item) (y : Int) : (encItem x).set 40 (Value.int .i64 y) = encItem { x with entry := { x.entry with head := { x.entry.head with head := { x.entry.head.head with tick := y } } } } := by rw [show 40 = 5 + 35 from rfl, set_sub (encItem_entry_head_head x) (by decide) (by rw [encItem_length]; decide), encHead_set_tick, encItem_put_entry_head_head]
@[go_sem] theorem encItem_entry_head_node (x : Item) : (encItem x)[41]? = some (Value.int .i64 x.entry.head.node) := get_sub (encItem_entry_head x) (encSigned_node (x.entry.head)) (by decide)
@[go_sem] theorem encItem_set_entry_head_node (x : Item) (y : Int) : (encItem x).set 41 (Value.int .i64 y) = encItem { x with entry := { x.entry with head := { x.entry.head with node := y } } } := by rw [show 41 = 5 + 36 from rfl, set_sub (encItem_entry_head x) (by decide) (by rw [encItem_length]; decide), encSigned_set_node, encItem_put_entry_head]
@[go_sem] theorem encItem_entry_head_tag (x : Item) : seg (encItem x) 42 32 = encDig x.entry.head.tag := sub_sub (encItem_entry_head x) (encSigned_tag (x.entry.head)) (by decide)
@[go_sem] theorem encItem_put_entry_head_tag (x : Item) (y : Dig) : splice (encItem x) 42 (encDig y) = encItem { x with entry := { x.entry with head := { x.entry.head with tag := y } } } := by rw [show 42 = 5 + 37 from rfl, splice_sub (encItem_entry_head x) (by rw [encDig_length]; decide) (by rw [encItem_length]; decide), encSigned_put_tag, encItem_put_entry_head]
@[go_sem] theorem encItem_entry_claim (x : Item) : seg (encItem x) 74 36 = encClaim x.entry.claim := sub_sub (encItem_entry x) (encEntry_claim (x.entry)) (by decide)
@[go_sem] theorem encItem_put_entry_claim (x : Item) (y : Claim) : splice (encItem x) 74 (encClaim y) = encItem { x with entry := { x.entry with claim := y } } := by rw [show 74 = 1 + 73 from rfl, splice_sub (encItem_entry x) (by rw [encClaim_length]; decide) (by rw [encItem_length]; decide), encEntry_put_claim, encItem_put_entry]
@[go_sem] theorem encItem_entry_claim_region (x : Item) : (encItem x)[74]? = some (Value.int .i64 x.entry.claim.region) := get_sub (encItem_entry_claim x) (encClaim_region (x.entry.claim)) (by decide)
@[go_sem] theorem encItem_set_entry_claim_region (x : Item) (y : Int) : (encItem x).set 74 (Value.int .i64 y) = encItem { x with entry := { x.entry with claim := { x.entry.claim with region := y } } } := by rw [show 74 = 74 + 0 from rfl, set_sub (encItem_entry_claim x) (by decide) (by rw [encItem_length]; decide), encClaim_set_region, encItem_put_entry_claim]
@[go_sem] theorem encItem_entry_claim_epoch (x : Item) : (encItem x)[75]? = some (Value.int .i64 x.entry.claim.epoch) := get_sub (encItem_entry_claim x) (encClaim_epoch (x.entry.claim)) (by decide)
@[go_sem] theorem encItem_set_entry_claim_epoch (x : Item) (y : Int) : (encItem x).set 75 (Value.int .i64 y) = encItem { x with entry := { x.entry with claim := { x.entry.claim with epoch := y } } } := by rw [show 75 = 74 + 1 from rfl, set_sub (encItem_entry_claim x) (by decide) (by rw [encItem_length]; decide), encClaim_set_epoch, encItem_put_entry_claim]
@[go_sem] theorem encItem_entry_claim_node (x : Item) : (encItem x)[76]? = some (Value.int .i64 x.entry.claim.node) := get_sub (encItem_entry_claim x) (encClaim_node (x.entry.claim)) (by decide)
@[go_sem] theorem encItem_set_entry_claim_node (x : Item) (y : Int) : (encItem x).set 76 (Value.int .i64 y) = encItem { x with entry := { x.entry with claim := { x.entry.claim with node := y } } } := by rw [show 76 = 74 + 2 from rfl, set_sub (encItem_entry_claim x) (by decide) (by rw [encItem_length]; decide), encClaim_set_node, encItem_put_entry_claim]
@[go_sem] theorem encItem_entry_claim_size (x : Item) : (encItem x)[77]? = some (Value.int .i64 x.entry.claim.size) := get_sub (encItem_entry_claim x) (encClaim_size (x.entry.claim)) (by decide)
@[go_sem] theorem encItem_set_entry_claim_size (x : Item) (y : Int) : (encItem x).set 77 (Value.int .i64 y) = encItem { x with entry := { x.entry with claim := { x.entry.claim with size := y } } } := by rw [show 77 = 74 + 3 from rfl, set_sub (encItem_entry_claim x) (by decide) (by rw [encItem_length]; decide), encClaim_set_size, encItem_put_entry_claim]
@[go_sem] theorem encItem_entry_claim_root (x : Item) : seg (encItem x) 78 32 = encDig x.entry.claim.root := sub_sub (encItem_entry_claim x) (encClaim_root (x.entry.claim)) (by decide)
@[go_sem] theorem encItem_put_entry_claim_root (x : Item) (y : Dig) : splice (encItem x) 78 (encDig y) = encItem { x with entry := { x.entry with claim := { x.entry.claim with root := y } } } := by rw [show 78 = 74 + 4 from rfl, splice_sub (encItem_entry_claim x) (by rw [encDig_length]; decide) (by rw [encItem_length]; decide), encClaim_put_root, encItem_put_entry_claim]
theorem encItem_one (x : Item) : ∀ v ∈ encItem x, v.oneCell' = true := by
  intro v hv; simp only [encItem, List.mem_cons, List.mem_append, List.not_mem_nil, or_false] at hv
  rcases hv with h | h
  · subst h; rfl
  · exact encEntry_one _ v h
theorem encItem_inj {x y : Item} (h : encItem x = encItem y) : x = y := by
  have h_epoch := congrArg (fun l => l[0]?) h
  simp only [encItem_epoch, Option.some.injEq, Value.int.injEq, true_and] at h_epoch
  have h_entry := congrArg (fun l => seg l 1 109) h
  simp only [encItem_entry] at h_entry
  have h_entry := encEntry_inj h_entry
  cases x; cases y; simp_all

structure Kept where
  epoch : Int
  log : Int
  items : Value
  claims : Value

def encKept (x : Kept) : List Value := Value.int .i64 x.epoch :: (Value.int .i64 x.log :: (x.items :: (x.claims :: ([]))))
theorem encKept_length (x : Kept) : (encKept x).length = 4 := by simp [encKept]
@[go_sem] theorem ln_encKept (x : Kept) : ln (encKept x) = 4 := encKept_length x
@[go_sem] theorem encKept_all (x : Kept) : seg (encKept x) 0 4 = encKept x := by unfold seg; rw [List.drop_zero]; exact List.take_of_length_le (by rw [encKept_length]; exact Nat.le_refl _)
@[go_sem] theorem encKept_all' (x : Kept) : (encKept x).take 4 = encKept x := List.take_of_length_le (by rw [encKept_length]; exact Nat.le_refl _)
theorem encKept_split_epoch (x : Kept) : encKept x = (([] : List Value)) ++ (Value.int .i64 x.epoch :: (Value.int .i64 x.log :: (x.items :: (x.claims :: ([]))))) := by simp only [encKept, List.cons_append, List.nil_append, List.append_assoc, List.append_nil]
@[go_sem] theorem encKept_epoch (x : Kept) : (encKept x)[0]? = some (Value.int .i64 x.epoch) := by rw [encKept_split_epoch]; exact get_mid _ _ _ (by simp only [List.length_append, List.length_cons, List.length_nil, encDig_length])
@[go_sem] theorem encKept_set_epoch (x : Kept) (y : Int) : (encKept x).set 0 (Value.int .i64 y) = encKept { x with epoch := y } := by rw [encKept_split_epoch x, encKept_split_epoch]; exact set_mid _ _ _ _ (by simp only [List.length_append, List.length_cons, List.length_nil, encDig_length])
theorem encKept_split_log (x : Kept) : encKept x = (([Value.int .i64 x.epoch])) ++ (Value.int .i64 x.log :: (x.items :: (x.claims :: ([])))) := by simp only [encKept, List.cons_append, List.nil_append, List.append_assoc, List.append_nil]
@[go_sem] theorem encKept_log (x : Kept) : (encKept x)[1]? = some (Value.int .i64 x.log) := by rw [encKept_split_log]; exact get_mid _ _ _ (by simp only [List.length_append, List.length_cons, List.length_nil, encDig_length])
@[go_sem] theorem encKept_set_log (x : Kept) (y : Int) : (encKept x).set 1 (Value.int .i64 y) = encKept { x with log := y } := by rw [encKept_split_log x, encKept_split_log]; exact set_mid _ _ _ _ (by simp only [List.length_append, List.length_cons, List.length_nil, encDig_length])
theorem encKept_split_items (x : Kept) : encKept x = (([Value.int .i64 x.epoch]) ++ ([Value.int .i64 x.log])) ++ (x.items :: (x.claims :: ([]))) := by simp only [encKept, List.cons_append, List.nil_append, List.append_assoc, List.append_nil]
@[go_sem] theorem encKept_items (x : Kept) : (encKept x)[2]? = some (x.items) := by rw [encKept_split_items]; exact get_mid _ _ _ (by simp only [List.length_append, List.length_cons, List.length_nil, encDig_length])
@[go_sem] theorem encKept_set_items (x : Kept) (y : Value) : (encKept x).set 2 (y) = encKept { x with items := y } := by rw [encKept_split_items x, encKept_split_items]; exact set_mid _ _ _ _ (by simp only [List.length_append, List.length_cons, List.length_nil, encDig_length])
theorem encKept_split_claims (x : Kept) : encKept x = (([Value.int .i64 x.epoch]) ++ ([Value.int .i64 x.log]) ++ ([x.items])) ++ (x.claims :: ([])) := by simp only [encKept, List.cons_append, List.nil_append, List.append_assoc, List.append_nil]
@[go_sem] theorem encKept_claims (x : Kept) : (encKept x)[3]? = some (x.claims) := by rw [encKept_split_claims]; exact get_mid _ _ _ (by simp only [List.length_append, List.length_cons, List.length_nil, encDig_length])
@[go_sem] theorem encKept_set_claims (x : Kept) (y : Value) : (encKept x).set 3 (y) = encKept { x with claims := y } := by rw [encKept_split_claims x, encKept_split_claims]; exact set_mid _ _ _ _ (by simp only [List.length_append, List.length_cons, List.length_nil, encDig_length])

structure Record where
  kind : Int
  epoch : Int
  from_ : Int
  item : Item
  items : Value
  claim : Claim

def encRecord (x : Record) : List Value := Value.int .i64 x.kind :: (Value.int .i64 x.epoch :: (Value.int .i64 x.from_ :: (encItem x.item ++ (x.items :: (encClaim x.claim ++ ([]))))))
theorem encRecord_length (x : Record) : (encRecord x).length = 150 := by simp [encRecord, encItem_length, encClaim_length]
@[go_sem] theorem ln_encRecord (x : Record) : ln (encRecord x) = 150 := encRecord_length x
@[go_sem] theorem encRecord_all (x : Record) : seg (encRecord x) 0 150 = encRecord x := by unfold seg; rw [List.drop_zero]; exact List.take_of_length_le (by rw [encRecord_length]; exact Nat.le_refl _)
@[go_sem] theorem encRecord_all' (x : Record) : (encRecord x).take 150 = encRecord x := List.take_of_length_le (by rw [encRecord_length]; exact Nat.le_refl _)
theorem encRecord_split_kind (x : Record) : encRecord x = (([] : List Value)) ++ (Value.int .i64 x.kind :: (Value.int .i64 x.epoch :: (Value.int .i64 x.from_ :: (encItem x.item ++ (x.items :: (encClaim x.claim ++ ([]))))))) := by simp only [encRecord, List.cons_append, List.nil_append, List.append_assoc, List.append_nil]
@[go_sem] theorem encRecord_kind (x : Record) : (encRecord x)[0]? = some (Value.int .i64 x.kind) := by rw [encRecord_split_kind]; exact get_mid _ _ _ (by simp only [List.length_append, List.length_cons, List.length_nil, encDig_length, encItem_length, encClaim_length])
@[go_sem] theorem encRecord_set_kind (x : Record) (y : Int) : (encRecord x).set 0 (Value.int .i64 y) = encRecord { x with kind := y } := by rw [encRecord_split_kind x, encRecord_split_kind]; exact set_mid _ _ _ _ (by simp only [List.length_append, List.length_cons, List.length_nil, encDig_length, encItem_length, encClaim_length])
theorem encRecord_split_epoch (x : Record) : encRecord x = (([Value.int .i64 x.kind])) ++ (Value.int .i64 x.epoch :: (Value.int .i64 x.from_ :: (encItem x.item ++ (x.items :: (encClaim x.claim ++ ([])))))) := by simp only [encRecord, List.cons_append, List.nil_append, List.append_assoc, List.append_nil]
@[go_sem] theorem encRecord_epoch (x : Record) : (encRecord x)[1]? = some (Value.int .i64 x.epoch) := by rw [encRecord_split_epoch]; exact get_mid _ _ _ (by simp only [List.length_append, List.length_cons, List.length_nil, encDig_length, encItem_length, encClaim_length])
@[go_sem] theorem encRecord_set_epoch (x : Record) (y : Int) : (encRecord x).set 1 (Value.int .i64 y) = encRecord { x with epoch := y } := by rw [encRecord_split_epoch x, encRecord_split_epoch]; exact set_mid _ _ _ _ (by simp only [List.length_append, List.length_cons, List.length_nil, encDig_length, encItem_length, encClaim_length])
theorem encRecord_split_from_ (x : Record) : encRecord x = (([Value.int .i64 x.kind]) ++ ([Value.int .i64 x.epoch])) ++ (Value.int .i64 x.from_ :: (encItem x.item ++ (x.items :: (encClaim x.claim ++ ([]))))) := by simp only [encRecord, List.cons_append, List.nil_append, List.append_assoc, List.append_nil]
@[go_sem] theorem encRecord_from_ (x : Record) : (encRecord x)[2]? = some (Value.int .i64 x.from_) := by rw [encRecord_split_from_]; exact get_mid _ _ _ (by simp only [List.length_append, List.length_cons, List.length_nil, encDig_length, encItem_length, encClaim_length])
@[go_sem] theorem encRecord_set_from_ (x : Record) (y : Int) : (encRecord x).set 2 (Value.int .i64 y) = encRecord { x with from_ := y } := by rw [encRecord_split_from_ x, encRecord_split_from_]; exact set_mid _ _ _ _ (by simp only [List.length_append, List.length_cons, List.length_nil, encDig_length, encItem_length, encClaim_length])
theorem encRecord_split_item (x : Record) : encRecord x = (([Value.int .i64 x.kind]) ++ ([Value.int .i64 x.epoch]) ++ ([Value.int .i64 x.from_])) ++ (encItem x.item ++ (x.items :: (encClaim x.claim ++ ([])))) := by simp only [encRecord, List.cons_append, List.nil_append, List.append_assoc, List.append_nil]
@[go_sem] theorem encRecord_item (x : Record) : seg (encRecord x) 3 110 = encItem x.item := by rw [encRecord_split_item]; exact sub_mid _ _ _ (by simp only [List.length_append, List.length_cons, List.length_nil, encDig_length, encItem_length, encClaim_length]) (by simp only [encItem_length])
@[go_sem] theorem encRecord_put_item (x : Record) (y : Item) : splice (encRecord x) 3 (encItem y) = encRecord { x with item := y } := by rw [encRecord_split_item x, encRecord_split_item]; exact splice_mid _ _ _ _ (by simp only [List.length_append, List.length_cons, List.length_nil, encDig_length, encItem_length, encClaim_length]) (by simp only [encItem_length])
theorem encRecord_split_items (x : Record) : encRecord x = (([Value.int .i64 x.kind]) ++ ([Value.int .i64 x.epoch]) ++ ([Value.int .i64 x.from_]) ++ (encItem x.item)) ++ (x.items :: (encClaim x.claim ++ ([]))) := by simp only [encRecord, List.cons_append, List.nil_append, List.append_assoc, List.append_nil]
@[go_sem] theorem encRecord_items (x : Record) : (encRecord x)[113]? = some (x.items) := by rw [encRecord_split_items]; exact get_mid _ _ _ (by simp only [List.length_append, List.length_cons, List.length_nil, encDig_length, encItem_length, encClaim_length])
@[go_sem] theorem encRecord_set_items (x : Record) (y : Value) : (encRecord x).set 113 (y) = encRecord { x with items := y } := by rw [encRecord_split_items x, encRecord_split_items]; exact set_mid _ _ _ _ (by simp only [List.length_append, List.length_cons, List.length_nil, encDig_length, encItem_length, encClaim_length])
theorem encRecord_split_claim (x : Record) : encRecord x = (([Value.int .i64 x.kind]) ++ ([Value.int .i64 x.epoch]) ++ ([Value.int .i64 x.from_]) ++ (encItem x.item) ++ ([x.items])) ++ (encClaim x.claim ++ ([])) := by simp only [encRecord, List.cons_append, List.nil_append, List.append_assoc, List.append_nil]
@[go_sem] theorem encRecord_claim (x : Record) : seg (encRecord x) 114 36 = encClaim x.claim := by rw [encRecord_split_claim]; exact sub_mid _ _ _ (by simp only [List.length_append, List.length_cons, List.length_nil, encDig_length, encItem_length, encClaim_length]) (by simp only [encClaim_length])
@[go_sem] theorem encRecord_put_claim (x : Record) (y : Claim) : splice (encRecord x) 114 (encClaim y) = encRecord { x with claim := y } := by rw [encRecord_split_claim x, encRecord_split_claim]; exact splice_mid _ _ _ _ (by simp only [List.length_append, List.length_cons, List.length_nil, encDig_length, encItem_length, encClaim_length]) (by simp only [encClaim_length])
@[go_sem] theorem encRecord_item_epoch (x : Record) : (encRecord x)[3]? = some (Value.int .i64 x.item.epoch) := get_sub (encRecord_item x) (encItem_epoch (x.item)) (by decide)
@[go_sem] theorem encRecord_set_item_epoch (x : Record) (y : Int) : (encRecord x).set 3 (Value.int .i64 y) = encRecord { x with item := { x.item with epoch := y } } := by rw [show 3 = 3 + 0 from rfl, set_sub (encRecord_item x) (by decide) (by rw [encRecord_length]; decide), encItem_set_epoch, encRecord_put_item]
@[go_sem] theorem encRecord_item_entry (x : Record) : seg (encRecord x) 4 109 = encEntry x.item.entry := sub_sub (encRecord_item x) (encItem_entry (x.item)) (by decide)
@[go_sem] theorem encRecord_put_item_entry (x : Record) (y : Entry) : splice (encRecord x) 4 (encEntry y) = encRecord { x with item := { x.item with entry := y } } := by rw [show 4 = 3 + 1 from rfl, splice_sub (encRecord_item x) (by rw [encEntry_length]; decide) (by rw [encRecord_length]; decide), encItem_put_entry, encRecord_put_item]
@[go_sem] theorem encRecord_item_entry_kind (x : Record) : (encRecord x)[4]? = some (Value.int .i64 x.item.entry.kind) := get_sub (encRecord_item_entry x) (encEntry_kind (x.item.entry)) (by decide)
@[go_sem] theorem encRecord_set_item_entry_kind (x : Record) (y : Int) : (encRecord x).set 4 (Value.int .i64 y) = encRecord { x with item := { x.item with entry := { x.item.entry with kind := y } } } := by rw [show 4 = 4 + 0 from rfl, set_sub (encRecord_item_entry x) (by decide) (by rw [encRecord_length]; decide), encEntry_set_kind, encRecord_put_item_entry]
@[go_sem] theorem encRecord_item_entry_client (x : Record) : (encRecord x)[5]? = some (Value.int .i64 x.item.entry.client) := get_sub (encRecord_item_entry x) (encEntry_client (x.item.entry)) (by decide)
@[go_sem] theorem encRecord_set_item_entry_client (x : Record) (y : Int) : (encRecord x).set 5 (Value.int .i64 y) = encRecord { x with item := { x.item with entry := { x.item.entry with client := y } } } := by rw [show 5 = 4 + 1 from rfl, set_sub (encRecord_item_entry x) (by decide) (by rw [encRecord_length]; decide), encEntry_set_client, encRecord_put_item_entry]
@[go_sem] theorem encRecord_item_entry_seq (x : Record) : (encRecord x)[6]? = some (Value.int .i64 x.item.entry.seq) := get_sub (encRecord_item_entry x) (encEntry_seq (x.item.entry)) (by decide)
@[go_sem] theorem encRecord_set_item_entry_seq (x : Record) (y : Int) : (encRecord x).set 6 (Value.int .i64 y) = encRecord { x with item := { x.item with entry := { x.item.entry with seq := y } } } := by rw [show 6 = 4 + 2 from rfl, set_sub (encRecord_item_entry x) (by decide) (by rw [encRecord_length]; decide), encEntry_set_seq, encRecord_put_item_entry]
@[go_sem] theorem encRecord_item_entry_text (x : Record) : (encRecord x)[7]? = some (Value.string x.item.entry.text) := get_sub (encRecord_item_entry x) (encEntry_text (x.item.entry)) (by decide)
@[go_sem] theorem encRecord_set_item_entry_text (x : Record) (y : ByteArray) : (encRecord x).set 7 (Value.string y) = encRecord { x with item := { x.item with entry := { x.item.entry with text := y } } } := by rw [show 7 = 4 + 3 from rfl, set_sub (encRecord_item_entry x) (by decide) (by rw [encRecord_length]; decide), encEntry_set_text, encRecord_put_item_entry]
@[go_sem] theorem encRecord_item_entry_head (x : Record) : seg (encRecord x) 8 69 = encSigned x.item.entry.head := sub_sub (encRecord_item_entry x) (encEntry_head (x.item.entry)) (by decide)
@[go_sem] theorem encRecord_put_item_entry_head (x : Record) (y : Signed) : splice (encRecord x) 8 (encSigned y) = encRecord { x with item := { x.item with entry := { x.item.entry with head := y } } } := by rw [show 8 = 4 + 4 from rfl, splice_sub (encRecord_item_entry x) (by rw [encSigned_length]; decide) (by rw [encRecord_length]; decide), encEntry_put_head, encRecord_put_item_entry]
@[go_sem] theorem encRecord_item_entry_head_head (x : Record) : seg (encRecord x) 8 36 = encHead x.item.entry.head.head := sub_sub (encRecord_item_entry_head x) (encSigned_head (x.item.entry.head)) (by decide)
@[go_sem] theorem encRecord_put_item_entry_head_head (x : Record) (y : Head) : splice (encRecord x) 8 (encHead y) = encRecord { x with item := { x.item with entry := { x.item.entry with head := { x.item.entry.head with head := y } } } } := by rw [show 8 = 8 + 0 from rfl, splice_sub (encRecord_item_entry_head x) (by rw [encHead_length]; decide) (by rw [encRecord_length]; decide), encSigned_put_head, encRecord_put_item_entry_head]
@[go_sem] theorem encRecord_item_entry_head_head_region (x : Record) : (encRecord x)[8]? = some (Value.int .i64 x.item.entry.head.head.region) := get_sub (encRecord_item_entry_head_head x) (encHead_region (x.item.entry.head.head)) (by decide)
@[go_sem] theorem encRecord_set_item_entry_head_head_region (x : Record) (y : Int) : (encRecord x).set 8 (Value.int .i64 y) = encRecord { x with item := { x.item with entry := { x.item.entry with head := { x.item.entry.head with head := { x.item.entry.head.head with region := y } } } } } := by rw [show 8 = 8 + 0 from rfl, set_sub (encRecord_item_entry_head_head x) (by decide) (by rw [encRecord_length]; decide), encHead_set_region, encRecord_put_item_entry_head_head]
@[go_sem] theorem encRecord_item_entry_head_head_epoch (x : Record) : (encRecord x)[9]? = some (Value.int .i64 x.item.entry.head.head.epoch) := get_sub (encRecord_item_entry_head_head x) (encHead_epoch (x.item.entry.head.head)) (by decide)
@[go_sem] theorem encRecord_set_item_entry_head_head_epoch (x : Record) (y : Int) : (encRecord x).set 9 (Value.int .i64 y) = encRecord { x with item := { x.item with entry := { x.item.entry with head := { x.item.entry.head with head := { x.item.entry.head.head with epoch := y } } } } } := by rw [show 9 = 8 + 1 from rfl, set_sub (encRecord_item_entry_head_head x) (by decide) (by rw [encRecord_length]; decide), encHead_set_epoch, encRecord_put_item_entry_head_head]
@[go_sem] theorem encRecord_item_entry_head_head_size (x : Record) : (encRecord x)[10]? = some (Value.int .i64 x.item.entry.head.head.size) := get_sub (encRecord_item_entry_head_head x) (encHead_size (x.item.entry.head.head)) (by decide)
@[go_sem] theorem encRecord_set_item_entry_head_head_size (x : Record) (y : Int) : (encRecord x).set 10 (Value.int .i64 y) = encRecord { x with item := { x.item with entry := { x.item.entry with head := { x.item.entry.head with head := { x.item.entry.head.head with size := y } } } } } := by rw [show 10 = 8 + 2 from rfl, set_sub (encRecord_item_entry_head_head x) (by decide) (by rw [encRecord_length]; decide), encHead_set_size, encRecord_put_item_entry_head_head]
@[go_sem] theorem encRecord_item_entry_head_head_root (x : Record) : seg (encRecord x) 11 32 = encDig x.item.entry.head.head.root := sub_sub (encRecord_item_entry_head_head x) (encHead_root (x.item.entry.head.head)) (by decide)
@[go_sem] theorem encRecord_put_item_entry_head_head_root (x : Record) (y : Dig) : splice (encRecord x) 11 (encDig y) = encRecord { x with item := { x.item with entry := { x.item.entry with head := { x.item.entry.head with head := { x.item.entry.head.head with root := y } } } } } := by rw [show 11 = 8 + 3 from rfl, splice_sub (encRecord_item_entry_head_head x) (by rw [encDig_length]; decide) (by rw [encRecord_length]; decide), encHead_put_root, encRecord_put_item_entry_head_head]
@[go_sem] theorem encRecord_item_entry_head_head_tick (x : Record) : (encRecord x)[43]? = some (Value.int .i64 x.item.entry.head.head.tick) := get_sub (encRecord_item_entry_head_head x) (encHead_tick (x.item.entry.head.head)) (by decide)
@[go_sem] theorem encRecord_set_item_entry_head_head_tick (x : Record) (y : Int) : (encRecord x).set 43 (Value.int .i64 y) = encRecord { x with item := { x.item with entry := { x.item.entry with head := { x.item.entry.head with head := { x.item.entry.head.head with tick := y } } } } } := by rw [show 43 = 8 + 35 from rfl, set_sub (encRecord_item_entry_head_head x) (by decide) (by rw [encRecord_length]; decide), encHead_set_tick, encRecord_put_item_entry_head_head]
@[go_sem] theorem encRecord_item_entry_head_node (x : Record) : (encRecord x)[44]? = some (Value.int .i64 x.item.entry.head.node) := get_sub (encRecord_item_entry_head x) (encSigned_node (x.item.entry.head)) (by decide)
@[go_sem] theorem encRecord_set_item_entry_head_node (x : Record) (y : Int) : (encRecord x).set 44 (Value.int .i64 y) = encRecord { x with item := { x.item with entry := { x.item.entry with head := { x.item.entry.head with node := y } } } } := by rw [show 44 = 8 + 36 from rfl, set_sub (encRecord_item_entry_head x) (by decide) (by rw [encRecord_length]; decide), encSigned_set_node, encRecord_put_item_entry_head]
@[go_sem] theorem encRecord_item_entry_head_tag (x : Record) : seg (encRecord x) 45 32 = encDig x.item.entry.head.tag := sub_sub (encRecord_item_entry_head x) (encSigned_tag (x.item.entry.head)) (by decide)
@[go_sem] theorem encRecord_put_item_entry_head_tag (x : Record) (y : Dig) : splice (encRecord x) 45 (encDig y) = encRecord { x with item := { x.item with entry := { x.item.entry with head := { x.item.entry.head with tag := y } } } } := by rw [show 45 = 8 + 37 from rfl, splice_sub (encRecord_item_entry_head x) (by rw [encDig_length]; decide) (by rw [encRecord_length]; decide), encSigned_put_tag, encRecord_put_item_entry_head]
@[go_sem] theorem encRecord_item_entry_claim (x : Record) : seg (encRecord x) 77 36 = encClaim x.item.entry.claim := sub_sub (encRecord_item_entry x) (encEntry_claim (x.item.entry)) (by decide)
@[go_sem] theorem encRecord_put_item_entry_claim (x : Record) (y : Claim) : splice (encRecord x) 77 (encClaim y) = encRecord { x with item := { x.item with entry := { x.item.entry with claim := y } } } := by rw [show 77 = 4 + 73 from rfl, splice_sub (encRecord_item_entry x) (by rw [encClaim_length]; decide) (by rw [encRecord_length]; decide), encEntry_put_claim, encRecord_put_item_entry]
@[go_sem] theorem encRecord_item_entry_claim_region (x : Record) : (encRecord x)[77]? = some (Value.int .i64 x.item.entry.claim.region) := get_sub (encRecord_item_entry_claim x) (encClaim_region (x.item.entry.claim)) (by decide)
@[go_sem] theorem encRecord_set_item_entry_claim_region (x : Record) (y : Int) : (encRecord x).set 77 (Value.int .i64 y) = encRecord { x with item := { x.item with entry := { x.item.entry with claim := { x.item.entry.claim with region := y } } } } := by rw [show 77 = 77 + 0 from rfl, set_sub (encRecord_item_entry_claim x) (by decide) (by rw [encRecord_length]; decide), encClaim_set_region, encRecord_put_item_entry_claim]
@[go_sem] theorem encRecord_item_entry_claim_epoch (x : Record) : (encRecord x)[78]? = some (Value.int .i64 x.item.entry.claim.epoch) := get_sub (encRecord_item_entry_claim x) (encClaim_epoch (x.item.entry.claim)) (by decide)
@[go_sem] theorem encRecord_set_item_entry_claim_epoch (x : Record) (y : Int) : (encRecord x).set 78 (Value.int .i64 y) = encRecord { x with item := { x.item with entry := { x.item.entry with claim := { x.item.entry.claim with epoch := y } } } } := by rw [show 78 = 77 + 1 from rfl, set_sub (encRecord_item_entry_claim x) (by decide) (by rw [encRecord_length]; decide), encClaim_set_epoch, encRecord_put_item_entry_claim]
@[go_sem] theorem encRecord_item_entry_claim_node (x : Record) : (encRecord x)[79]? = some (Value.int .i64 x.item.entry.claim.node) := get_sub (encRecord_item_entry_claim x) (encClaim_node (x.item.entry.claim)) (by decide)
@[go_sem] theorem encRecord_set_item_entry_claim_node (x : Record) (y : Int) : (encRecord x).set 79 (Value.int .i64 y) = encRecord { x with item := { x.item with entry := { x.item.entry with claim := { x.item.entry.claim with node := y } } } } := by rw [show 79 = 77 + 2 from rfl, set_sub (encRecord_item_entry_claim x) (by decide) (by rw [encRecord_length]; decide), encClaim_set_node, encRecord_put_item_entry_claim]
@[go_sem] theorem encRecord_item_entry_claim_size (x : Record) : (encRecord x)[80]? = some (Value.int .i64 x.item.entry.claim.size) := get_sub (encRecord_item_entry_claim x) (encClaim_size (x.item.entry.claim)) (by decide)
@[go_sem] theorem encRecord_set_item_entry_claim_size (x : Record) (y : Int) : (encRecord x).set 80 (Value.int .i64 y) = encRecord { x with item := { x.item with entry := { x.item.entry with claim := { x.item.entry.claim with size := y } } } } := by rw [show 80 = 77 + 3 from rfl, set_sub (encRecord_item_entry_claim x) (by decide) (by rw [encRecord_length]; decide), encClaim_set_size, encRecord_put_item_entry_claim]
@[go_sem] theorem encRecord_item_entry_claim_root (x : Record) : seg (encRecord x) 81 32 = encDig x.item.entry.claim.root := sub_sub (encRecord_item_entry_claim x) (encClaim_root (x.item.entry.claim)) (by decide)
@[go_sem] theorem encRecord_put_item_entry_claim_root (x : Record) (y : Dig) : splice (encRecord x) 81 (encDig y) = encRecord { x with item := { x.item with entry := { x.item.entry with claim := { x.item.entry.claim with root := y } } } } := by rw [show 81 = 77 + 4 from rfl, splice_sub (encRecord_item_entry_claim x) (by rw [encDig_length]; decide) (by rw [encRecord_length]; decide), encClaim_put_root, encRecord_put_item_entry_claim]
@[go_sem] theorem encRecord_claim_region (x : Record) : (encRecord x)[114]? = some (Value.int .i64 x.claim.region) := get_sub (encRecord_claim x) (encClaim_region (x.claim)) (by decide)
@[go_sem] theorem encRecord_set_claim_region (x : Record) (y : Int) : (encRecord x).set 114 (Value.int .i64 y) = encRecord { x with claim := { x.claim with region := y } } := by rw [show 114 = 114 + 0 from rfl, set_sub (encRecord_claim x) (by decide) (by rw [encRecord_length]; decide), encClaim_set_region, encRecord_put_claim]
@[go_sem] theorem encRecord_claim_epoch (x : Record) : (encRecord x)[115]? = some (Value.int .i64 x.claim.epoch) := get_sub (encRecord_claim x) (encClaim_epoch (x.claim)) (by decide)
@[go_sem] theorem encRecord_set_claim_epoch (x : Record) (y : Int) : (encRecord x).set 115 (Value.int .i64 y) = encRecord { x with claim := { x.claim with epoch := y } } := by rw [show 115 = 114 + 1 from rfl, set_sub (encRecord_claim x) (by decide) (by rw [encRecord_length]; decide), encClaim_set_epoch, encRecord_put_claim]
@[go_sem] theorem encRecord_claim_node (x : Record) : (encRecord x)[116]? = some (Value.int .i64 x.claim.node) := get_sub (encRecord_claim x) (encClaim_node (x.claim)) (by decide)
@[go_sem] theorem encRecord_set_claim_node (x : Record) (y : Int) : (encRecord x).set 116 (Value.int .i64 y) = encRecord { x with claim := { x.claim with node := y } } := by rw [show 116 = 114 + 2 from rfl, set_sub (encRecord_claim x) (by decide) (by rw [encRecord_length]; decide), encClaim_set_node, encRecord_put_claim]
@[go_sem] theorem encRecord_claim_size (x : Record) : (encRecord x)[117]? = some (Value.int .i64 x.claim.size) := get_sub (encRecord_claim x) (encClaim_size (x.claim)) (by decide)
@[go_sem] theorem encRecord_set_claim_size (x : Record) (y : Int) : (encRecord x).set 117 (Value.int .i64 y) = encRecord { x with claim := { x.claim with size := y } } := by rw [show 117 = 114 + 3 from rfl, set_sub (encRecord_claim x) (by decide) (by rw [encRecord_length]; decide), encClaim_set_size, encRecord_put_claim]
@[go_sem] theorem encRecord_claim_root (x : Record) : seg (encRecord x) 118 32 = encDig x.claim.root := sub_sub (encRecord_claim x) (encClaim_root (x.claim)) (by decide)
@[go_sem] theorem encRecord_put_claim_root (x : Record) (y : Dig) : splice (encRecord x) 118 (encDig y) = encRecord { x with claim := { x.claim with root := y } } := by rw [show 118 = 114 + 4 from rfl, splice_sub (encRecord_claim x) (by rw [encDig_length]; decide) (by rw [encRecord_length]; decide), encClaim_put_root, encRecord_put_claim]

structure Fld where
  tag : Int
  data : ByteArray
  deriving DecidableEq

def encFld (x : Fld) : List Value := Value.int .i64 x.tag :: (Value.string x.data :: ([]))
theorem encFld_length (x : Fld) : (encFld x).length = 2 := by simp [encFld]
@[go_sem] theorem ln_encFld (x : Fld) : ln (encFld x) = 2 := encFld_length x
@[go_sem] theorem encFld_all (x : Fld) : seg (encFld x) 0 2 = encFld x := by unfold seg; rw [List.drop_zero]; exact List.take_of_length_le (by rw [encFld_length]; exact Nat.le_refl _)
@[go_sem] theorem encFld_all' (x : Fld) : (encFld x).take 2 = encFld x := List.take_of_length_le (by rw [encFld_length]; exact Nat.le_refl _)
theorem encFld_split_tag (x : Fld) : encFld x = (([] : List Value)) ++ (Value.int .i64 x.tag :: (Value.string x.data :: ([]))) := by simp only [encFld, List.cons_append, List.nil_append, List.append_assoc, List.append_nil]
@[go_sem] theorem encFld_tag (x : Fld) : (encFld x)[0]? = some (Value.int .i64 x.tag) := by rw [encFld_split_tag]; exact get_mid _ _ _ (by simp only [List.length_append, List.length_cons, List.length_nil, encDig_length])
@[go_sem] theorem encFld_set_tag (x : Fld) (y : Int) : (encFld x).set 0 (Value.int .i64 y) = encFld { x with tag := y } := by rw [encFld_split_tag x, encFld_split_tag]; exact set_mid _ _ _ _ (by simp only [List.length_append, List.length_cons, List.length_nil, encDig_length])
theorem encFld_split_data (x : Fld) : encFld x = (([Value.int .i64 x.tag])) ++ (Value.string x.data :: ([])) := by simp only [encFld, List.cons_append, List.nil_append, List.append_assoc, List.append_nil]
@[go_sem] theorem encFld_data (x : Fld) : (encFld x)[1]? = some (Value.string x.data) := by rw [encFld_split_data]; exact get_mid _ _ _ (by simp only [List.length_append, List.length_cons, List.length_nil, encDig_length])
@[go_sem] theorem encFld_set_data (x : Fld) (y : ByteArray) : (encFld x).set 1 (Value.string y) = encFld { x with data := y } := by rw [encFld_split_data x, encFld_split_data]; exact set_mid _ _ _ _ (by simp only [List.length_append, List.length_cons, List.length_nil, encDig_length])
theorem encFld_one (x : Fld) : ∀ v ∈ encFld x, v.oneCell' = true := by
  intro v hv; simp only [encFld, List.mem_cons, List.mem_append, List.not_mem_nil, or_false] at hv
  rcases hv with h | h
  · subst h; rfl
  · subst h; rfl
theorem encFld_inj {x y : Fld} (h : encFld x = encFld y) : x = y := by
  have h_tag := congrArg (fun l => l[0]?) h
  simp only [encFld_tag, Option.some.injEq, Value.int.injEq, true_and] at h_tag
  have h_data := congrArg (fun l => l[1]?) h
  simp only [encFld_data, Option.some.injEq, Value.string.injEq] at h_data
  cases x; cases y; simp_all

end Go.Proofs.Ytgnebofjfmbccaa
