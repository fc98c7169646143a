/-
  The reference's bytes of a field.
-/
import Derived.Test.YtgnebofjfmbccaaPb
import Derived.Lib.AppendStr
import Derived.Laws.OwnMore
set_option linter.all false
namespace Go.Proofs.Ytgnebofjfmbccaa
open Go.RowKit
open Go.Lib
/-- v is a slice of the call's own (its block lies at B or beyond) that holds the bytes l. -/
def OwnB (w : World) (B : Nat) (v : Value) (l : List UInt8) : Prop := w.ownsRow B 5 1 v l.length (bcells l)
def ResB (l : List UInt8) (w : World) (e : Ending) (w' : World) : Prop := ∃ v, e = .returned v ∧ OwnB w' w.heap.size v l ∧ Below w.heap.size w w'
theorem strCells_strOf (l : List UInt8) : strCells (strOf l) = bcells l := by simp [strCells, strOf, bcells]
theorem bcells_append (l m : List UInt8) : bcells (l ++ m) = bcells l ++ bcells m := by simp [bcells]
def u8 (n : Int) : UInt8 := UInt8.ofNat (n % 256).toNat
theorem u8_cell (n : Int) : Value.int .u8 (n % 256) = .int .u8 (u8 n).toNat := by
  congr 1
  simp only [u8, UInt8.toNat_ofNat', Nat.reducePow]
  omega
def headB (tag : Int) (n : Nat) : List UInt8 := [u8 tag, u8 (n / 65536 : Nat), u8 (n / 256 : Nat), u8 n]
def fieldB (tag : Int) (d : List UInt8) : List UInt8 := headB tag d.length ++ d
theorem info_u8 : (Try.prog.info? 5).map (fun i => (i.zero, i.size, i.bytes)) = some (some (.int .u8 0), 1, 1) := by kernel_rfl
theorem wpList_appStr {ops : Array Oper} {rest : List Oper} {o : Oper} {A : Act} {w : World} {Q : Exit → Act → World → Prop} (hgd : o.guard = none) (sl x : Operand)
    (ho : o.op = .call { callee := .builtin .append, args := #[sl, x], argTypes := #[47, 9] })
    (B : Nat) (v : Value) (l : List UInt8) (hs : A.eval sl = v) (hown : OwnB w B v l) (d : List UInt8) (hx : A.eval x = .string (strOf d))
    (hbytes : l.length + d.length ≤ 140737488355328) (hbase : B ≤ w.heap.size)
    (h : ∀ v' w', OwnB w' B v' (l ++ d) → w.grownBy w' v.ownBlock → wpList Try.prog ops Q rest (A.put o.dst v') w') : wpList Try.prog ops Q (o :: rest) A w := by
  obtain ⟨i, hi, hz, hsize, hby⟩ := info_parts info_u8
  refine wpList_append_own_string w hgd sl x 47 9 ho B 5 i Try.underlying47 Try.underlying9 hi hz hsize hby v l.length _ hs hown (strOf d) hx (by rw [strOf_size]; unfold maxLen; omega) (by rw [strOf_size]; omega) hbase ?_
  intro v' w' h1 h2 _
  refine h v' w' ?_ h2
  unfold OwnB
  rw [strOf_size, strCells_strOf] at h1
  rw [List.length_append, bcells_append]; exact h1
set_option maxRecDepth 20000 in
set_option maxHeartbeats 1000000 in
theorem ref01_Bytes (tag : Int) (d : List UInt8) (hd : d.length ≤ 1000000000) (w : World) :
    Calls Try.prog 111 #[.int .i64 tag, .string (strOf d)] w (ResB (fieldB tag d) w) := by
  have hsz : (strOf d).size = d.length := strOf_size d
  have hown : OwnB (w.alloc (.cells #[.int .u8 (tag % 256), .int .u8 ((d.length : Int) / 65536 % 256), .int .u8 ((d.length : Int) / 256 % 256), .int .u8 ((d.length : Int) % 256)] 5)) w.heap.size (.slice (some ⟨w.heap.size, 0, none⟩) 4 4) (headB tag d.length) := by
    have := World.ownsRow_lit (base := w.heap.size) (size := 1) (e := 5) w #[.int .u8 (tag % 256), .int .u8 ((d.length : Int) / 65536 % 256), .int .u8 ((d.length : Int) / 256 % 256), .int .u8 ((d.length : Int) % 256)] 4 (Nat.le_refl _) (by unfold maxLen; omega) rfl
    unfold OwnB
    have e : bcells (headB tag d.length) = [.int .u8 (tag % 256), .int .u8 ((d.length : Int) / 65536 % 256), .int .u8 ((d.length : Int) / 256 % 256), .int .u8 ((d.length : Int) % 256)] := by
      rw [u8_cell tag, u8_cell ((d.length : Int) / 65536), u8_cell ((d.length : Int) / 256), u8_cell (d.length : Int)]; rfl
    rw [e]; exact this
  go_enter Try.func111, Try.ntmps111
  go_wp2_with (at_builtin; refine wpList_appStr rfl _ _ rfl w.heap.size _ (headB tag d.length) rfl hown d rfl (by simp [headB]; omega) (by (try simp)) ?_; intro v' w' hown' hg')
  go_ret
  have hgr : World.grownBy _ _ (Value.slice (some ⟨w.heap.size, 0, none⟩) 4 4).ownBlock := hg'
  exact ⟨_, rfl, hown', below_grown (by (repeat' (first | exact Below.refl _ _ | assumption | refine below_drew ?_ | refine below_drewN ?_ _ | refine below_alloc ?_ _ | refine below_call ?_ (by assumption) | refine below_put ?_ _ _ _ (by first | omega | (simp; omega)) | refine below_setCell ?_ _ _ (by first | (simp; omega) | (simp; done) | omega) | refine below_putObj ?_ _ _ (by first | omega | (simp; omega) | (simp; done))))) hgr (fun k hk => by cases hk; exact Nat.le_refl _)⟩
end Go.Proofs.Ytgnebofjfmbccaa
