/- IndexFunc, ContainsFunc, Index, Contains, Groups, Backs: the walks. -/
import Derived.Test.YtkaoegdfgoojdaaGreatDoorTreeA
namespace Go.Proofs.YtkaoegdfgoojdaaGreatDoor
open Go Go.RowKit

/-- The first place from k on at which p holds; -1: none. -/
def idxF {α : Type} (p : α → Bool) : List α → Nat → Int
  | [], _ => -1
  | t :: r, k => if p t then (k : Int) else idxF p r (k + 1)
theorem idxF_any {α : Type} (p : α → Bool) (l : List α) : ∀ k, decide (0 ≤ idxF p l k) = l.any p := by
  induction l with
  | nil => intro k; simp [idxF]
  | cons t r ih => intro k; rw [idxF]; cases h : p t <;> simp [h, ih]
theorem idxF_drop {α : Type} [Inhabited α] (p : α → Bool) (l : List α) (d : α) (k : Nat) (h : k < l.length) : idxF p (l.drop k) k = if p (l.getD k d) then (k : Int) else idxF p (l.drop (k + 1)) (k + 1) := by
  rw [List.drop_eq_getElem_cons h, idxF]
  simp [List.getD, h]
theorem idxF_lo {α : Type} (p : α → Bool) (l : List α) : ∀ k, -1 ≤ idxF p l k := by
  induction l with
  | nil => intro k; simp [idxF]
  | cons t r ih => intro k; rw [idxF]; split; omega; exact ih _
instance : Inhabited Tr := ⟨.empty⟩

/-- A function of a node that answers p. -/
def Tells (w : World) (N : Nat) (f : FuncId) (p : Tr → Bool) (ps : List Tr) : Prop :=
  ∀ j, j < ps.length → ∀ v w', Below w.heap.size w w' → Nd w' N (ps.getD j .empty) v → Calls Tryz.prog f #[v] w' (Says w' (.bool (p (ps.getD j .empty))))

def IdxRel (w : World) (p : Tr → Bool) (ps : List Tr) (i : Value) (wr : World) : Prop :=
  ∃ k, k ≤ ps.length ∧ i = .int .i64 (k : Nat) ∧ idxF p (ps.drop k) k = idxF p ps 0 ∧ Below w.heap.size w wr

set_option maxRecDepth 100000 in
set_option maxHeartbeats 800000 in
theorem indexFunc_any (w : World) (N : Nat) (hN : N ≤ w.heap.size) (ps : List Tr) (x : Value) (hx : Nds w N ps x) (f : FuncId) (hcf : ∀ (args : Array Value) (w : World), (callFunc f args).run Tryz.prog w = .ok (.enter f args) w) (p : Tr → Bool) (hf : Tells w N f p ps) :
    Calls Tryz.prog 58 #[x, .func (.func f) #[] #[]] w (Says w (.int .i64 (idxF p ps 0))) := by
  obtain ⟨a, c, rfl, hlen⟩ := hx.form
  have H := Lib.hid hx
  have HF := Lib.hid hf
  clear hx hf
  go_enter Tryz.func58, Tryz.ntmps58
  go_wp2_with fail
  go_loopw [8] (fun i wr => IdxRel w p ps i wr) (fun i _ => ps.length - (intOf i).toNat)
  case atStart => exact ⟨0, Nat.zero_le _, rfl, rfl, Below.refl _ _⟩
  case round =>
    obtain ⟨k, hk, rfl, hi, hb⟩ := hrel
    have HI := Lib.hid hi
    have HB := Lib.hid hb
    clear hi hb
    by_cases hlt : k < ps.length
    · obtain ⟨b, off, v, rfl, hbN, hcell, hnd⟩ := (H.out.below (HB.out.mono hN)).at k hlt
      have HND := Lib.hid hnd
      have HD := Lib.hid (idxF_drop p ps .empty k hlt)
      clear hnd hbN
      go_wp2_with fail
      refine (HF.out k hlt v _ HB.out HND.out).mono ?_
      rintro e w2 ⟨rfl, hb2⟩
      have HB2 := Lib.hid (HB.out.trans (hb2.mono HB.out.size))
      clear hb2 hcell
      cases hp : p (ps.getD k .empty) with
      | true =>
        have HP := Lib.hid hp
        clear hp
        go_wp2_with fail
        go_ret
        refine ⟨?_, HB2.out⟩
        rw [← HI.out, HD.out, HP.out]; rfl
      | false =>
        have HP := Lib.hid hp
        clear hp
        go_wp2_with fail
        go_roundw
        case rel =>
          refine ⟨k + 1, by omega, by go_num, ?_, HB2.out⟩
          rw [← HI.out, HD.out, HP.out]; rfl
        case measure => simp [intOf]; omega
    · obtain rfl : k = ps.length := by omega
      go_wp2_with fail
      go_ret
      refine ⟨?_, HB.out⟩
      rw [← HI.out, List.drop_length]; rfl

set_option maxRecDepth 100000 in
set_option maxHeartbeats 400000 in
theorem containsFunc_any (w : World) (N : Nat) (hN : N ≤ w.heap.size) (ps : List Tr) (x : Value) (hx : Nds w N ps x) (f : FuncId) (hcf : ∀ (args : Array Value) (w : World), (callFunc f args).run Tryz.prog w = .ok (.enter f args) w) (p : Tr → Bool) (hf : Tells w N f p ps) :
    Calls Tryz.prog 39 #[x, .func (.func f) #[] #[]] w (Says w (.bool (ps.any p))) := by
  have H := Lib.hid hx
  have HF := Lib.hid hf
  clear hx hf
  go_enter Tryz.func39, Tryz.ntmps39
  go_wp2_with fail
  refine (indexFunc_any w N hN ps x H.out f hcf p HF.out).mono ?_
  rintro e w2 ⟨rfl, hb⟩
  have HB := Lib.hid hb
  clear hb
  go_wp2_with fail
  go_ret
  exact ⟨by rw [← idxF_any p ps 0]; rfl, HB.out⟩

/-- A slice of ints, each in a cell. -/
def IntsAt (w : World) (N : Nat) (l : List Int) (x : Value) : Prop :=
  (l = [] ∧ x = .slice none 0 0) ∨ ∃ b off c, x = .slice (some ⟨b, off, none⟩) l.length c ∧ b < N ∧ l.length ≤ c ∧ c ≤ 9223372036854775807 ∧ ∀ j, j < l.length → w.cell? ⟨b, off + j, none⟩ = some (.int .i64 (l.getD j 0))
theorem IntsAt.form {w : World} {N : Nat} {l : List Int} {x : Value} (h : IntsAt w N l x) : ∃ a c, x = .slice a l.length c ∧ l.length ≤ 9223372036854775807 := by
  rcases h with ⟨rfl, rfl⟩ | ⟨b, off, c, rfl, _, h1, h2, _⟩
  · exact ⟨none, 0, rfl, by simp⟩
  · exact ⟨_, c, rfl, by omega⟩
theorem IntsAt.at {w : World} {N : Nat} {l : List Int} {a : Option Addr} {c : Nat} (h : IntsAt w N l (.slice a l.length c)) (j : Nat) (hj : j < l.length) :
    ∃ b off, a = some ⟨b, off, none⟩ ∧ w.cell? ⟨b, off + j, none⟩ = some (.int .i64 (l.getD j 0)) := by
  rcases h with ⟨rfl, _⟩ | ⟨b, off, c', e, _, _, _, h3⟩
  · simp at hj
  · injection e with e1 _ _
    exact ⟨b, off, e1, h3 j hj⟩

def IdxIRel (w : World) (n : Int) (l : List Int) (i : Value) (wr : World) : Prop :=
  ∃ k, k ≤ l.length ∧ i = .int .i64 (k : Nat) ∧ idxF (fun x => n == x) (l.drop k) k = idxF (fun x => n == x) l 0 ∧ w = wr

set_option maxRecDepth 100000 in
set_option maxHeartbeats 800000 in
theorem indexInts_any (w : World) (N : Nat) (l : List Int) (n : Int) (x : Value) (hx : IntsAt w N l x) :
    Calls Tryz.prog 47 #[x, .int .i64 n] w fun e w' => e = .returned (.int .i64 (idxF (fun x => n == x) l 0)) ∧ w = w' := by
  obtain ⟨a, c, rfl, hlen⟩ := hx.form
  have H := Lib.hid hx
  clear hx
  go_enter Tryz.func47, Tryz.ntmps47
  go_wp2_with fail
  go_loopw [8] (fun i wr => IdxIRel w n l i wr) (fun i _ => l.length - (intOf i).toNat)
  case atStart => exact ⟨0, Nat.zero_le _, rfl, rfl, rfl⟩
  case round =>
    obtain ⟨k, hk, rfl, hi, rfl⟩ := hrel
    have HI := Lib.hid hi
    clear hi
    by_cases hlt : k < l.length
    · obtain ⟨b, off, rfl, hcell⟩ := H.out.at k hlt
      have HD := Lib.hid (idxF_drop (fun x => n == x) l 0 k hlt)
      obtain ⟨y, hy⟩ : ∃ y, l.getD k 0 = y := ⟨_, rfl⟩
      rw [hy] at hcell
      rw [hy] at HD
      clear hy
      cases hp : (n == y) with
      | true =>
        have HP := Lib.hid hp
        go_wp2_with fail
        go_ret
        refine ⟨?_, rfl⟩
        rw [← HI.out, HD.out, HP.out]; rfl
      | false =>
        have HP := Lib.hid hp
        go_wp2_with fail
        go_roundw
        case rel =>
          refine ⟨k + 1, by omega, by go_num, ?_, rfl⟩
          rw [← HI.out, HD.out, HP.out]; rfl
        case measure => simp [intOf]; omega
    · obtain rfl : k = l.length := by omega
      go_wp2_with fail
      go_ret
      refine ⟨?_, rfl⟩
      rw [← HI.out, List.drop_length]; rfl

set_option maxRecDepth 100000 in
set_option maxHeartbeats 400000 in
theorem containsInts_any (w : World) (N : Nat) (l : List Int) (n : Int) (x : Value) (hx : IntsAt w N l x) :
    Calls Tryz.prog 33 #[x, .int .i64 n] w fun e w' => e = .returned (.bool (l.any (fun x => n == x))) ∧ w = w' := by
  have H := Lib.hid hx
  clear hx
  go_enter Tryz.func33, Tryz.ntmps33
  go_wp2_with fail
  refine (indexInts_any w N l n x H.out).mono ?_
  rintro e w2 ⟨rfl, rfl⟩
  go_wp2_with fail
  go_ret
  exact ⟨by rw [← idxF_any (fun x => n == x) l 0]; rfl, rfl⟩

theorem enters_plain (args : Array Value) (w : World) : (callFunc 82 args).run Tryz.prog w = .ok (.enter 82 args) w := by kernel_rfl
theorem enters_alt (args : Array Value) (w : World) : (callFunc 84 args).run Tryz.prog w = .ok (.enter 84 args) w := by kernel_rfl
theorem enters_backs (args : Array Value) (w : World) : (callFunc 23 args).run Tryz.prog w = .ok (.enter 23 args) w := by kernel_rfl
end Go.Proofs.YtkaoegdfgoojdaaGreatDoor
