/- sign, op of the reference's reading: the walks (seat 2). -/
import Derived.Test.YtkaoegdfgoojdaaGreatDoorJoin
namespace Go.Proofs.YtkaoegdfgoojdaaGreatDoor
open Go Go.RowKit
set_option maxRecDepth 100000

/-- A reading: an extended regex, without marks, without an error. -/
def rVal (S : ByteArray) (at_ opn : Nat) (a : Option Addr) (n c : Nat) : Value := .agg #[.string S, .bool true, .int .i64 at_, .int .i64 opn, .slice a n c, .slice none 0 0, .int .i64 0, .int .i64 0]

theorem extract_one (S : ByteArray) (i : Nat) (h : i < S.size) : S.extract i (i + 1) = ⟨#[S[i]'h]⟩ := by
  apply ByteArray.ext
  rw [ByteArray.data_extract]
  apply Array.ext
  · simp; show min (i + 1) S.data.size - i = 1; have : i < S.data.size := h; omega
  · intro j h1 h2
    simp at h2
    subst h2
    simp
    rfl

set_option maxHeartbeats 800000 in
theorem sign_end (w : World) (S : ByteArray) (at_ opn : Nat) (a : Option Addr) (n c i : Nat) (hi : ¬ i < S.size) :
    Calls Tryz.prog 53 #[rVal S at_ opn a n c, .int .i64 i] w (Says w (.string ⟨#[]⟩)) := by
  have h1 : (S.size : Int) ≤ (i : Int) := by omega
  unfold rVal
  go_enter Tryz.func53, Tryz.ntmps53
  go_wp2_with fail
  go_ret
  exact ⟨rfl, (Below.refl _ _).alloc (Nat.le_refl _) _⟩

set_option maxHeartbeats 800000 in
theorem sign_byte (w : World) (S : ByteArray) (at_ opn : Nat) (a : Option Addr) (n c i : Nat) (hi : i < S.size) (hs : S.size ≤ 1048576) (hne : (S[i]'hi).toNat ≠ 92) :
    Calls Tryz.prog 53 #[rVal S at_ opn a n c, .int .i64 i] w (Says w (.string ⟨#[S[i]'hi]⟩)) := by
  have h1 : ¬ (S.size : Int) ≤ (i : Int) := by omega
  have h2 : (i : Int) < (S.size : Int) := by omega
  have h3 : (((S[i]'hi).toNat : Int) == 92) = false := by rw [beq_eq_false_iff_ne]; omega
  have e1 : IntKind.i64.wrap ((i : Int) + 1) = (i : Int) + 1 := IntWalk.i64_in _ (by omega)
  rw [← extract_one S i hi]
  unfold rVal
  go_enter Tryz.func53, Tryz.ntmps53
  go_wp2_with fail
  go_ret
  exact ⟨rfl, (Below.refl _ _).alloc (Nat.le_refl _) _⟩

set_option maxHeartbeats 800000 in
theorem op_any (w : World) (S : ByteArray) (at_ opn : Nat) (a : Option Addr) (n c : Nat) (b : ByteArray) :
    Calls Tryz.prog 54 #[rVal S at_ opn a n c, .string b] w (Says w (.string b)) := by
  unfold rVal
  go_enter Tryz.func54, Tryz.ntmps54
  go_wp2_with fail
  go_ret
  exact ⟨rfl, (Below.refl _ _).alloc (Nat.le_refl _) _⟩
end Go.Proofs.YtkaoegdfgoojdaaGreatDoor
