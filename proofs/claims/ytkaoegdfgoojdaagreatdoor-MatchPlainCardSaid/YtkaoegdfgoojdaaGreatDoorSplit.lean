/- split, round: the walks. -/
import Derived.Test.YtkaoegdfgoojdaaGreatDoorPut
namespace Go.Proofs.YtkaoegdfgoojdaaGreatDoor
open Go Go.RowKit

theorem BPost.imp {w w1 : World} {base B : Nat} {v v1 r : Value} {s1 : BS} (hm : Mv w w1 B v v1) {e : Ending} {w' : World}
    (h : BPost w1 base B v1 r s1 e w') : BPost w base B v r s1 e w' := by
  obtain ⟨v', h1, h2, h3⟩ := h
  exact ⟨v', h1, h2, hm.trans h3⟩

theorem put_raw (w : World) (base B : Nat) (v : Value) (s : BS) (op s0 s1 s2 s3 x y : Int) (h : Bd w base B v s) :
    Calls Tryz.prog 24 #[.pointer (some ⟨B, 0, none⟩), .agg #[.int .i64 op, .int .u64 s0, .int .u64 s1, .int .u64 s2, .int .u64 s3, .int .i64 x, .int .i64 y]] w (BPost w base B v (.int .i64 (putN s)) (putS s ⟨op, s0, s1, s2, s3, x, y⟩)) :=
  put_any w base B v s ⟨op, s0, s1, s2, s3, x, y⟩ h

set_option maxRecDepth 100000 in
set_option maxHeartbeats 400000 in
theorem split_any (w : World) (base B : Nat) (v : Value) (s : BS) (h : Bd w base B v s) :
    Calls Tryz.prog 59 #[.pointer (some ⟨B, 0, none⟩)] w (BPost w base B v (.int .i64 (putN s)) (splitS s)) := by
  have hs : (s.insts.length : Int) ≤ 3000 := by have := h.short; omega
  have H := Lib.hid h
  clear h
  go_enter Tryz.func59, Tryz.ntmps59
  go_wp2_with fail
  refine (next_any _ base B v s H.out).mono ?_
  rintro e w' ⟨rfl, rfl⟩
  go_wp2_with fail
  refine (put_raw _ base B v s _ _ _ _ _ _ _ H.out).mono ?_
  rintro e w' ⟨v', rfl, hb, hm⟩
  have HB := Lib.hid hb
  have HM := Lib.hid hm
  clear hb hm
  go_wp2
  go_ret
  exact ⟨_, rfl, HB.out, HM.out⟩

/-- The builder's node, at one value, in whatever world that is as this one below base. -/
def NodeAt (w0 : World) (base B : Nat) (nv : Value) (f : BS → BS) : Prop :=
  ∀ w v s, Below base w0 w → Bd w base B v s → Calls Tryz.prog 25 #[.pointer (some ⟨B, 0, none⟩), nv] w (BPost w base B v (.tuple #[]) (f s))

theorem Bd.below_of {w w1 : World} {base B : Nat} {v v1 : Value} {s : BS} (h : Bd w base B v s) (hm : Mv w w1 B v v1) : Below base w w1 :=
  hm.below h.hB (fun k hk => (h.ob k hk).1) (by have := h.lt; have := h.hB; omega)

set_option maxRecDepth 100000 in
set_option maxHeartbeats 400000 in
theorem round_any (w0 : World) (base B : Nat) (nv : Value) (f : BS → BS) (hf : NodeAt w0 base B nv f) (w : World) (v : Value) (s : BS) (hw : Below base w0 w) (h : Bd w base B v s) :
    Calls Tryz.prog 61 #[.pointer (some ⟨B, 0, none⟩), nv] w (BPost w base B v (.tuple #[]) (roundS f s)) := by
  have c2 := h.c2
  have f2 := h.fz 2
  have H := Lib.hid h
  have HW := Lib.hid hw
  have HF := Lib.hid hf
  have HB := h.lt
  clear h hw hf
  go_enter Tryz.func61, Tryz.ntmps61
  go_wp2_with fail
  refine (put_raw _ base B v _ _ _ _ _ _ _ _ (H.out.setLoops _)).mono ?_
  rintro e w1 ⟨v1, rfl, hb, hm⟩
  have HB1 := Lib.hid hb
  have HM1 := Lib.hid hm
  clear hb hm c2 f2
  go_wp2_with fail
  refine (HF.out _ v1 _ (HW.out.trans ((H.out.below_of (Mv.setB _ _)).trans ((H.out.setLoops _).below_of HM1.out))) HB1.out).mono ?_
  rintro e w2 ⟨v2, rfl, hb, hm⟩
  have HB2 := Lib.hid hb
  have HM2 := Lib.hid hm
  clear hb hm
  go_wp2_with fail
  refine (put_raw _ base B v2 _ _ _ _ _ _ _ _ HB2.out).mono ?_
  rintro e w3 ⟨v3, rfl, hb, hm⟩
  have HB3 := Lib.hid hb
  have HM3 := Lib.hid hm
  clear hb hm
  go_wp2
  go_end0
  exact ⟨_, rfl, HB3.out, (Mv.setB _ _).trans (HM1.out.trans (HM2.out.trans HM3.out))⟩
end Go.Proofs.YtkaoegdfgoojdaaGreatDoor
