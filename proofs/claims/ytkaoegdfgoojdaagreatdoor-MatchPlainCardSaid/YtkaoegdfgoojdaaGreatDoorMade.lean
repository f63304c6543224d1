/- Made: the walk (seat 2). -/
import Derived.Test.YtkaoegdfgoojdaaGreatDoorRealB
namespace Go.Proofs.YtkaoegdfgoojdaaGreatDoor
open Go Go.RowKit
set_option maxRecDepth 100000

/-- What Made leaves, where the tree is right and its program is not too long. -/
def MadePost (w : World) (b : BS) (e : Ending) (w' : World) : Prop :=
  ∃ R gi icap, e = .returned (.tuple #[.pointer (some ⟨R, 0, none⟩), .bool true]) ∧ Below w.heap.size w w' ∧ Rx w' R gi icap b.insts b.groups b.loops

set_option maxHeartbeats 1600000 in
theorem made_any (t : RT) (w : World) (N : Nat) (cs : List Value) (hN : N ≤ w.heap.size) (h : Rd w N t cs) (hbig : rsize t ≤ 1048576) (hs : sizeT (realT t) ≤ 1048576) (hr : rightB (realT t) = true) (hf : (finalB (realT t)).full = false)
    (h0 : 0 < (finalB (realT t)).insts.length) (hb : (finalB (realT t)).backs = false) :
    Calls Tryz.prog 6 #[.agg cs.toArray] w (MadePost w (finalB (realT t))) := by
  obtain ⟨k, s0, s1, s2, s3, a, n, c, mn, mx, num, rfl⟩ := h.form
  have hb0 : Below w.heap.size w (w.alloc (.cells #[.int .i64 k, .int .u64 s0, .int .u64 s1, .int .u64 s2, .int .u64 s3, .slice a n c, .int .i64 mn, .int .i64 mx, .int .i64 num] 28)) := (Below.refl _ _).alloc (Nat.le_refl _) _
  have HRL := Lib.hid (real_any (mu t) t (Nat.le_refl _) hbig _ N _ (Nat.le_trans hN hb0.size) (Rd.below (hb0.mono hN) _ _ h))
  have HB0 := Lib.hid hb0
  have HS := Lib.hid hs
  have HRT := Lib.hid hr
  have HF := Lib.hid hf
  have H0 := Lib.hid h0
  have HBK := Lib.hid hb
  clear h hbig hs hr hf h0 hb hb0
  go_enter Tryz.func6, Tryz.ntmps6
  go_wp2_with fail
  refine HRL.out.mono ?_
  rintro e w2 ⟨v, rfl, hb2, hnd⟩
  have hcp := Compile_any w2 w2.heap.size (Nat.le_refl _) (realT t) v hnd.unmask HS.out
  obtain ⟨T, z, rfl⟩ := (Nd.unmask hnd).form
  have HCP := Lib.hid hcp
  have HB2 := Lib.hid (HB0.out.trans (hb2.mono HB0.out.size))
  clear hcp hb2 hnd
  go_wp2_with fail
  refine HCP.out.mono ?_
  rintro e w3 ⟨hb3, hpost⟩
  rw [if_pos HRT.out, if_neg (by rw [HF.out]; simp)] at hpost
  obtain ⟨x, rfl, ho, hl⟩ := hpost
  obtain ⟨g, cap, rfl, h0g, _⟩ := ho.form H0.out
  have HB3 := Lib.hid (HB2.out.trans (hb3.mono HB2.out.size))
  rw [HBK.out]
  generalize hP : (finalB (realT t)).insts = P at *
  generalize hG : (finalB (realT t)).groups = G at *
  generalize hE : (finalB (realT t)).loops = E at *
  have HNW := Lib.hid (new_any (w3.alloc (.cells #[.slice (some ⟨g, 0, none⟩) P.length cap, .int .i64 G, .int .i64 E, .bool false] 47)) w2.heap.size g cap P G E false H0.out hl (ho.alloc _))
  have hz : ((P.length : Int) == 0) = false := by rw [beq_eq_false_iff_ne]; have := H0.out; omega
  clear hb3 ho hl h0g
  go_wp2_with fail
  refine HNW.out.mono ?_
  rintro e w4 ⟨R, gi, icap, rfl, hrb, hown, hb4, hR⟩
  have hba : Below w3.heap.size w3 (w3.alloc (.cells #[.slice (some ⟨g, 0, none⟩) P.length cap, .int .i64 G, .int .i64 E, .bool false] 47)) := (Below.refl _ _).alloc (Nat.le_refl _) _
  have HB4 := Lib.hid (HB3.out.trans ((hba.trans (hb4.mono hba.size)).mono HB3.out.size))
  have HRX := Lib.hid (show Rx w4 R gi icap P G E from ⟨hrb, (hown.lt gi rfl).2, fun j u hu => by
    rw [hown.cellAt j (by have := (List.getElem?_eq_some_iff.1 hu).1; rw [flat_length] at this; exact this)]; exact hu⟩)
  clear hrb hown hb4 hR hba
  go_wp2_with fail
  go_ret2
  exact ⟨R, gi, icap, rfl, HB4.out, by rw [hP, hG, hE]; exact HRX.out⟩
end Go.Proofs.YtkaoegdfgoojdaaGreatDoor
