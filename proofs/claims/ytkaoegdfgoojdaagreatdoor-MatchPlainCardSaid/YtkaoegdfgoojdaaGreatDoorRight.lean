/- right: the walk, by induction on a tree's size. -/
import Derived.Test.YtkaoegdfgoojdaaGreatDoorShaped
namespace Go.Proofs.YtkaoegdfgoojdaaGreatDoor
open Go Go.RowKit

/-- A slice of nodes: the nodes lie below N, the slice too or in a block from M on. -/
def KidsAt (M N : Nat) (w : World) (ps : List Tr) (x : Value) : Prop :=
  (ps = [] ∧ x = .slice none 0 0) ∨ ∃ b off c, x = .slice (some ⟨b, off, none⟩) ps.length c ∧ (b < N ∨ M ≤ b) ∧ b < w.heap.size ∧ ps.length ≤ c ∧ c ≤ 9223372036854775807 ∧
    ∀ j, j < ps.length → ∃ v, w.cell? ⟨b, off + j, none⟩ = some v ∧ Nd w N (ps.getD j .empty) v
theorem KidsAt.form {M N : Nat} {w : World} {ps : List Tr} {x : Value} (h : KidsAt M N w ps x) : ∃ a c, x = .slice a ps.length c ∧ ps.length ≤ 9223372036854775807 := by
  rcases h with ⟨rfl, rfl⟩ | ⟨b, off, c, rfl, _, _, h1, h2, _⟩
  · exact ⟨none, 0, rfl, by simp⟩
  · exact ⟨_, c, rfl, by omega⟩
theorem KidsAt.at {M N : Nat} {w : World} {ps : List Tr} {a : Option Addr} {c : Nat} (h : KidsAt M N w ps (.slice a ps.length c)) (j : Nat) (hj : j < ps.length) :
    ∃ b off v, a = some ⟨b, off, none⟩ ∧ w.cell? ⟨b, off + j, none⟩ = some v ∧ Nd w N (ps.getD j .empty) v := by
  rcases h with ⟨rfl, _⟩ | ⟨b, off, c', e, _, _, _, _, h3⟩
  · simp at hj
  · injection e with e1 _ _
    obtain ⟨v, h4, h5⟩ := h3 j hj
    exact ⟨b, off, v, e1, h4, h5⟩
theorem KidsAt.of_nds {M N : Nat} {w : World} {ps : List Tr} {x : Value} (hN : N ≤ w.heap.size) (h : Nds w N ps x) : KidsAt M N w ps x := by
  rcases h with h | ⟨b, off, c, e, hlt, h1, h2, h3⟩
  · exact .inl h
  · exact .inr ⟨b, off, c, e, .inl hlt, Nat.lt_of_lt_of_le hlt hN, h1, h2, NdCells.at ps off h3⟩
theorem KidsAt.move {M N base L : Nat} {w w' : World} {ps : List Tr} {y x x' : Value} (h : KidsAt M N w ps y) (hN : N ≤ base) (hL : L < M) (hx : ∀ k, x.ownBlock = some k → base ≤ k ∧ k < M) (hbL : base ≤ L) (hm : Mv w w' L x x') (hb : Below base w w') : KidsAt M N w' ps y := by
  rcases h with h | ⟨b, off, c, e, hlt, hbs, h1, h2, h3⟩
  · exact .inl h
  · refine .inr ⟨b, off, c, e, hlt, Nat.lt_of_lt_of_le hbs hm.size, h1, h2, fun j hj => ?_⟩
    obtain ⟨v, h4, h5⟩ := h3 j hj
    refine ⟨v, (World.cell?_of_block (a := ⟨b, off + j, none⟩) (hm.block b hbs ?_ ?_)).trans h4, Nd.below (hb.mono hN) _ _ h5⟩
    · rcases hlt with hlt | hlt <;> omega
    · intro e2
      have := hx b e2.symm
      rcases hlt with hlt | hlt <;> omega

def KidsPost2 (w : World) (N : Nat) (ps : List Tr) (e : Ending) (w' : World) : Prop := ∃ x, e = .returned x ∧ Below w.heap.size w w' ∧ KidsAt w.heap.size N w' ps x

theorem one_kid2 {w : World} {N : Nat} (hN : N ≤ w.heap.size) {t : Tr} {v : Value} (h : Nd w N t v) (o : Obj) (ty : TypeId) :
    Below w.heap.size w ((w.alloc o).alloc (.cells #[v] ty)) ∧ KidsAt w.heap.size N ((w.alloc o).alloc (.cells #[v] ty)) [t] (.slice (some ⟨w.heap.size + 1, 0, none⟩) 1 1) := by
  have hb : Below w.heap.size w ((w.alloc o).alloc (.cells #[v] ty)) := ((Below.refl _ _).alloc (Nat.le_refl _) _).alloc (by rw [show (w.alloc o).heap.size = w.heap.size + 1 from Array.size_push _]; omega) _
  have hs : ((w.alloc o).alloc (.cells #[v] ty)).heap.size = w.heap.size + 2 := by
    rw [show ((w.alloc o).alloc (.cells #[v] ty)).heap.size = (w.alloc o).heap.size + 1 from Array.size_push _, show (w.alloc o).heap.size = w.heap.size + 1 from Array.size_push _]
  refine ⟨hb, .inr ⟨w.heap.size + 1, 0, 1, rfl, .inr (by omega), by omega, Nat.le_refl _, by omega, fun j hj => ?_⟩⟩
  obtain rfl : j = 0 := by simpa using hj
  refine ⟨v, ?_, Nd.below (hb.mono hN) t v h⟩
  have h1 := heap_alloc_new (w.alloc o) (.cells #[v] ty)
  rw [show (w.alloc o).heap.size = w.heap.size + 1 from Array.size_push _] at h1
  exact cell_of h1 rfl

set_option maxRecDepth 100000 in
set_option maxHeartbeats 800000 in
theorem kids_any2 (w : World) (N : Nat) (hN : N ≤ w.heap.size) (t : Tr) (v : Value) (h : Nd w N t v) :
    Calls Tryz.prog 38 #[v] w (KidsPost2 w N (kidsT t)) := by
  cases t with
  | cat ps =>
    obtain ⟨y, rfl, hx⟩ := h
    have H := Lib.hid (show Nds w N ps y from hx)
    obtain ⟨a, c, rfl, _⟩ := Nds.form hx
    clear hx
    go_enter Tryz.func38, Tryz.ntmps38
    go_wp2_with fail
    go_ret
    have hb : Below w.heap.size w (w.alloc (.cells #[.slice a ps.length c] 81)) := (Below.refl _ _).alloc (Nat.le_refl _) _
    exact ⟨_, rfl, hb, KidsAt.of_nds (Nat.le_trans hN hb.size) (H.out.below (hb.mono hN))⟩
  | alt ps =>
    obtain ⟨y, rfl, hx⟩ := h
    have H := Lib.hid (show Nds w N ps y from hx)
    obtain ⟨a, c, rfl, _⟩ := Nds.form hx
    clear hx
    go_enter Tryz.func38, Tryz.ntmps38
    go_wp2_with fail
    go_ret
    have hb : Below w.heap.size w (w.alloc (.cells #[.slice a ps.length c] 82)) := (Below.refl _ _).alloc (Nat.le_refl _) _
    exact ⟨_, rfl, hb, KidsAt.of_nds (Nat.le_trans hN hb.size) (H.out.below (hb.mono hN))⟩
  | rep t m x =>
    obtain ⟨y, rfl, hx⟩ := h
    have H := Lib.hid hx
    obtain ⟨T, z, rfl⟩ := hx.form
    clear hx
    go_enter Tryz.func38, Tryz.ntmps38
    go_wp2_with fail
    go_ret
    exact ⟨_, rfl, one_kid2 hN H.out _ _⟩
  | group n t =>
    obtain ⟨y, rfl, hx⟩ := h
    have H := Lib.hid hx
    obtain ⟨T, z, rfl⟩ := hx.form
    clear hx
    go_enter Tryz.func38, Tryz.ntmps38
    go_wp2_with fail
    go_ret
    exact ⟨_, rfl, one_kid2 hN H.out _ _⟩
  | _ =>
    obtain rfl := h
    go_enter Tryz.func38, Tryz.ntmps38
    go_wp2_with fail
    go_ret
    exact ⟨_, rfl, Below.refl _ _, .inl ⟨rfl, rfl⟩⟩

/-- What holds at the head of right's loop: k kids are right. -/
def RtRel (W0 : World) (base L : Nat) (x0 : Value) (s : St) (ps : List Tr) (i : Value) (wr : World) : Prop :=
  ∃ k x s1, k ≤ ps.length ∧ i = .int .i64 (k : Nat) ∧ rightL (ps.take k) s = some s1 ∧ Lk wr base L x s1 ∧ Mv W0 wr L x0 x

set_option maxRecDepth 100000 in
set_option maxHeartbeats 800000 in
theorem right_any (base L : Nat) (n : Nat) : ∀ (t : Tr), sizeT t ≤ n → ∀ (w : World) (N : Nat) (v x : Value) (s : St), N ≤ base → Lk w base L x s → Nd w N t v → s.2.length + groupsN t ≤ 1048576 →
    Calls Tryz.prog 37 #[.pointer (some ⟨L, 0, none⟩), v] w (LPost w base L x (rightT t s)) := by
  induction n with
  | zero => intro t ht; exact absurd ht (by cases t <;> simp [sizeT])
  | succ n ih =>
    intro t ht w N v x s hNb h hv hgb
    have IH : ∀ k, k < (kidsT t).length → ∀ (w : World) (N : Nat) (v x : Value) (s : St), N ≤ base → Lk w base L x s → Nd w N ((kidsT t).getD k .empty) v → s.2.length + groupsN ((kidsT t).getD k .empty) ≤ 1048576 → Calls Tryz.prog 37 #[.pointer (some ⟨L, 0, none⟩), v] w (LPost w base L x (rightT ((kidsT t).getD k .empty) s)) :=
      fun k hk => ih _ (by have := kid_size t k hk; omega)
    have HIH := Lib.hid IH
    have hN : N ≤ w.heap.size := by have := h.lt; have := h.hL; omega
    have HN := Lib.hid hN
    have HNb := Lib.hid hNb
    have H := Lib.hid h
    have HV := Lib.hid hv
    have HGB := Lib.hid hgb
    have HK := Lib.hid (rightT_kids t s)
    have HGK := Lib.hid (groupsN_kids t)
    clear ih IH h hgb hNb hN
    go_enter Tryz.func37, Tryz.ntmps37
    go_wp2_with fail
    refine (shaped_any w base L N HN.out x s t v H.out HV.out).mono ?_
    rintro e w2 ⟨x2, rfl, hm, hl⟩
    have HM2 := Lib.hid hm
    have HL2 := Lib.hid hl
    clear hm hl
    cases hsh : shapedT t s with
    | none =>
      rw [hsh] at HK
      clear hsh
      go_wp2_with fail
      go_ret
      refine ⟨x2, ?_, HM2.out, fun s' hs => ?_⟩
      · rw [HK.out]; rfl
      · rw [HK.out] at hs; cases hs
    | some s2 =>
      rw [hsh] at HK
      have HB2 := Lib.hid (HL2.out s2 hsh)
      have HSC := Lib.hid (shapedT_closed t s s2 hsh)
      clear HL2 hsh
      go_wp2_with fail
      refine (kids_any2 w2 N (Nat.le_trans HN.out HM2.out.size) t v (Nd.below ((H.out.below_of HM2.out).mono HNb.out) t v HV.out)).mono ?_
      rintro e w3 ⟨y, rfl, hb, hx⟩
      obtain ⟨a, c, rfl, hlen⟩ := hx.form
      have HB3 := Lib.hid (HB2.out.of_below hb)
      have HM3 := Lib.hid (HM2.out.trans (Mv.of_below hb))
      have HX := Lib.hid hx
      have HLt := Lib.hid HB2.out.lt
      have HOb := Lib.hid HB2.out.ob
      clear hb hx
      go_wp2_with fail
      go_loopw [16] (fun i wr => RtRel w3 base L x2 s2 (kidsT t) i wr) (fun i _ => (kidsT t).length - (intOf i).toNat)
      case atStart => exact ⟨0, x2, s2, Nat.zero_le _, rfl, rfl, HB3.out, Mv.refl _ _ _⟩
      case round =>
        obtain ⟨k, x4, s4, hk, rfl, hr4, hl4, hm4⟩ := hrel
        have HR4 := Lib.hid hr4
        have HL4 := Lib.hid hl4
        have HM4 := Lib.hid hm4
        have HX4 := Lib.hid (HX.out.move HNb.out HLt.out HOb.out H.out.hL HM4.out (HB3.out.below_of HM4.out))
        clear hr4 hl4 hm4
        by_cases hlt : k < (kidsT t).length
        · obtain ⟨b, off, v4, rfl, hcell, hnd⟩ := HX4.out.at k hlt
          have HND := Lib.hid hnd
          clear hnd
          go_wp2_with fail
          clear hcell
          refine (HIH.out k hlt wr N v4 x4 s4 HNb.out HL4.out HND.out ?len).mono ?_
          case len =>
            have h1 := rightL_closed _ _ _ HR4.out
            have h2 := groupsL_take (kidsT t) k hlt
            have h3 := groupsL_le (kidsT t) (k + 1)
            have h4 := HGK.out
            have h5 := HGB.out
            have h6 := congrArg List.length HSC.out
            split at h4 <;> omega
          rintro e w5 ⟨x5, rfl, hm5, hl5⟩
          have HM5 := Lib.hid hm5
          have HL5 := Lib.hid hl5
          clear hm5 hl5
          have HT := Lib.hid (rightL_take (kidsT t) k hlt s2)
          cases hrt : rightT ((kidsT t).getD k .empty) s4 with
          | none =>
            have HRT := Lib.hid hrt
            clear hrt
            go_wp2_with fail
            go_ret
            have e0 : rightT t s = none := by
              rw [HK.out]
              have : rightL (kidsT t) s2 = none := rightL_stop _ (k + 1) _ (by rw [HT.out, HR4.out]; exact HRT.out)
              simp [this]
            refine ⟨x5, ?_, HM3.out.trans (HM4.out.trans HM5.out), fun s' hs => ?_⟩
            · rw [e0]; rfl
            · rw [e0] at hs; cases hs
          | some s5 =>
            have HRT := Lib.hid hrt
            clear hrt
            go_wp2_with fail
            go_roundw
            case rel => exact ⟨k + 1, x5, s5, by omega, by go_num, by rw [HT.out, HR4.out]; exact HRT.out, HL5.out s5 HRT.out, HM4.out.trans HM5.out⟩
            case measure => simp [intOf]; omega
        · obtain rfl : k = (kidsT t).length := by omega
          have HR := Lib.hid (show rightT t s = some (closeT t s4) by rw [HK.out]; have h := HR4.out; rw [List.take_length] at h; simp [h])
          cases hg : groupT t with
          | false =>
            obtain ⟨T, z, rfl, hT⟩ := HV.out.nogroup hg
            have hno := no_group T hT
            have HC := Lib.hid (show closeT t s4 = s4 by cases t <;> first | rfl | cases hg)
            clear hT hg hv
            go_wp2_with fail
            go_ret
            refine ⟨x4, by rw [HR.out]; rfl, (HM3.out.trans HM4.out).trans (Mv.alloc _), fun s' hs => ?_⟩
            rw [HR.out, HC.out] at hs
            cases hs
            exact HL4.out.alloc _
          | true =>
            cases t with
            | group m t =>
              obtain ⟨z, rfl, hz⟩ := HV.out
              obtain ⟨T, z', rfl⟩ := hz.form
              clear hz hg hv
              have h1 := rightL_closed _ _ _ HR4.out
              have hsm : s4.2.length + 1 ≤ 1048576 := by
                have h4 := HGK.out
                have h5 := HGB.out
                have h6 := congrArg List.length HSC.out
                rw [List.take_length] at h1
                simp only [groupT, if_true] at h4
                omega
              clear h1
              obtain ⟨a4, c4, rfl⟩ := HL4.out.form
              have c1 := HL4.out.c1
              have hLw := HL4.out.lt
              go_wp2_with fail
              obtain ⟨i0, hi, hz0, hz1, hz2⟩ := info_parts info_int
              have HI := Lib.hid hi
              have HZ0 := Lib.hid hz0
              have HZ1 := Lib.hid hz1
              have HZ2 := Lib.hid hz2
              clear hi hz0 hz1 hz2
              have HO := Lib.hid ((HL4.out.alloc (.cells #[.int .i64 m, .iface T (.agg z')] 86)).alloc (.cells #[.int .i64 m] 3)).drew
              have HS := Lib.hid (show base ≤ (((wr.alloc (.cells #[.int .i64 m, .iface T (.agg z')] 86)).alloc (.cells #[.int .i64 m] 3)).drew).heap.size by have h1 := HL4.out.hL; have h2 := HO.out.lt; omega)
              go_region_law (refine step_append_lies _ rfl (.tmp 35) (.tmp 38) 34 rfl base 3 i0 _ 1 8 und_ints HI.out HZ0.out HZ1.out HZ2.out rfl (by decide) _ s4.2.length _ rfl HO.out.own _ 1 1 [.int .i64 m] rfl rfl (news2 wr _ _ _) (by intro u hu; rw [List.mem_singleton.1 hu]; rfl) (by decide) (by unfold maxLen; omega) (by omega) (HS.out) _ rfl ?_; intro g cap w1 hown hgrow hat hlt; obtain ⟨p1, p2, p3, p4, p5⟩ := HO.out.appended hown hgrow hat; have P4 := Lib.hid p4; have P5 := Lib.hid p5; clear p4 p5 hown hgrow hat)
              all_goals
                go_wp2
                go_ret
                refine ⟨_, by rw [HR.out]; rfl, ((HM3.out.trans HM4.out).trans ((Mv.alloc _).trans (Mv.alloc _)).drew).trans P5.out, fun s' hs => ?_⟩
                rw [HR.out] at hs
                cases hs
                exact P4.out
            | _ => cases hg
end Go.Proofs.YtkaoegdfgoojdaaGreatDoor
