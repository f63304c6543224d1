/- Real: the walk. -/
import Derived.Test.YtkaoegdfgoojdaaGreatDoorRealA
namespace Go.Proofs.YtkaoegdfgoojdaaGreatDoor
open Go Go.RowKit

theorem ofR_size (t : RT) : rsize (ofR t) ≤ rsize t ∧ (t.parts ≠ [] → rsize (ofR t) < rsize t) := by
  match t with
  | .mk k s0 s1 s2 s3 ps mn mx num =>
    cases ps with
    | nil => exact ⟨by simp [ofR, RT.parts, rsize, rsizeL, RT.zero], fun h => absurd rfl h⟩
    | cons u r => simp only [ofR, RT.parts, List.getD_cons_zero, rsize, rsizeL]; exact ⟨by omega, fun _ => by omega⟩
/-- A number that goes down from a node to its kids. -/
def mu (t : RT) : Nat := 2 * rsize t + if kidsR t = [] then 0 else 1
theorem kidR_mu (t : RT) (j : Nat) (h : j < (kidsR t).length) : mu ((kidsR t).getD j .zero) < mu t ∧ rsize ((kidsR t).getD j .zero) ≤ rsize t := by
  have hne : kidsR t ≠ [] := by intro e; rw [e] at h; simp at h
  have hm : mu t = 2 * rsize t + 1 := by simp [mu, hne]
  rw [hm]
  have hb : ∀ u, mu u ≤ 2 * rsize u + 1 := fun u => by unfold mu; split <;> omega
  match t, h with
  | .mk k s0 s1 s2 s3 ps mn mx num, h =>
    by_cases h1 : k = 2 ∨ k = 3
    · have e : kidsR (.mk k s0 s1 s2 s3 ps mn mx num) = ps := by simp [kidsR, RT.kind, RT.parts, h1]
      rw [e] at h ⊢
      have := rsizeL_at ps j h
      have := hb (ps.getD j .zero)
      simp only [rsize]
      omega
    · by_cases h2 : k = 4 ∨ k = 5
      · have e : kidsR (.mk k s0 s1 s2 s3 ps mn mx num) = [ofR (.mk k s0 s1 s2 s3 ps mn mx num)] := by simp [kidsR, RT.kind, h1, h2]
        rw [e] at h ⊢
        obtain rfl : j = 0 := by simpa using h
        obtain ⟨o1, o2⟩ := ofR_size (.mk k s0 s1 s2 s3 ps mn mx num)
        refine ⟨?_, o1⟩
        simp only [List.getD_cons_zero]
        by_cases hp : ps = []
        · subst hp
          simp [ofR, RT.parts, mu, RT.zero, rsize, rsizeL, kidsR, RT.kind]
        · have := o2 hp
          have := hb (ofR (.mk k s0 s1 s2 s3 ps mn mx num))
          omega
      · have e : kidsR (.mk k s0 s1 s2 s3 ps mn mx num) = [] := by simp [kidsR, RT.kind, h1, h2]
        rw [e] at h
        simp at h
theorem kidR_len (t : RT) : (kidsR t).length ≤ rsize t := by
  have hl : ∀ ps : List RT, ps.length ≤ rsizeL ps := fun ps => by
    induction ps with
    | nil => exact Nat.le_refl _
    | cons u r ih => have := rsize_pos u; simp only [List.length_cons, rsizeL]; omega
  match t with
  | .mk k s0 s1 s2 s3 ps mn mx num =>
    unfold kidsR
    have := hl ps
    split
    · simp only [RT.parts, rsize]; omega
    · split
      · simp only [List.length_singleton, rsize]; omega
      · simp

def Kin (w : World) (t : RT) (ps : List Tr) (v : Value) (wr : World) : Prop := ∃ M, w.heap.size ≤ M ∧ Below w.heap.size w wr ∧ Made M wr v ps

set_option maxRecDepth 100000 in
set_option maxHeartbeats 1000000 in
theorem real_any (n : Nat) : ∀ (t : RT), mu t ≤ n → rsize t ≤ 1048576 → ∀ (w : World) (N : Nat) (cs : List Value), N ≤ w.heap.size → Rd w N t cs →
    Calls Tryz.prog 15 #[.agg cs.toArray] w (RealPost w (realT t)) := by
  induction n with
  | zero => intro t ht; exact absurd ht (by have := rsize_pos t; unfold mu; omega)
  | succ n ih =>
    intro t ht hbig w N cs hN h
    have H := Lib.hid h
    match t, h with
    | .mk k s0 s1 s2 s3 ps mn mx num, ⟨a, c, e, hl, hor⟩ =>
      subst e
      have hkl := Nat.le_trans (kidR_len (.mk k s0 s1 s2 s3 ps mn mx num)) hbig
      have IH : ∀ j, j < (kidsR (.mk k s0 s1 s2 s3 ps mn mx num)).length → ∀ (w : World) (N : Nat) (cs : List Value), N ≤ w.heap.size → Rd w N ((kidsR (.mk k s0 s1 s2 s3 ps mn mx num)).getD j .zero) cs → Calls Tryz.prog 15 #[.agg cs.toArray] w (RealPost w (realT ((kidsR (.mk k s0 s1 s2 s3 ps mn mx num)).getD j .zero))) :=
        fun j hj => ih _ (by have := (kidR_mu _ j hj).1; omega) (by have := (kidR_mu _ j hj).2; omega)
      have HIH := Lib.hid IH
      have hb0 : Below w.heap.size w (w.alloc (.cells #[.int .i64 k, .int .u64 s0, .int .u64 s1, .int .u64 s2, .int .u64 s3, .slice a ps.length c, .int .i64 mn, .int .i64 mx, .int .i64 num] 28)) := (Below.refl _ _).alloc (Nat.le_refl _) _
      have HB0 := Lib.hid hb0
      have HKI := Lib.hid (kidsR_any _ _ N _ (Nat.le_trans hN hb0.size) (Rd.below (hb0.mono hN) _ _ H.out))
      have HC0 := Lib.hid (heap_alloc_new w (.cells #[.int .i64 k, .int .u64 s0, .int .u64 s1, .int .u64 s2, .int .u64 s3, .slice a ps.length c, .int .i64 mn, .int .i64 mx, .int .i64 num] 28))
      have HZ := Lib.hid (show (w.alloc (.cells #[.int .i64 k, .int .u64 s0, .int .u64 s1, .int .u64 s2, .int .u64 s3, .slice a ps.length c, .int .i64 mn, .int .i64 mx, .int .i64 num] 28)).heap.size = w.heap.size + 1 from Array.size_push _)
      obtain ⟨K, hK⟩ : ∃ K, kidsR (.mk k s0 s1 s2 s3 ps mn mx num) = K := ⟨_, rfl⟩
      rw [hK] at HIH HKI hkl
      have HK := Lib.hid hK
      clear ih IH hor ht hbig hb0 hK
      go_enter Tryz.func15, Tryz.ntmps15
      go_wp2_with fail
      refine HKI.out.mono ?_
      rintro e w2 ⟨x2, rfl, hb2, a2, c2, rfl, hl2, hor2⟩
      have HB2 := Lib.hid (HB0.out.trans (hb2.mono HB0.out.size))
      have HC2 := Lib.hid ((hb2.block w.heap.size (by rw [HZ.out]; omega)).trans HC0.out)
      have HOR := Lib.hid hor2
      clear hb2 hor2
      go_upto_block 0 with (fail)
      go_cut [3] (fun v wx => Below w.heap.size w wx ∧ wx.heap[w.heap.size]? = some (.cells #[.int .i64 k, .int .u64 s0, .int .u64 s1, .int .u64 s2, .int .u64 s3, .slice a ps.length c, .int .i64 mn, .int .i64 mx, .int .i64 num] 28 (0, 0)) ∧ ∃ M, w.heap.size ≤ M ∧ Made M wx v (K.map realT))
      case first =>
        go_wp2_with fail
        go_loopw [3, 9] (fun v i wr => RlRel w2 w2.heap.size K v i wr) (fun _ i _ => K.length - (intOf i).toNat)
        case atStart => exact ⟨0, Nat.zero_le _, rfl, ⟨[], rfl, World.ownsRow_nil _ _ _ _, fun i hi => by simp at hi⟩, Below.refl _ _, Nat.le_refl _⟩
        case round =>
          obtain ⟨j, hj, rfl, hmd, hb, hMw⟩ := hrel
          have HB := Lib.hid hb
          have HMD := Lib.hid hmd
          have HMW := Lib.hid hMw
          clear hb hmd hMw
          by_cases hlt : j < K.length
          · obtain ⟨b, off, rfl, hbN, hc1, hc2', hat⟩ := HOR.out.resolve_left (by intro e; rw [e] at hlt; simp at hlt)
            obtain ⟨cs, hcs, hrd⟩ := RdAt.at K off (RdAt.below HB.out b hbN K off hat) j hlt
            obtain ⟨k', s0', s1', s2', s3', a', n', c', mn', mx', num', h9⟩ := nine hcs hrd
            have q0 := h9.c0
            have q1 := h9.c1
            have q2 := h9.c2
            have q3 := h9.c3
            have q4 := h9.c4
            have q5 := h9.c5
            have q6 := h9.c6
            have q7 := h9.c7
            have q8 := h9.c8
            have H9 := Lib.hid h9.rd
            obtain ⟨ts, hts⟩ : ∃ ts, (K.take j).map realT = ts := ⟨_, rfl⟩
            rw [hts] at HMD
            have hl1 : ts.length ≤ 1048576 := by rw [← hts]; simp; omega
            have HTK := Lib.hid (show (K.take (j + 1)).map realT = ts ++ [realT (K.getD j .zero)] by
              rw [List.take_succ_eq_append_getElem hlt, List.map_append, hts]; simp [List.getD, hlt])
            clear hcs hrd h9 hat hts
            go_wp2_with fail
            clear q0 q1 q2 q3 q4 q5 q6 q7 q8
            refine (HIH.out j hlt _ w2.heap.size _ ?_ ?_).mono ?_
            · have := HMW.out; simp; omega
            · exact Rd.below ((Below.refl _ _).alloc HMW.out _) _ _ H9.out
            rintro e w4 ⟨val, rfl, hb4, hnd⟩
            obtain ⟨T, z, rfl⟩ := (Nd.unmask hnd).form
            have hba : Below wr.heap.size wr (wr.alloc (.cells #[.int .i64 k', .int .u64 s0', .int .u64 s1', .int .u64 s2', .int .u64 s3', .slice a' n' c', .int .i64 mn', .int .i64 mx', .int .i64 num'] 28)) := (Below.refl _ _).alloc (Nat.le_refl _) _
            have HB4 := Lib.hid (hba.trans (hb4.mono hba.size))
            have HSA := Lib.hid hba.size
            have HND := Lib.hid hnd
            clear hb4 hnd hba
            have hmd5 := (HMD.out.below HB4.out).below ((Below.refl w4.heap.size w4).alloc (Nat.le_refl _) (.cells #[.iface T (.agg z)] 52))
            obtain ⟨xs, hxl, hxo, hxn⟩ := hmd5
            have HXO := Lib.hid hxo
            have HXL := Lib.hid hxl
            have HXN := Lib.hid hxn
            clear hxl hxo hxn
            obtain ⟨i0, hi, hz0, hz1, hz2⟩ := info_parts info_node
            have HI := Lib.hid hi
            have HZ0 := Lib.hid hz0
            have HZ1 := Lib.hid hz1
            have HZ2 := Lib.hid hz2
            clear hi hz0 hz1 hz2
            go_wp2_with (at_builtin; (refine wpList_append_lies _ rfl (.tmp 13) (.tmp 16) 76 rfl w2.heap.size 52 i0 _ 1 16 und_nodes HI.out HZ0.out HZ1.out HZ2.out rfl (by decide) _ _ xs rfl HXO.out _ 1 1 [.iface T (.agg z)] rfl rfl (news1 _ _ _) (by intro u hu; rw [List.mem_singleton.1 hu]; rfl) (by decide) (by unfold maxLen; omega) (by omega) ?hbase _ rfl ?_))
            case hbase => have h1 := HMW.out; have h2 := HB4.out.size; simp; omega
            intro g cap w6 hown hgrow hat hlt6
            have hmd6 := Made.appended HXL.out HXN.out (HMD.out.fresh HMW.out HSA.out (.cells #[.iface T (.agg z)] 52) HND.out) hown hgrow (hat.imp_right fun h => h.trans (Array.size_push _).symm)
            have hb6 : Below w2.heap.size w2 w6 := by
              have h1 : Below w2.heap.size w2 (w4.alloc (.cells #[.iface T (.agg z)] 52)) := (HB.out.trans (HB4.out.mono HMW.out)).alloc (Nat.le_trans HMW.out HB4.out.size) _
              refine h1.grown hgrow h1.size fun k hk => ?_
              exact (HXO.out.lt k hk).1
            have HMD6 := Lib.hid hmd6
            have HB6 := Lib.hid hb6
            clear hmd6 hb6 hown hgrow hat hlt6
            go_wp2_with fail
            go_roundw
            case rel => exact ⟨j + 1, by omega, by go_num, by rw [HTK.out]; exact HMD6.out, HB6.out, HB6.out.size⟩
            case measure => simp [intOf]; omega
          · obtain rfl : j = K.length := by omega
            go_wp2_with fail
            go_meet
            refine ⟨HB2.out.trans (HB.out.mono HB2.out.size), (HB.out.block w.heap.size ?_).trans HC2.out, w2.heap.size, HB2.out.size, ?_⟩
            · exact (Array.getElem?_eq_some_iff.1 HC2.out).1
            · have h := HMD.out; rwa [List.take_length] at h
      case rest =>
        obtain ⟨hb, hc, M, hM, hmd⟩ := hcut
        have HB := Lib.hid hb
        have HMD := Lib.hid hmd
        have HM := Lib.hid hM
        have p0 := cell_of hc (j := 0) (u := .int .i64 k) rfl
        have p1 := cell_of hc (j := 1) (u := .int .u64 s0) rfl
        have p2 := cell_of hc (j := 2) (u := .int .u64 s1) rfl
        have p3 := cell_of hc (j := 3) (u := .int .u64 s2) rfl
        have p4 := cell_of hc (j := 4) (u := .int .u64 s3) rfl
        have p6 := cell_of hc (j := 6) (u := .int .i64 mn) rfl
        have p7 := cell_of hc (j := 7) (u := .int .i64 mx) rfl
        have p8 := cell_of hc (j := 8) (u := .int .i64 num) rfl
        clear hb hc hM hmd
        by_cases k1 : k = 1
        · subst k1
          have HV := Lib.hid (show realT (.mk 1 s0 s1 s2 s3 ps mn mx num) = .one s0 s1 s2 s3 from rfl)
          go_wp2_with fail
          go_ret
          rw [HV.out]
          exact ⟨_, rfl, HB.out, rfl⟩
        by_cases k2 : k = 2
        · subst k2
          have HV := Lib.hid (show realT (.mk 2 s0 s1 s2 s3 ps mn mx num) = .cat (K.map realT) by rw [← HK.out]; simp [realT, kidsR, RT.kind, RT.parts, realL_map])
          obtain ⟨av, nv, cv, rfl⟩ := HMD.out.form
          have hn := HMD.out.nds HM.out
          have HN := Lib.hid hn
          clear hn k1
          go_wp2_with fail
          go_ret
          rw [HV.out]
          exact ⟨_, rfl, HB.out, _, rfl, HN.out⟩
        by_cases k3 : k = 3
        · subst k3
          have HV := Lib.hid (show realT (.mk 3 s0 s1 s2 s3 ps mn mx num) = .alt (K.map realT) by rw [← HK.out]; simp [realT, kidsR, RT.kind, RT.parts, realL_map])
          obtain ⟨av, nv, cv, rfl⟩ := HMD.out.form
          have hn := HMD.out.nds HM.out
          have HN := Lib.hid hn
          clear hn k1 k2
          go_wp2_with fail
          go_ret
          rw [HV.out]
          exact ⟨_, rfl, HB.out, _, rfl, HN.out⟩
        by_cases k4 : k = 4
        · subst k4
          have HV := Lib.hid (show realT (.mk 4 s0 s1 s2 s3 ps mn mx num) = .rep (realT (ofR (.mk 4 s0 s1 s2 s3 ps mn mx num))) mn mx by
            simp only [realT, ofR, RT.parts, realL_map]; cases ps <;> simp [realT, RT.zero])
          have hk1 : K = [ofR (.mk 4 s0 s1 s2 s3 ps mn mx num)] := by rw [← HK.out]; rfl
          rw [hk1] at HMD
          obtain ⟨g, cap, x, rfl, hx, hnd⟩ := HMD.out.single HM.out
          have HND := Lib.hid hnd
          obtain ⟨T, z, rfl⟩ := (Nd.unmask hnd).form
          clear hk1 hnd k1 k2 k3
          go_wp2_with fail
          go_quiet (fail)
          go_wp2_with fail
          go_ret
          rw [HV.out]
          exact ⟨_, rfl, HB.out.drewN _, _, rfl, Nd.masked (w := wc) (w' := wc.drewN nq) (fun b _ hp => ⟨hp, rfl⟩) HND.out⟩
        by_cases k5 : k = 5
        · subst k5
          have HV := Lib.hid (show realT (.mk 5 s0 s1 s2 s3 ps mn mx num) = .group num (realT (ofR (.mk 5 s0 s1 s2 s3 ps mn mx num))) by
            simp only [realT, ofR, RT.parts, realL_map]; cases ps <;> simp [realT, RT.zero])
          have hk1 : K = [ofR (.mk 5 s0 s1 s2 s3 ps mn mx num)] := by rw [← HK.out]; rfl
          rw [hk1] at HMD
          obtain ⟨g, cap, x, rfl, hx, hnd⟩ := HMD.out.single HM.out
          have HND := Lib.hid hnd
          obtain ⟨T, z, rfl⟩ := (Nd.unmask hnd).form
          clear hk1 hnd k1 k2 k3 k4
          go_wp2_with fail
          go_quiet (fail)
          go_wp2_with fail
          go_ret
          rw [HV.out]
          exact ⟨_, rfl, HB.out.drewN _, _, rfl, Nd.masked (w := wc) (w' := wc.drewN nq) (fun b _ hp => ⟨hp, rfl⟩) HND.out⟩
        by_cases k6 : k = 6
        · subst k6
          have HV := Lib.hid (show realT (.mk 6 s0 s1 s2 s3 ps mn mx num) = .back num from rfl)
          clear k1 k2 k3 k4 k5
          go_wp2_with fail
          go_ret
          rw [HV.out]
          exact ⟨_, rfl, HB.out, rfl⟩
        by_cases k7 : k = 7
        · subst k7
          have HV := Lib.hid (show realT (.mk 7 s0 s1 s2 s3 ps mn mx num) = .start from rfl)
          clear k1 k2 k3 k4 k5 k6
          go_wp2_with fail
          go_ret
          rw [HV.out]
          exact ⟨_, rfl, HB.out, rfl⟩
        by_cases k8 : k = 8
        · subst k8
          have HV := Lib.hid (show realT (.mk 8 s0 s1 s2 s3 ps mn mx num) = .endd from rfl)
          clear k1 k2 k3 k4 k5 k6 k7
          go_wp2_with fail
          go_ret
          rw [HV.out]
          exact ⟨_, rfl, HB.out, rfl⟩
        · have HV := Lib.hid (show realT (.mk k s0 s1 s2 s3 ps mn mx num) = .empty by simp [realT, k1, k2, k3, k4, k5, k6, k7, k8])
          have e1 : (k == 1) = false := by simp [k1]
          have e2 : (k == 2) = false := by simp [k2]
          have e3 : (k == 3) = false := by simp [k3]
          have e4 : (k == 4) = false := by simp [k4]
          have e5 : (k == 5) = false := by simp [k5]
          have e6 : (k == 6) = false := by simp [k6]
          have e7 : (k == 7) = false := by simp [k7]
          have e8 : (k == 8) = false := by simp [k8]
          clear k1 k2 k3 k4 k5 k6 k7 k8
          go_wp2_with fail
          go_ret
          rw [HV.out]
          exact ⟨_, rfl, HB.out, rfl⟩
end Go.Proofs.YtkaoegdfgoojdaaGreatDoor
