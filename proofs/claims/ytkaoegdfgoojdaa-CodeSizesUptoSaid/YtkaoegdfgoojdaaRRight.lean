/- The reference's right: the walk. -/
import Derived.Test.YtkaoegdfgoojdaaRRightP
import Derived.Deep.RegionHeld3
import Derived.Deep.AppendLies
namespace Go.Proofs.Ytkaoegdfgoojdaa
open Go Go.RowKit

set_option maxRecDepth 100000 in
set_option maxHeartbeats 8000000 in
theorem rr_any (n : Nat) : ∀ (t : RT), mu t ≤ n → knownR t = true → ∀ (w : World) (N : Nat) (cs : List Value) (s : St) (x : Value), N ≤ w.heap.size → Rd w N t cs → CI w w.heap.size s.2 x → s.2.length + groupsN (realT t) ≤ 1048576 →
    Calls Try.prog 23 #[.agg cs.toArray, .int .i64 s.1, x] w (RrPost w (rightT (realT t) s)) := by
  induction n with
  | zero => intro t ht; exact absurd ht (by have := rsize_pos t; unfold mu; omega)
  | succ n ih =>
    intro t ht hkn w N cs s x hN h hx hgs
    have H := Lib.hid h
    have HX := Lib.hid hx
    have HKN := Lib.hid hkn
    match t, h with
    | .mk k s0 s1 s2 s3 ps mn mx num, ⟨a, c, e, hl, hor⟩ =>
      subst e
      have IH : ∀ j, j < (kidsR (.mk k s0 s1 s2 s3 ps mn mx num)).length → ∀ (w : World) (N : Nat) (cs : List Value) (s : St) (x : Value), N ≤ w.heap.size → Rd w N ((kidsR (.mk k s0 s1 s2 s3 ps mn mx num)).getD j .zero) cs → CI w w.heap.size s.2 x → s.2.length + groupsN (realT ((kidsR (.mk k s0 s1 s2 s3 ps mn mx num)).getD j .zero)) ≤ 1048576 →
          Calls Try.prog 23 #[.agg cs.toArray, .int .i64 s.1, x] w (RrPost w (rightT (realT ((kidsR (.mk k s0 s1 s2 s3 ps mn mx num)).getD j .zero)) s)) :=
        fun j hj => ih _ (by have := (kidR_mu _ j hj).1; omega) (known_kids _ hkn j hj)
      have HIH := Lib.hid IH
      have hb0 : Below w.heap.size w (w.alloc (.cells #[.int .i64 k, .int .u64 s0, .int .u64 s1, .int .u64 s2, .int .u64 s3, .slice a ps.length c, .int .i64 mn, .int .i64 mx, .int .i64 num] 27)) := (Below.refl _ _).alloc (Nat.le_refl _) _
      have HB0 := Lib.hid hb0
      have HKI := Lib.hid (kidsR_any _ _ N _ (Nat.le_trans hN hb0.size) (Rd.below (hb0.mono hN) _ _ H.out))
      have HC0 := Lib.hid (heap_alloc_new w (.cells #[.int .i64 k, .int .u64 s0, .int .u64 s1, .int .u64 s2, .int .u64 s3, .slice a ps.length c, .int .i64 mn, .int .i64 mx, .int .i64 num] 27))
      have HZ := Lib.hid (show (w.alloc (.cells #[.int .i64 k, .int .u64 s0, .int .u64 s1, .int .u64 s2, .int .u64 s3, .slice a ps.length c, .int .i64 mn, .int .i64 mx, .int .i64 num] 27)).heap.size = w.heap.size + 1 from Array.size_push _)
      have hkids := kidsT_real _ hkn
      have hgk := groupsN_kids (realT (.mk k s0 s1 s2 s3 ps mn mx num))
      have hrk := rightT_kids (realT (.mk k s0 s1 s2 s3 ps mn mx num)) s
      have hkk := fun j hj => known_kids _ hkn j hj
      rw [hkids] at hgk hrk
      obtain ⟨K, hK⟩ : ∃ K, kidsR (.mk k s0 s1 s2 s3 ps mn mx num) = K := ⟨_, rfl⟩
      rw [hK] at HIH HKI hgk hrk hkk
      have HK := Lib.hid hK
      have HRK := Lib.hid hrk
      have HKK := Lib.hid hkk
      have HGK := Lib.hid (show s.2.length + groupsL (K.map realT) ≤ 1048576 by omega)
      clear ih IH hor ht hb0 hK hx hkn hkids hgk hrk hkk hgs h
      go_enter Try.func23, Try.ntmps23
      go_wp2_with fail
      refine HKI.out.mono ?_
      rintro e w2 ⟨x2, rfl, hb2, a2, c2, rfl, hl2, hor2⟩
      have HB2 := Lib.hid (HB0.out.trans (hb2.mono HB0.out.size))
      have HC2 := Lib.hid ((hb2.block w.heap.size (by rw [HZ.out]; omega)).trans HC0.out)
      have HOR := Lib.hid hor2
      clear hb2 hor2
      have HX2 := Lib.hid ((HX.out.below HB2.out).mono HB2.out.size)
      have p0 := cell_of HC2.out (j := 0) (u := .int .i64 k) rfl
      have p6 := cell_of HC2.out (j := 6) (u := .int .i64 mn) rfl
      have p7 := cell_of HC2.out (j := 7) (u := .int .i64 mx) rfl
      have p8 := cell_of HC2.out (j := 8) (u := .int .i64 num) rfl
      have h2 : w.heap.size < w2.heap.size := (Array.getElem?_eq_some_iff.1 HC2.out).1
      clear HX HB0 HKI HC0 HZ
      go_upto_block 0 with (fail)
      go_cut [1] (fun o wx => ∃ S1 : St, shapedT (realT (.mk k s0 s1 s2 s3 ps mn mx num)) s = some S1 ∧ o = .int .i64 S1.1 ∧ S1.2 = s.2 ∧ Below w2.heap.size w2 wx)
      case first =>
        have bad : ∀ wx, Below w2.heap.size w2 wx → shapedT (realT (.mk k s0 s1 s2 s3 ps mn mx num)) s = none → RrPost w (rightT (realT (.mk k s0 s1 s2 s3 ps mn mx num)) s) (.returned (.tuple #[.bool false, .int .i64 0, .slice none 0 0])) wx := fun wx hb hn =>
          RrPost.bad (HB2.out.trans (hb.mono HB2.out.size)) (by rw [HRK.out, hn]; rfl)
        have HBAD := Lib.hid bad
        clear bad
        have kid : ∀ j, j < K.length → ∃ b off c, a2 = some ⟨b, off, none⟩ ∧ b < w2.heap.size ∧ w2.cell? ⟨b, off + j * 9, none⟩ = some (.int .i64 (K.getD j .zero).kind) := fun j hj => by
          obtain ⟨b, off, rfl, hbN, _, _, hat⟩ := HOR.out.resolve_left (by intro e; rw [e] at hj; simp at hj)
          obtain ⟨cs, hcs, hrd⟩ := RdAt.at K off hat j hj
          obtain ⟨k', s0', s1', s2', s3', a', n', c', mn', mx', num', h9⟩ := nine hcs hrd
          exact ⟨b, off, c2, rfl, hbN, by rw [h9.c0, h9.eqs.1]⟩
        have HKD := Lib.hid kid
        clear kid
        by_cases k2 : k = 2
        · subst k2
          have HV := Lib.hid (show shapedT (realT (.mk 2 s0 s1 s2 s3 ps mn mx num)) s = if 1 < K.length ∧ (K.map realT).all plainT = true then some s else none by
            rw [← HK.out]; simp [realT, shapedT, kidsR, RT.kind, RT.parts, realL_map])
          by_cases hlen : K.length < 2
          · have hl' : (K.length : Int) < 2 := by omega
            go_wp2_with fail
            go_ret3
            exact HBAD.out _ (Below.refl _ _) (by rw [HV.out, if_neg (by omega)])
          · have hl' : ¬ (K.length : Int) < 2 := by omega
            go_wp2_with fail
            go_loopw [30] (fun i wr => ShpRel w2 K (fun u => plainT (realT u)) i wr) (fun i _ => K.length - (intOf i).toNat)
            case atStart => exact ⟨0, Nat.zero_le _, rfl, by simp, rfl⟩
            case round =>
              obtain ⟨j, hj, rfl, hall, rfl⟩ := hrel
              have HALL := Lib.hid hall
              clear hall
              by_cases hlt : j < K.length
              · obtain ⟨b, off, c', rfl, hbN, q0⟩ := HKD.out j hlt
                have hp := kind_plain _ (HKK.out j hlt)
                have HT := Lib.hid (all_take (fun u => plainT (realT u)) K .zero j hlt)
                have HS := Lib.hid (all_stop (fun u => plainT (realT u)) K .zero j hlt)
                generalize (K.getD j .zero) = u at *
                obtain ⟨ku, hku⟩ : ∃ ku, u.kind = ku := ⟨_, rfl⟩
                rw [hku] at hp q0
                have HP := Lib.hid hp
                clear hp hku
                by_cases j3 : ku = 3
                · subst j3
                  go_wp2_with fail
                  go_ret3
                  exact HBAD.out _ (Below.refl _ _) (by rw [HV.out, if_neg (by rw [List.all_map]; intro h; exact Bool.noConfusion ((show K.all (fun u => plainT (realT u)) = true from h.2).symm.trans (HS.out HP.out)))])
                by_cases j0 : ku = 0
                · subst j0
                  go_wp2_with fail
                  go_ret3
                  exact HBAD.out _ (Below.refl _ _) (by rw [HV.out, if_neg (by rw [List.all_map]; intro h; exact Bool.noConfusion ((show K.all (fun u => plainT (realT u)) = true from h.2).symm.trans (HS.out HP.out)))])
                by_cases j2 : ku = 2
                · subst j2
                  go_wp2_with fail
                  go_ret3
                  exact HBAD.out _ (Below.refl _ _) (by rw [HV.out, if_neg (by rw [List.all_map]; intro h; exact Bool.noConfusion ((show K.all (fun u => plainT (realT u)) = true from h.2).symm.trans (HS.out HP.out)))])
                have e3 : (ku == 3) = false := by simp [j3]
                have e0 : (ku == 0) = false := by simp [j0]
                have e2 : (ku == 2) = false := by simp [j2]
                have HG := Lib.hid (show plainT (realT u) = true by rw [HP.out, e0, e2, e3]; rfl)
                clear j3 j0 j2
                go_wp2_with fail
                go_roundw
                case rel => exact ⟨j + 1, by omega, by go_num, by rw [HT.out, HALL.out, HG.out]; rfl, rfl⟩
                case measure => simp [intOf]; omega
              · obtain rfl : j = K.length := by omega
                go_wp2_with fail
                go_meet
                refine ⟨s, ?_, rfl, rfl, Below.refl _ _⟩
                have h := HALL.out
                rw [List.take_length] at h
                rw [HV.out, if_pos ⟨by omega, by rw [List.all_map]; exact h⟩]
        by_cases k3 : k = 3
        · subst k3
          have HV := Lib.hid (show shapedT (realT (.mk 3 s0 s1 s2 s3 ps mn mx num)) s = if 1 < K.length ∧ (K.map realT).all (fun t => !altT t) = true then some s else none by
            rw [← HK.out]; simp [realT, shapedT, kidsR, RT.kind, RT.parts, realL_map])
          by_cases hlen : K.length < 2
          · have hl' : (K.length : Int) < 2 := by omega
            go_wp2_with fail
            go_ret3
            exact HBAD.out _ (Below.refl _ _) (by rw [HV.out, if_neg (by omega)])
          · have hl' : ¬ (K.length : Int) < 2 := by omega
            go_wp2_with fail
            go_loopw [30] (fun i wr => ShpRel w2 K (fun u => !altT (realT u)) i wr) (fun i _ => K.length - (intOf i).toNat)
            case atStart => exact ⟨0, Nat.zero_le _, rfl, by simp, rfl⟩
            case round =>
              obtain ⟨j, hj, rfl, hall, rfl⟩ := hrel
              have HALL := Lib.hid hall
              clear hall
              by_cases hlt : j < K.length
              · obtain ⟨b, off, c', rfl, hbN, q0⟩ := HKD.out j hlt
                have hp := kind_alt _ (HKK.out j hlt)
                have HT := Lib.hid (all_take (fun u => !altT (realT u)) K .zero j hlt)
                have HS := Lib.hid (all_stop (fun u => !altT (realT u)) K .zero j hlt)
                generalize (K.getD j .zero) = u at *
                obtain ⟨ku, hku⟩ : ∃ ku, u.kind = ku := ⟨_, rfl⟩
                rw [hku] at hp q0
                have HP := Lib.hid hp
                clear hp hku
                by_cases j3 : ku = 3
                · subst j3
                  go_wp2_with fail
                  go_ret3
                  exact HBAD.out _ (Below.refl _ _) (by rw [HV.out, if_neg (by rw [List.all_map]; intro h; exact Bool.noConfusion ((show K.all (fun u => !altT (realT u)) = true from h.2).symm.trans (HS.out (by rw [HP.out]; rfl))))])
                have e3 : (ku == 3) = false := by simp [j3]
                have HG := Lib.hid (show (!altT (realT u)) = true by rw [HP.out, e3]; rfl)
                clear j3
                go_wp2_with fail
                go_roundw
                case rel => exact ⟨j + 1, by omega, by go_num, by rw [HT.out, HALL.out, HG.out]; rfl, rfl⟩
                case measure => simp [intOf]; omega
              · obtain rfl : j = K.length := by omega
                go_wp2_with fail
                go_meet
                refine ⟨s, ?_, rfl, rfl, Below.refl _ _⟩
                have h := HALL.out
                rw [List.take_length] at h
                rw [HV.out, if_pos ⟨by omega, by rw [List.all_map]; exact h⟩]
        by_cases k4 : k = 4
        · subst k4
          have hk1 : K = [ofR (.mk 4 s0 s1 s2 s3 ps mn mx num)] := by rw [← HK.out]; rfl
          obtain ⟨u, hu⟩ : ∃ u, ofR (.mk 4 s0 s1 s2 s3 ps mn mx num) = u := ⟨_, rfl⟩
          have HV := Lib.hid (show shapedT (realT (.mk 4 s0 s1 s2 s3 ps mn mx num)) s = if atomT (realT u) = true ∧ 0 ≤ mn ∧ mn ≤ 255 ∧ (mx = -1 ∨ (mn ≤ mx ∧ mx ≤ 255)) then some s else none by
            rw [← hu]; simp only [realT, shapedT, ofR, RT.parts, realL_map]; cases ps <;> simp [realT, RT.zero, shapedT])
          rw [hu] at hk1
          subst hk1
          obtain ⟨b, off, c', rfl, hbN, q0⟩ := HKD.out 0 (by simp)
          have hp := kind_atom _ (HKK.out 0 (by simp))
          simp only [List.getD_cons_zero, Nat.zero_mul, Nat.add_zero] at hp q0
          obtain ⟨ku, hku⟩ : ∃ ku, u.kind = ku := ⟨_, rfl⟩
          rw [hku] at hp q0
          have HP := Lib.hid hp
          clear hp hku hu k2 k3
          by_cases b1 : mn < 0
          · go_wp2_with fail
            go_ret3
            exact HBAD.out _ (Below.refl _ _) (by rw [HV.out, if_neg (by omega)])
          by_cases b2 : 255 < mn
          · go_wp2_with fail
            go_ret3
            exact HBAD.out _ (Below.refl _ _) (by rw [HV.out, if_neg (by omega)])
          by_cases b4 : mx ≠ -1 ∧ mx < mn
          · have b4' := b4.2
            have b3 : (mx == -1) = false := by simp [b4.1]
            have b3' : (mx != -1) = true := by simp [b4.1]
            go_wp2_with fail
            go_ret3
            exact HBAD.out _ (Below.refl _ _) (by rw [HV.out, if_neg (by omega)])
          by_cases b5 : mx ≠ -1 ∧ 255 < mx
          · have b5' := b5.2
            have b4' : ¬ mx < mn := by omega
            have b3 : (mx == -1) = false := by simp [b5.1]
            have b3' : (mx != -1) = true := by simp [b5.1]
            go_wp2_with fail
            go_ret3
            exact HBAD.out _ (Below.refl _ _) (by rw [HV.out, if_neg (by omega)])
          have b6 : mx = -1 ∨ ((mx == -1) = false ∧ (mx != -1) = true ∧ ¬ mx < mn ∧ ¬ 255 < mx) := by
            by_cases h : mx = -1
            · exact .inl h
            · exact .inr ⟨by simp [h], by simp [h], by omega, by omega⟩
          have HOK := Lib.hid (show 0 ≤ mn ∧ mn ≤ 255 ∧ (mx = -1 ∨ (mn ≤ mx ∧ mx ≤ 255)) by omega)
          clear b4 b5
          rcases b6 with rfl | ⟨b7, b8, b9, b10⟩
          all_goals
            by_cases j0 : ku = 0
            · subst j0
              go_wp2_with fail
              go_ret3
              exact HBAD.out _ (Below.refl _ _) (by rw [HV.out, HP.out]; simp)
            by_cases j7 : ku = 7
            · subst j7
              go_wp2_with fail
              go_ret3
              exact HBAD.out _ (Below.refl _ _) (by rw [HV.out, HP.out]; simp)
            by_cases j8 : ku = 8
            · subst j8
              go_wp2_with fail
              go_ret3
              exact HBAD.out _ (Below.refl _ _) (by rw [HV.out, HP.out]; simp)
            by_cases j2 : ku = 2
            · subst j2
              go_wp2_with fail
              go_ret3
              exact HBAD.out _ (Below.refl _ _) (by rw [HV.out, HP.out]; simp)
            by_cases j3 : ku = 3
            · subst j3
              go_wp2_with fail
              go_ret3
              exact HBAD.out _ (Below.refl _ _) (by rw [HV.out, HP.out]; simp)
            have e0 : (ku == 0) = false := by simp [j0]
            have e2 : (ku == 2) = false := by simp [j2]
            have e3 : (ku == 3) = false := by simp [j3]
            have e7 : (ku == 7) = false := by simp [j7]
            have e8 : (ku == 8) = false := by simp [j8]
            have HA := Lib.hid (show atomT (realT u) = true by rw [HP.out, e0, e2, e3, e7, e8]; rfl)
            clear j0 j7 j8 j2 j3
            go_wp2_with fail
            go_meet
            exact ⟨s, by rw [HV.out, if_pos ⟨HA.out, HOK.out⟩], rfl, rfl, Below.refl _ _⟩
        by_cases k5 : k = 5
        · subst k5
          have HV := Lib.hid (show shapedT (realT (.mk 5 s0 s1 s2 s3 ps mn mx num)) s = if num = wrap64 (s.1 + 1) then some (wrap64 (s.1 + 1), s.2) else none by simp only [realT, shapedT]; rfl)
          clear k2 k3 k4
          by_cases hn : num = wrap64 (s.1 + 1)
          · have n1 : (num == wrap64 (s.1 + 1)) = true := by simp [hn]
            have n2 : (num != wrap64 (s.1 + 1)) = false := by simp [hn]
            have HN := Lib.hid hn
            clear hn
            go_wp2_with fail
            go_meet
            exact ⟨(wrap64 (s.1 + 1), s.2), by rw [HV.out, if_pos HN.out], rfl, rfl, Below.refl _ _⟩
          · have n1 : (num == wrap64 (s.1 + 1)) = false := by simp [hn]
            have n2 : (num != wrap64 (s.1 + 1)) = true := by simp [hn]
            have HN := Lib.hid hn
            clear hn
            go_wp2_with fail
            go_ret3
            exact HBAD.out _ (Below.refl _ _) (by rw [HV.out, if_neg HN.out])
        by_cases k6 : k = 6
        · subst k6
          have HV := Lib.hid (show shapedT (realT (.mk 6 s0 s1 s2 s3 ps mn mx num)) s = if s.2.any (fun x => num == x) = true then some s else none by simp only [realT, shapedT]; rfl)
          clear k2 k3 k4 k5
          obtain ⟨a3, c3, rfl, hl3⟩ := HX2.out.1.form
          go_wp2_with fail
          go_loopw [12, 124] (fun f i wr => BkRel w2 num s.2 f i wr) (fun _ i _ => s.2.length - (intOf i).toNat)
          case atStart => exact ⟨0, Nat.zero_le _, rfl, rfl, Below.refl _ _⟩
          case round =>
            obtain ⟨j, hj, rfl, hf, hb⟩ := hrel
            have HB := Lib.hid hb
            have r8 : wr.cell? ⟨w.heap.size, 8, none⟩ = some (.int .i64 num) := (hb.cell (p := ⟨w.heap.size, 8, none⟩) h2).trans p8
            clear hb
            obtain ⟨F, hF⟩ : ∃ F, (s.2.take j).any (fun x => num == x) = F := ⟨_, rfl⟩
            have HFF := Lib.hid hF
            rw [hF] at hf
            subst hf
            clear hF
            by_cases hlt : j < s.2.length
            · have HT := Lib.hid (any_take (fun x => num == x) s.2 0 j hlt)
              obtain ⟨b, off, rfl, q⟩ := HX2.out.1.at j hlt
              have q' := (HB.out.cell (p := ⟨b, off + j, none⟩) (World.block_lt_of_cell? w2 _ q)).trans q
              obtain ⟨m, hm⟩ : ∃ m, s.2.getD j 0 = m := ⟨_, rfl⟩
              rw [hm] at q' HT
              have hI : (j : Int) < (s.2.length : Int) := by omega
              have hI0 : (0 : Int) ≤ (j : Int) := by omega
              clear hm q
              cases F with
              | true =>
                go_wp2_with fail
                go_quiet (fail)
                go_wp2_with fail
                go_roundw
                case rel => exact ⟨j + 1, by omega, by go_num, by rw [HT.out, HFF.out]; rfl, HB.out.drewN _⟩
                case measure => simp [intOf]; omega
              | false =>
                have HE := Lib.hid (show (m == num) = (num == m) from Bool.beq_comm ..)
                go_wp2_with fail
                go_quiet (fail)
                go_wp2_with fail
                go_roundw
                case rel => exact ⟨j + 1, by omega, by go_num, by rw [HT.out, HFF.out, HE.out]; simp, HB.out.drewN _⟩
                case measure => simp [intOf]; omega
            · obtain rfl : j = s.2.length := by omega
              have hF := HFF.out
              rw [List.take_length] at hF
              have HFL := Lib.hid hF
              clear hF
              cases F with
              | true =>
                go_wp2_with fail
                go_meet
                exact ⟨s, by rw [HV.out, if_pos HFL.out], rfl, rfl, HB.out⟩
              | false =>
                go_wp2_with fail
                go_ret3
                exact HBAD.out _ HB.out (by rw [HV.out, if_neg (by rw [HFL.out]; simp)])
        have e2 : (k == 2) = false := by simp [k2]
        have e3 : (k == 3) = false := by simp [k3]
        have e4 : (k == 4) = false := by simp [k4]
        have e5 : (k == 5) = false := by simp [k5]
        have e6 : (k == 6) = false := by simp [k6]
        have HV := Lib.hid (show shapedT (realT (.mk k s0 s1 s2 s3 ps mn mx num)) s = some s by
          simp only [realT, k2, k3, k4, k5, k6, if_false]
          repeat' split
          all_goals rfl)
        clear k2 k3 k4 k5 k6
        go_wp2_with fail
        go_meet
        exact ⟨s, HV.out, rfl, rfl, Below.refl _ _⟩
      case rest =>
        obtain ⟨S1, hS, rfl, hS2, hb⟩ := hcut
        have HS := Lib.hid hS
        have HBc := Lib.hid hb
        have hxc := (HX2.out.below hb).mono hb.size
        rw [← hS2] at hxc
        have HXc := Lib.hid hxc
        have HGS := Lib.hid (show S1.2.length + groupsL (K.map realT) ≤ 1048576 by rw [hS2]; exact HGK.out)
        clear hS hb hxc hS2 HX2 HGK
        go_wp2_with fail
        go_loopw [1, 2, 142] (fun o c i wr => PtRel w2 K S1 o c i wr) (fun _ _ i _ => K.length - (intOf i).toNat)
        case atStart => exact ⟨0, S1, x, Nat.zero_le _, rfl, rfl, rfl, rfl, HXc.out, HBc.out⟩
        case round =>
          obtain ⟨j, sj, xj, hj, rfl, hr, rfl, rfl, hci, hb⟩ := hrel
          have HR := Lib.hid hr
          have HCI := Lib.hid hci
          have HB := Lib.hid hb
          clear hr hci hb HXc HBc
          by_cases hlt : j < K.length
          · obtain ⟨b, off, rfl, hbN, hc1, hc2', hat⟩ := HOR.out.resolve_left (by intro e; rw [e] at hlt; simp at hlt)
            obtain ⟨cs, hcs, hrd⟩ := RdAt.at K off (RdAt.below HB.out b hbN K off hat) j hlt
            obtain ⟨k', s0', s1', s2', s3', a', n', c', mn', mx', num', h9⟩ := nine hcs hrd
            have q0 := h9.c0
            have q1 := h9.c1
            have q2 := h9.c2
            have q3 := h9.c3
            have q4 := h9.c4
            have q5 := h9.c5
            have q6 := h9.c6
            have q7 := h9.c7
            have q8 := h9.c8
            have H9 := Lib.hid h9.rd
            have hlk : j < (K.map realT).length := by simpa using hlt
            have hgd : (K.map realT).getD j .empty = realT (K.getD j .zero) := by simp [List.getD, hlt]
            have htk := rightL_take (K.map realT) j hlk S1
            rw [HR.out, Option.bind_some, hgd] at htk
            have HTK := Lib.hid htk
            have hcl := rightL_closed _ _ _ HR.out
            have hg1 := groupsL_take (K.map realT) j hlk
            have hg2 := groupsL_le (K.map realT) (j + 1)
            rw [hgd] at hg1
            have HLN := Lib.hid (show sj.2.length + groupsN (realT (K.getD j .zero)) ≤ 1048576 by have := HGS.out; omega)
            clear hcs hrd h9 hat htk hcl hg1 hg2 hgd hlk
            go_wp2_with fail
            clear q0 q1 q2 q3 q4 q5 q6 q7 q8
            refine (HIH.out j hlt wr w2.heap.size _ sj xj HB.out.size H9.out HCI.out HLN.out).mono ?_
            rintro e w4 ⟨hb4, hm⟩
            have HB4 := Lib.hid (HB.out.trans (hb4.mono HB.out.size))
            clear hb4
            cases hrt : rightT (realT (K.getD j .zero)) sj with
            | none =>
              rw [hrt] at hm HTK
              simp only at hm
              obtain rfl := hm
              clear hrt
              go_wp2_with fail
              go_ret3
              exact RrPost.bad (HB2.out.trans (HB4.out.mono HB2.out.size)) (by rw [HRK.out, HS.out, Option.bind_some, rightL_stop _ _ _ HTK.out]; rfl)
            | some s4 =>
              rw [hrt] at hm HTK
              simp only at hm
              obtain ⟨x4, rfl, hc4⟩ := hm
              have HC4 := Lib.hid hc4
              clear hrt hc4
              go_wp2_with fail
              go_roundw
              case rel => exact ⟨j + 1, s4, x4, by omega, by go_num, HTK.out, rfl, rfl, HC4.out, HB4.out⟩
              case measure => simp [intOf]; omega
          · obtain rfl : j = K.length := by omega
            have hr := HR.out
            rw [List.take_of_length_le (by simp)] at hr
            have HRR := Lib.hid (show rightT (realT (.mk k s0 s1 s2 s3 ps mn mx num)) s = some (closeT (realT (.mk k s0 s1 s2 s3 ps mn mx num)) sj) by rw [HRK.out, HS.out, Option.bind_some, hr]; rfl)
            have HLJ := Lib.hid (show sj.2.length ≤ 1048576 by have := rightL_closed _ _ _ hr; have := HGS.out; omega)
            have r0 := (HB.out.cell (p := ⟨w.heap.size, 0, none⟩) h2).trans p0
            have r8 := (HB.out.cell (p := ⟨w.heap.size, 8, none⟩) h2).trans p8
            have HBA := Lib.hid (HB2.out.trans (HB.out.mono HB2.out.size))
            clear hr p0 p6 p7 p8
            by_cases k5 : k = 5
            · subst k5
              obtain ⟨i0, hi, hz0, hz1, hz2⟩ := info_parts info_int
              have HI := Lib.hid hi
              have HZ0 := Lib.hid hz0
              have HZ1 := Lib.hid hz1
              have HZ2 := Lib.hid hz2
              clear hi hz0 hz1 hz2
              have hwr : w.heap.size < wr.heap.size := Nat.lt_of_lt_of_le h2 HB.out.size
              have HCLO := Lib.hid (show closeT (realT (.mk 5 s0 s1 s2 s3 ps mn mx num)) sj = (sj.1, sj.2 ++ [num]) from rfl)
              have za : ∀ (w : World) (o : Obj), (w.alloc o).heap.size = w.heap.size + 1 := fun _ _ => Array.size_push _
              have HZA := Lib.hid za
              have own0 : ((wr.alloc (.cells #[] 3)).alloc (.cells #[.int .i64 num] 3)).drew.ownsRow wr.heap.size 3 1 (.slice (some ⟨wr.heap.size, 0, none⟩) 0 0) 0 [] := ((own_new wr wr.heap.size _ (Nat.le_refl _)).alloc _).drew
              have own1 : ((wr.alloc (.cells #[.int .i64 num] 3)).alloc (.cells #[] 3)).drew.ownsRow wr.heap.size 3 1 (.slice (some ⟨wr.heap.size + 1, 0, none⟩) 0 0) 0 [] := by
                have h := (own_new (wr.alloc (.cells #[.int .i64 num] 3)) wr.heap.size 3 (by rw [za]; omega)).drew
                rw [za] at h
                exact h
              have HO0 := Lib.hid own0
              have HO1 := Lib.hid own1
              have bel0 : Below wr.heap.size wr ((wr.alloc (.cells #[] 3)).alloc (.cells #[.int .i64 num] 3)).drew := (((Below.refl _ _).alloc (Nat.le_refl _) _).alloc (by rw [za]; omega) _).drew
              have bel1 : Below wr.heap.size wr ((wr.alloc (.cells #[.int .i64 num] 3)).alloc (.cells #[] 3)).drew := (((Below.refl _ _).alloc (Nat.le_refl _) _).alloc (by rw [za]; omega) _).drew
              have HL0 := Lib.hid bel0
              have HL1 := Lib.hid bel1
              have hs0 : wr.heap.size ≤ (((wr.alloc (.cells #[] 3)).alloc (.cells #[.int .i64 num] 3)).drew).heap.size := bel0.size
              have hs1 : wr.heap.size ≤ (((wr.alloc (.cells #[.int .i64 num] 3)).alloc (.cells #[] 3)).drew).heap.size := bel1.size
              have HS0 := Lib.hid hs0
              have HS1 := Lib.hid hs1
              clear own0 own1 bel0 bel1 hs0 hs1 za
              by_cases hem : sj.2 = []
              · obtain rfl : xj = .slice none 0 0 := HCI.out.2 hem
                go_wp2_with fail
                go_region_held3 (fun w' => w'.cell? ⟨w.heap.size, 8, none⟩ = some (.int .i64 num)) (first | exact (P4.out.cell (p := ⟨w.heap.size, 8, none⟩) hwr).trans r8 | go_keep)
                  (first
                    | (refine step_append_lies _ rfl (.tmp 166) (.tmp 169) 78 rfl wr.heap.size 3 i0 _ 1 8 und_ints HI.out HZ0.out HZ1.out HZ2.out rfl (by decide) _ 0 [] rfl HO0.out _ 1 1 [.int .i64 num] rfl rfl (news2 wr _ _ _) (by intro u hu; rw [List.mem_singleton.1 hu]; rfl) (by decide) (by decide) (by decide) HS0.out _ rfl ?_
                       intro g cap w1 hown hgrow hat hlt
                       have P4 := Lib.hid (HL0.out.grown hgrow HS0.out (fun k h => by cases h; exact Nat.le_refl _))
                       have P5 := Lib.hid (ci_own (sj.2 ++ [num]) hown (by rw [hem]; rfl) (by simp))
                       clear hown hgrow hat hlt)
                    | (refine step_append_lies _ rfl (.tmp 166) (.tmp 169) 78 rfl wr.heap.size 3 i0 _ 1 8 und_ints HI.out HZ0.out HZ1.out HZ2.out rfl (by decide) _ 0 [] rfl HO1.out _ 1 1 [.int .i64 num] rfl rfl (newsB wr _ _ _) (by intro u hu; rw [List.mem_singleton.1 hu]; rfl) (by decide) (by decide) (by decide) HS1.out _ rfl ?_
                       intro g cap w1 hown hgrow hat hlt
                       have P4 := Lib.hid (HL1.out.grown hgrow HS1.out (fun k h => by cases h; exact Nat.le_succ _))
                       have P5 := Lib.hid (ci_own (sj.2 ++ [num]) hown (by rw [hem]; rfl) (by simp))
                       clear hown hgrow hat hlt))
                all_goals
                  go_wp2_with fail
                  go_ret3
                  rw [HRR.out, HCLO.out]
                  exact ⟨HBA.out.trans (P4.out.mono (Nat.le_of_lt hwr)), _, rfl, P5.out⟩
              · obtain ⟨b3, off3, c3, rfl, hb3, hc3, hc4, _⟩ := HCI.out.1.resolve_left (fun e => hem e.1)
                have hpos : 0 < sj.2.length := List.length_pos_iff.2 hem
                have hlj := HLJ.out
                have HPOS := Lib.hid hpos
                have HLEN := Lib.hid (show (sj.2.map (Value.int .i64)).length = sj.2.length * 1 by simp)
                have HMX := Lib.hid (show 0 + sj.2.length ≤ maxLen by unfold maxLen; omega)
                have HBY := Lib.hid (show (0 + sj.2.length) * 8 ≤ 140737488355328 by omega)
                have HMX2 := Lib.hid (show sj.2.length + 1 ≤ maxLen by unfold maxLen; omega)
                have HMX3 := Lib.hid (show (0 + sj.2.length) + 1 ≤ maxLen by unfold maxLen; omega)
                have HBY3 := Lib.hid (show ((0 + sj.2.length) + 1) * 8 ≤ 140737488355328 by omega)
                have HBY2 := Lib.hid (show (sj.2.length + 1) * 8 ≤ 140737488355328 by omega)
                have hla : Below wr.heap.size wr (wr.alloc (.cells #[] 3)).drew := ((Below.refl _ _).alloc (Nat.le_refl _) _).drew
                have HLA := Lib.hid hla
                have HSA := Lib.hid hla.size
                have HOA := Lib.hid ((own_new wr wr.heap.size 3 (Nat.le_refl _)).drew)
                have HT0 := Lib.hid (show wr.heap.size + 1 < (((wr.alloc (.cells #[] 3)).alloc (.cells #[.int .i64 num] 3)).drew).heap.size from by
                  show wr.heap.size + 1 < ((wr.alloc (.cells #[] 3)).alloc (.cells #[.int .i64 num] 3)).heap.size
                  rw [HZA.out, HZA.out]; omega)
                have HT1 := Lib.hid (show wr.heap.size < (((wr.alloc (.cells #[.int .i64 num] 3)).alloc (.cells #[] 3)).drew).heap.size from by
                  show wr.heap.size < ((wr.alloc (.cells #[.int .i64 num] 3)).alloc (.cells #[] 3)).heap.size
                  rw [HZA.out, HZA.out]; omega)
                have HNE0 := Lib.hid (show some (wr.heap.size + 1) ≠ some wr.heap.size by simp)
                have HNE1 := Lib.hid (show some wr.heap.size ≠ some (wr.heap.size + 1) by simp)
                clear hpos hlj hla hb3 hc3 hc4
                go_wp2_with fail
                go_region_held3 (fun w' => w'.cell? ⟨w.heap.size, 8, none⟩ = some (.int .i64 num)) (first | exact (P4.out.cell (p := ⟨w.heap.size, 8, none⟩) hwr).trans r8 | exact (Q1.out.cell (p := ⟨w.heap.size, 8, none⟩) hwr).trans r8 | go_keep)
                  (first
                    | (refine step_append_lies _ rfl (.tmp 164) (.tmp 165) 78 rfl wr.heap.size 3 i0 _ 1 8 und_ints HI.out HZ0.out HZ1.out HZ2.out rfl (by decide) _ 0 [] rfl HOA.out ⟨b3, off3, none⟩ sj.2.length c3 (sj.2.map (Value.int .i64)) rfl HLEN.out (news_ci HCI.out HLA.out) (one_int _) HPOS.out HMX.out HBY.out HSA.out _ rfl ?_
                       intro g1 cap1 w1 hown1 hgrow1 hat1 hlt1
                       have Q1 := Lib.hid (HLA.out.grown hgrow1 HSA.out (fun k h => by cases h; first | exact Nat.le_refl _ | exact Nat.le_succ _))
                       have G1 := Lib.hid (hown1.lt g1 rfl).1
                       have O1 := Lib.hid (show w1.ownsRow wr.heap.size 3 1 (.slice (some ⟨g1, 0, none⟩) sj.2.length cap1) sj.2.length (sj.2.map (Value.int .i64)) from by have h := hown1; rw [Nat.zero_add, List.nil_append] at h; exact h)
                       skip
                       have O2 := Lib.hid hown1
                       clear hown1 hgrow1 hat1 hlt1)
                    | (refine step_append_lies _ rfl (.tmp 164) (.tmp 165) 78 rfl wr.heap.size 3 i0 _ 1 8 und_ints HI.out HZ0.out HZ1.out HZ2.out rfl (by decide) _ 0 [] rfl HO0.out ⟨b3, off3, none⟩ sj.2.length c3 (sj.2.map (Value.int .i64)) rfl HLEN.out (news_ci HCI.out HL0.out) (one_int _) HPOS.out HMX.out HBY.out HS0.out _ rfl ?_
                       intro g1 cap1 w1 hown1 hgrow1 hat1 hlt1
                       have Q1 := Lib.hid (HL0.out.grown hgrow1 HS0.out (fun k h => by cases h; first | exact Nat.le_refl _ | exact Nat.le_succ _))
                       have G1 := Lib.hid (hown1.lt g1 rfl).1
                       have O1 := Lib.hid (show w1.ownsRow wr.heap.size 3 1 (.slice (some ⟨g1, 0, none⟩) sj.2.length cap1) sj.2.length (sj.2.map (Value.int .i64)) from by have h := hown1; rw [Nat.zero_add, List.nil_append] at h; exact h)
                       have D1 := Lib.hid (show w1.cell? ⟨wr.heap.size + 1, 0, none⟩ = some (.int .i64 num) from (hgrow1.cell_far ⟨wr.heap.size + 1, 0, none⟩ HT0.out HNE0.out).trans (by have h := news2 wr (.cells #[] 3) #[.int .i64 num] 3 0 _ rfl; exact h))
                       have O2 := Lib.hid hown1
                       clear hown1 hgrow1 hat1 hlt1)
                    | (refine step_append_lies _ rfl (.tmp 164) (.tmp 165) 78 rfl wr.heap.size 3 i0 _ 1 8 und_ints HI.out HZ0.out HZ1.out HZ2.out rfl (by decide) _ 0 [] rfl HO1.out ⟨b3, off3, none⟩ sj.2.length c3 (sj.2.map (Value.int .i64)) rfl HLEN.out (news_ci HCI.out HL1.out) (one_int _) HPOS.out HMX.out HBY.out HS1.out _ rfl ?_
                       intro g1 cap1 w1 hown1 hgrow1 hat1 hlt1
                       have Q1 := Lib.hid (HL1.out.grown hgrow1 HS1.out (fun k h => by cases h; first | exact Nat.le_refl _ | exact Nat.le_succ _))
                       have G1 := Lib.hid (hown1.lt g1 rfl).1
                       have O1 := Lib.hid (show w1.ownsRow wr.heap.size 3 1 (.slice (some ⟨g1, 0, none⟩) sj.2.length cap1) sj.2.length (sj.2.map (Value.int .i64)) from by have h := hown1; rw [Nat.zero_add, List.nil_append] at h; exact h)
                       have D1 := Lib.hid (show w1.cell? ⟨wr.heap.size, 0, none⟩ = some (.int .i64 num) from (hgrow1.cell_far ⟨wr.heap.size, 0, none⟩ HT1.out HNE1.out).trans (by have h := newsB wr (.int .i64 num) 3 (.cells #[] 3) 0 _ rfl; exact h))
                       have O2 := Lib.hid hown1
                       clear hown1 hgrow1 hat1 hlt1)
                    | (refine step_append_lies _ rfl (.tmp 166) (.tmp 169) 78 rfl wr.heap.size 3 i0 _ 1 8 und_ints HI.out HZ0.out HZ1.out HZ2.out rfl (by decide) _ sj.2.length (sj.2.map (Value.int .i64)) rfl (O1.out.alloc _) _ 1 1 [.int .i64 num] rfl rfl (news1 w1 _ _) (by intro u hu; rw [List.mem_singleton.1 hu]; rfl) (by decide) HMX2.out HBY2.out (Q1.out.alloc Q1.out.size _).size _ rfl ?_
                       intro g cap w3' hown hgrow hat hlt
                       have P4 := Lib.hid ((Q1.out.alloc Q1.out.size _).grown hgrow (Q1.out.alloc Q1.out.size _).size (fun k h => by cases h; exact G1.out))
                       have P5 := Lib.hid (ci_own (sj.2 ++ [num]) hown (by simp) (by simp))
                       clear hown hgrow hat hlt)
                    | (refine step_append_lies _ rfl (.tmp 166) (.tmp 169) 78 rfl wr.heap.size 3 i0 _ 1 8 und_ints HI.out HZ0.out HZ1.out HZ2.out rfl (by decide) _ (0 + sj.2.length) ([] ++ sj.2.map (Value.int .i64)) rfl O2.out _ 1 1 [.int .i64 num] rfl rfl (news_one D1.out) (by intro u hu; rw [List.mem_singleton.1 hu]; rfl) (by decide) HMX3.out HBY3.out Q1.out.size _ rfl ?_
                       intro g cap w3' hown hgrow hat hlt
                       have P4 := Lib.hid (Q1.out.grown hgrow Q1.out.size (fun k h => by cases h; exact G1.out))
                       have hh := ci_own (sj.2 ++ [num]) hown (by simp) (by simp)
                       rw [Nat.zero_add] at hh
                       have P5 := Lib.hid hh
                       clear hh hown hgrow hat hlt)
                    | (refine step_append_lies _ rfl (.tmp 166) (.tmp 169) 78 rfl wr.heap.size 3 i0 _ 1 8 und_ints HI.out HZ0.out HZ1.out HZ2.out rfl (by decide) _ sj.2.length (sj.2.map (Value.int .i64)) rfl O1.out _ 1 1 [.int .i64 num] rfl rfl (news_one D1.out) (by intro u hu; rw [List.mem_singleton.1 hu]; rfl) (by decide) HMX2.out HBY2.out Q1.out.size _ rfl ?_
                       intro g cap w3' hown hgrow hat hlt
                       have P4 := Lib.hid (Q1.out.grown hgrow Q1.out.size (fun k h => by cases h; exact G1.out))
                       have P5 := Lib.hid (ci_own (sj.2 ++ [num]) hown (by simp) (by simp))
                       clear hown hgrow hat hlt))
                all_goals
                  go_wp2_with fail
                  go_ret3
                  rw [HRR.out, HCLO.out]
                  exact ⟨HBA.out.trans (P4.out.mono (Nat.le_of_lt hwr)), _, rfl, P5.out⟩
            · have e5 : (k == 5) = false := by simp [k5]
              have HCL := Lib.hid (show closeT (realT (.mk k s0 s1 s2 s3 ps mn mx num)) sj = sj by
                simp only [realT, k5, if_false]
                repeat' split
                all_goals rfl)
              clear k5
              go_wp2_with fail
              go_ret3
              rw [HRR.out, HCL.out]
              exact ⟨HBA.out, xj, rfl, HCI.out⟩
end Go.Proofs.Ytkaoegdfgoojdaa
