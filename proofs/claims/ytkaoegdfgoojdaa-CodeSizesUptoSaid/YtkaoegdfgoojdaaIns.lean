/- instructions, the reference's Right: the walks. -/
import Derived.Test.YtkaoegdfgoojdaaRRight
import Derived.Test.YtkaoegdfgoojdaaSizeP
import Derived.Deep.DeepCutAuto
import Derived.Deep.CutBlock
namespace Go.Proofs.Ytkaoegdfgoojdaa
open Go Go.RowKit

def ownI : Tr → Int
  | .alt ps => 2 * ((ps.length : Int) - 1)
  | .group .. => 2
  | .cat _ => 0
  | .rep .. => 0
  | .empty => 0
  | _ => 1
def isRepT : Tr → Bool
  | .rep .. => true
  | _ => false
theorem icT_own (T : Tr) : icT T = if isRepT T then none else (icL (kidsT T)).map (ownI T + ·) := by
  cases T with
  | cat ps => simp [icT, isRepT, kidsT, ownI]
  | alt ps => simp [icT, isRepT, kidsT, ownI]
  | rep t a b => simp [icT, isRepT]
  | group n t => simp [icT, isRepT, kidsT, ownI, icL]
  | back n => simp [icT, isRepT, kidsT, ownI, icL]
  | one => simp [icT, isRepT, kidsT, ownI, icL]
  | empty => simp [icT, isRepT, kidsT, ownI, icL]
  | start => simp [icT, isRepT, kidsT, ownI, icL]
  | endd => simp [icT, isRepT, kidsT, ownI, icL]
theorem sizeL_take_le (ps : List Tr) (k : Nat) : sizeL (ps.take k) ≤ sizeL ps := by
  induction ps generalizing k with
  | nil => simp
  | cons t r ih =>
    cases k with
    | zero => simp [sizeL]
    | succ k => have := ih k; simp only [List.take_succ_cons, sizeL]; omega
theorem sizeL_kids (T : Tr) : sizeL (kidsT T) ≤ sizeT T := by cases T <;> simp [kidsT, sizeL, sizeT]

def InsPost (w : World) (r : Option Int) (e : Ending) (w' : World) : Prop := Below w.heap.size w w' ∧ e = .returned (.tuple #[.int .i64 (r.getD 0), .bool r.isSome])
def InRel (W2 : World) (K : List RT) (o : Int) (v i : Value) (wr : World) : Prop :=
  ∃ j m, j ≤ K.length ∧ i = .int .i64 (j : Nat) ∧ icL ((K.map realT).take j) = some m ∧ v = .int .i64 (o + m) ∧ Below W2.heap.size W2 wr

set_option maxRecDepth 100000 in
set_option maxHeartbeats 3200000 in
theorem ins_any (n : Nat) : ∀ (t : RT), mu t ≤ n → rsize t ≤ 100 → knownR t = true → ∀ (w : World) (N : Nat) (cs : List Value), N ≤ w.heap.size → Rd w N t cs →
    Calls Try.prog 13 #[.agg cs.toArray] w (InsPost w (icT (realT t))) := by
  induction n with
  | zero => intro t ht; exact absurd ht (by have := rsize_pos t; unfold mu; omega)
  | succ n ih =>
    intro t ht hbig hkn w N cs hN h
    have H := Lib.hid h
    match t, h with
    | .mk k s0 s1 s2 s3 ps mn mx num, ⟨a, c, e, hl, hor⟩ =>
      subst e
      have IH : ∀ j, j < (kidsR (.mk k s0 s1 s2 s3 ps mn mx num)).length → ∀ (w : World) (N : Nat) (cs : List Value), N ≤ w.heap.size → Rd w N ((kidsR (.mk k s0 s1 s2 s3 ps mn mx num)).getD j .zero) cs → Calls Try.prog 13 #[.agg cs.toArray] w (InsPost w (icT (realT ((kidsR (.mk k s0 s1 s2 s3 ps mn mx num)).getD j .zero)))) :=
        fun j hj => ih _ (by have := (kidR_mu _ j hj).1; omega) (by have := (kidR_mu _ j hj).2; omega) (known_kids _ hkn j hj)
      have HIH := Lib.hid IH
      have hb0 : Below w.heap.size w (w.alloc (.cells #[.int .i64 k, .int .u64 s0, .int .u64 s1, .int .u64 s2, .int .u64 s3, .slice a ps.length c, .int .i64 mn, .int .i64 mx, .int .i64 num] 27)) := (Below.refl _ _).alloc (Nat.le_refl _) _
      have HB0 := Lib.hid hb0
      have HKI := Lib.hid (kidsR_any _ _ N _ (Nat.le_trans hN hb0.size) (Rd.below (hb0.mono hN) _ _ H.out))
      have hpl : ps.length ≤ 100 := by
        have h1 : ∀ ps : List RT, ps.length ≤ rsizeL ps := fun ps => by
          induction ps with
          | nil => exact Nat.le_refl _
          | cons u r ih => have := rsize_pos u; simp only [List.length_cons, rsizeL]; omega
        have := h1 ps; simp only [rsize] at hbig; omega
      have hic := icT_own (realT (.mk k s0 s1 s2 s3 ps mn mx num))
      have hsz := realT_size (.mk k s0 s1 s2 s3 ps mn mx num)
      have hsk := sizeL_kids (realT (.mk k s0 s1 s2 s3 ps mn mx num))
      rw [kidsT_real _ hkn] at hic hsk
      obtain ⟨K, hK⟩ : ∃ K, kidsR (.mk k s0 s1 s2 s3 ps mn mx num) = K := ⟨_, rfl⟩
      rw [hK] at HIH HKI hic hsk
      have HK := Lib.hid hK
      have HIC := Lib.hid hic
      have HSK := Lib.hid (show sizeL (K.map realT) ≤ 200 by omega)
      clear ih IH hor ht hb0 hK hkn hic hsz hsk h hbig
      go_enter Try.func13, Try.ntmps13
      go_upto_block 0 with (fail)
      go_cut [4] (fun v wx => isRepT (realT (.mk k s0 s1 s2 s3 ps mn mx num)) = false ∧ v = .int .i64 (ownI (realT (.mk k s0 s1 s2 s3 ps mn mx num))) ∧ ownI (realT (.mk k s0 s1 s2 s3 ps mn mx num)) ≤ 200 ∧ -2 ≤ ownI (realT (.mk k s0 s1 s2 s3 ps mn mx num)) ∧ wx = w.alloc (.cells #[.int .i64 k, .int .u64 s0, .int .u64 s1, .int .u64 s2, .int .u64 s3, .slice a ps.length c, .int .i64 mn, .int .i64 mx, .int .i64 num] 27))
      case first =>
        by_cases k1 : k = 1
        · subst k1
          go_wp2_with fail
          go_meet
          exact ⟨rfl, rfl, by show (1 : Int) ≤ 200; decide, by show (-2 : Int) ≤ 1; decide, rfl⟩
        by_cases k7 : k = 7
        · subst k7
          clear k1
          go_wp2_with fail
          go_meet
          exact ⟨rfl, rfl, by show (1 : Int) ≤ 200; decide, by show (-2 : Int) ≤ 1; decide, rfl⟩
        by_cases k8 : k = 8
        · subst k8
          clear k1 k7
          go_wp2_with fail
          go_meet
          exact ⟨rfl, rfl, by show (1 : Int) ≤ 200; decide, by show (-2 : Int) ≤ 1; decide, rfl⟩
        by_cases k6 : k = 6
        · subst k6
          clear k1 k7 k8
          go_wp2_with fail
          go_meet
          exact ⟨rfl, rfl, by show (1 : Int) ≤ 200; decide, by show (-2 : Int) ≤ 1; decide, rfl⟩
        by_cases k5 : k = 5
        · subst k5
          clear k1 k7 k8 k6
          go_wp2_with fail
          go_meet
          exact ⟨rfl, rfl, by show (2 : Int) ≤ 200; decide, by show (-2 : Int) ≤ 2; decide, rfl⟩
        by_cases k3 : k = 3
        · subst k3
          have HV := Lib.hid (show realT (.mk 3 s0 s1 s2 s3 ps mn mx num) = .alt (realL ps) by simp [realT])
          have HO := Lib.hid (show ownI (realT (.mk 3 s0 s1 s2 s3 ps mn mx num)) = 2 * ((ps.length : Int) - 1) by rw [HV.out]; simp [ownI, realL_map])
          clear k1 k7 k8 k6 k5
          go_wp2_with fail
          go_meet
          exact ⟨by rw [HV.out]; rfl, by rw [HO.out], by rw [HO.out]; omega, by rw [HO.out]; omega, rfl⟩
        by_cases k4 : k = 4
        · subst k4
          have HV := Lib.hid (show isRepT (realT (.mk 4 s0 s1 s2 s3 ps mn mx num)) = true from rfl)
          clear k1 k7 k8 k6 k5 k3
          go_wp2_with fail
          go_ret2
          rw [HIC.out, HV.out]
          exact ⟨HB0.out, rfl⟩
        have e1 : (k == 1) = false := by simp [k1]
        have e3 : (k == 3) = false := by simp [k3]
        have e4 : (k == 4) = false := by simp [k4]
        have e5 : (k == 5) = false := by simp [k5]
        have e6 : (k == 6) = false := by simp [k6]
        have e7 : (k == 7) = false := by simp [k7]
        have e8 : (k == 8) = false := by simp [k8]
        have HV := Lib.hid (show isRepT (realT (.mk k s0 s1 s2 s3 ps mn mx num)) = false ∧ ownI (realT (.mk k s0 s1 s2 s3 ps mn mx num)) = 0 by
          simp only [realT, k1, k3, k4, k5, k6, k7, k8, if_false]
          split <;> exact ⟨rfl, rfl⟩)
        clear k1 k3 k4 k5 k6 k7 k8
        go_wp2_with fail
        go_meet
        exact ⟨HV.out.1, by rw [HV.out.2], by rw [HV.out.2]; decide, by rw [HV.out.2]; decide, rfl⟩
      case rest =>
        obtain ⟨hrep, rfl, ho1, ho2, rfl⟩ := hcut
        have hic := HIC.out
        rw [hrep] at hic
        simp only [Bool.false_eq_true, if_false] at hic
        have HIC2 := Lib.hid hic
        obtain ⟨o, ho⟩ : ∃ o, ownI (realT (.mk k s0 s1 s2 s3 ps mn mx num)) = o := ⟨_, rfl⟩
        rw [ho] at ho1 ho2 HIC2 ⊢
        clear hic hrep ho HIC
        go_wp2_with fail
        refine HKI.out.mono ?_
        rintro e w2 ⟨x2, rfl, hb2, a2, c2, rfl, hl2, hor2⟩
        have HB2 := Lib.hid (HB0.out.trans (hb2.mono HB0.out.size))
        have HOR := Lib.hid hor2
        clear hb2 hor2 HB0 HKI
        go_wp2_with fail
        go_loopw [4, 30] (fun v i wr => InRel w2 K o v i wr) (fun _ i _ => K.length - (intOf i).toNat)
        case atStart => exact ⟨0, 0, Nat.zero_le _, rfl, rfl, by simp, Below.refl _ _⟩
        case round =>
          obtain ⟨j, m, hj, rfl, hm, rfl, hb⟩ := hrel
          have HM := Lib.hid hm
          have HB := Lib.hid hb
          have hmb := icL_bound _ _ hm
          have hmt := sizeL_take_le (K.map realT) j
          have hsk := HSK.out
          have hm1 : m ≤ 800 := by omega
          have hm2 : -400 ≤ m := by omega
          clear hm hb hmb hmt hsk
          by_cases hlt : j < K.length
          · obtain ⟨b, off, rfl, hbN, hc1, hc2', hat⟩ := HOR.out.resolve_left (by intro e; rw [e] at hlt; simp at hlt)
            obtain ⟨cs, hcs, hrd⟩ := RdAt.at K off (RdAt.below HB.out b hbN K off hat) j hlt
            obtain ⟨k', s0', s1', s2', s3', a', n', c', mn', mx', num', h9⟩ := nine hcs hrd
            have q0 := h9.c0
            have q1 := h9.c1
            have q2 := h9.c2
            have q3 := h9.c3
            have q4 := h9.c4
            have q5 := h9.c5
            have q6 := h9.c6
            have q7 := h9.c7
            have q8 := h9.c8
            have H9 := Lib.hid h9.rd
            have hlk : j < (K.map realT).length := by simpa using hlt
            have hgd : (K.map realT).getD j .empty = realT (K.getD j .zero) := by simp [List.getD, hlt]
            have htk := icL_take (K.map realT) j hlk
            rw [HM.out, Option.bind_some, hgd] at htk
            have HTK := Lib.hid htk
            have hks := sizeL_at (K.map realT) j hlk
            rw [hgd] at hks
            have HKS := Lib.hid (Nat.le_trans hks HSK.out)
            clear hcs hrd h9 hat htk hgd hlk hks
            go_wp2_with fail
            clear q0 q1 q2 q3 q4 q5 q6 q7 q8
            have hba : Below wr.heap.size wr (wr.alloc (.cells #[.int .i64 k', .int .u64 s0', .int .u64 s1', .int .u64 s2', .int .u64 s3', .slice a' n' c', .int .i64 mn', .int .i64 mx', .int .i64 num'] 27)) := (Below.refl _ _).alloc (Nat.le_refl _) _
            refine (HIH.out j hlt _ w2.heap.size _ (Nat.le_trans HB.out.size hba.size) (Rd.below (hba.mono HB.out.size) _ _ H9.out)).mono ?_
            rintro e w4 ⟨hb4, rfl⟩
            have HB4 := Lib.hid (HB.out.trans ((hba.trans (hb4.mono hba.size)).mono HB.out.size))
            clear hb4 hba
            cases hrt : icT (realT (K.getD j .zero)) with
            | none =>
              rw [hrt] at HTK
              have HN := Lib.hid (icL_stop _ _ HTK.out)
              clear hrt
              go_wp2_with fail
              go_ret2
              rw [HIC2.out, HN.out]
              exact ⟨HB2.out.trans (HB4.out.mono HB2.out.size), rfl⟩
            | some q =>
              rw [hrt] at HTK
              have hqb := icT_bound _ _ hrt
              have hks := HKS.out
              have hq1 : q ≤ 800 := by omega
              have hq2 : -400 ≤ q := by omega
              clear hrt hqb hks
              simp only [Option.getD_some, Option.isSome_some]
              go_wp2_with fail
              go_roundw
              case rel => exact ⟨j + 1, m + q, by omega, by go_num, HTK.out, by rw [Int.add_assoc], HB4.out⟩
              case measure => simp [intOf]; omega
          · obtain rfl : j = K.length := by omega
            have hr := HM.out
            rw [List.take_of_length_le (by simp)] at hr
            have HR := Lib.hid hr
            clear hr
            go_wp2_with fail
            go_ret2
            rw [HIC2.out, HR.out]
            exact ⟨HB2.out.trans (HB.out.mono HB2.out.size), rfl⟩

set_option maxRecDepth 100000 in
set_option maxHeartbeats 800000 in
theorem Rright_any (t : RT) (hbig : rsize t ≤ 100) (hkn : knownR t = true) (w : World) (N : Nat) (cs : List Value) (hN : N ≤ w.heap.size) (h : Rd w N t cs) :
    Calls Try.prog 12 #[.agg cs.toArray] w (Says w (.bool (rightB (realT t)))) := by
  have H := Lib.hid h
  have HG := Lib.hid (show ([] : List Int).length + groupsN (realT t) ≤ 1048576 by have h1 := groupsN_size (realT t); have h2 := realT_size t; simp; omega)
  have HKN := Lib.hid hkn
  clear hkn
  match t, h with
  | .mk k s0 s1 s2 s3 ps mn mx num, ⟨a, c, e, hl, hor⟩ =>
    subst e
    clear hor h
    obtain ⟨t, ht⟩ : ∃ t, t = RT.mk k s0 s1 s2 s3 ps mn mx num := ⟨_, rfl⟩
    rw [← ht] at hbig H HG HKN ⊢
    clear ht
    have hb0 : Below w.heap.size w (w.alloc (.cells #[.int .i64 k, .int .u64 s0, .int .u64 s1, .int .u64 s2, .int .u64 s3, .slice a ps.length c, .int .i64 mn, .int .i64 mx, .int .i64 num] 27)) := (Below.refl _ _).alloc (Nat.le_refl _) _
    have HB0 := Lib.hid hb0
    have HR := Lib.hid (rr_any (mu t) t (Nat.le_refl _) HKN.out _ N _ (0, []) (.slice none 0 0) (Nat.le_trans hN hb0.size) (Rd.below (hb0.mono hN) t _ H.out) ⟨.inl ⟨rfl, rfl⟩, fun _ => rfl⟩ HG.out)
    clear hb0
    go_enter Try.func12, Try.ntmps12
    go_wp2_with fail
    refine HR.out.mono ?_
    rintro e w2 ⟨hb, hm⟩
    have HB := Lib.hid (HB0.out.trans (hb.mono HB0.out.size))
    have HRB := Lib.hid (show rightB (realT t) = (rightT (realT t) (0, [])).isSome from rfl)
    clear hb
    cases hr : rightT (realT t) (0, []) with
    | none =>
      rw [hr] at hm HRB
      simp only at hm
      obtain rfl := hm
      clear hr
      go_wp2_with fail
      go_ret
      exact ⟨by rw [HRB.out]; rfl, HB.out⟩
    | some s =>
      rw [hr] at hm HRB
      simp only at hm
      obtain ⟨x, rfl, _⟩ := hm
      clear hr
      go_wp2_with fail
      go_ret
      exact ⟨by rw [HRB.out]; rfl, HB.out⟩
end Go.Proofs.Ytkaoegdfgoojdaa
