/- What is written is read, and what is read was written so: numbers, texts, plainly. What is written is read: constants, plainly. What is read was written so: constants, plainly. -/
import Derived.Test.YtkjfplldfjmbaaaPackRdC
import Derived.Test.YtkjfplldfjmbaaaPackInjs
import Derived.Test.YtkjfplldfjmbaaaPackRight
/- What is written is read, and what is read was written so: numbers, texts, plainly. -/
namespace Go.Proofs.Ytkjfplldfjmbaaa
open Go.RowKit
theorem pow128 {k n : Nat} (h : n * 128 ^ k ≤ 1099511627776) (hn : 0 < n) : k ≤ 5 := by
  apply Classical.byContradiction
  intro hk
  have h1 : (128 : Nat) ^ 6 ≤ 128 ^ k := Nat.pow_le_pow_right (by decide) (by omega)
  have h2 : 1 * 128 ^ k ≤ n * 128 ^ k := Nat.mul_le_mul_right _ hn
  omega
theorem rdNumF_numB : ∀ (n k m : Nat) (t : List Int), m + n * 128 ^ k ≤ 1099511627776 → (k = 0 ∨ 0 < n) → rdNumF k m (numB n ++ t) = some (((m + n * 128 ^ k : Nat) : Int), t) := by
  intro n
  induction n using Nat.strongRecOn with
  | ind n ih =>
    intro k m t hb h0
    have hk : k ≤ 5 := by
      rcases h0 with h | h
      · omega
      · exact pow128 (by omega) h
    by_cases hn : n < 128
    · rw [numB_lt hn, List.singleton_append, rd_next, Int.toNat_natCast, Nat.mod_eq_of_lt hn, if_neg (by omega), if_pos (by omega)]
    · rw [numB_ge hn, List.cons_append, rd_next, Int.toNat_natCast]
      have e1 : (n % 128 + 128) % 128 = n % 128 := by omega
      rw [e1]
      have e2 : n * 128 ^ k = n % 128 * 128 ^ k + n / 128 * 128 ^ (k + 1) := by
        rw [Nat.pow_succ, Nat.mul_comm (128 ^ k) 128, ← Nat.mul_assoc, ← Nat.add_mul]
        congr 1
        omega
      rw [if_neg (by omega), if_neg (by omega), ih (n / 128) (by omega) (k + 1) _ t (by omega) (.inr (by omega))]
      rw [e2, Nat.add_assoc]
theorem rdNum_numB (n : Nat) (t : List Int) (h : n ≤ 1099511627776) : rdNum (numB n ++ t) = some ((n : Int), t) := by
  have := rdNumF_numB n 0 0 t (by simpa using h) (.inl rfl)
  rw [Nat.pow_zero, Nat.mul_one, Nat.zero_add] at this
  exact this
theorem numB_of_rdNumF : ∀ (l : List Int) (k m : Nat) (x : Int) (t : List Int), Bytes l → rdNumF k m l = some (x, t) → ∃ n : Nat, l = numB n ++ t ∧ x = ((m + n * 128 ^ k : Nat) : Int) ∧ (k = 0 ∨ 0 < n)
  | [], k, m, x, t, _, h => by cases h
  | v :: l, k, m, x, t, hu, h => by
    have hv := hu v (by simp)
    obtain ⟨vn, rfl⟩ : ∃ n : Nat, v = n := ⟨v.toNat, by omega⟩
    rw [rd_next, Int.toNat_natCast] at h
    split at h
    · cases h
    · rename_i hc
      split at h
      · rename_i hlt
        simp only [Option.some.injEq, Prod.mk.injEq] at h
        obtain ⟨rfl, rfl⟩ := h
        have hm : vn % 128 = vn := by omega
        rw [hm]
        exact ⟨vn, by rw [numB_lt (by omega)]; rfl, rfl, by omega⟩
      · rename_i hge
        obtain ⟨n, e1, e2, e3⟩ := numB_of_rdNumF l _ _ x t (fun y hy => hu y (by simp [hy])) h
        have hn : 0 < n := by omega
        refine ⟨(vn - 128) + 128 * n, ?_, ?_, .inr (by omega)⟩
        · rw [numB_ge (by omega), List.cons_append, e1]
          congr 1
          · congr 1; omega
          · congr 2; omega
        · rw [e2]
          congr 1
          have h1 : vn % 128 = vn - 128 := by omega
          rw [h1, Nat.pow_succ, Nat.add_mul, Nat.add_assoc, Nat.mul_comm (128 ^ k) 128, ← Nat.mul_assoc, Nat.mul_comm n 128]
theorem numB_of_rdNum {l : List Int} {x : Int} {t : List Int} (hu : Bytes l) (h : rdNum l = some (x, t)) : 0 ≤ x ∧ l = numB x.toNat ++ t := by
  obtain ⟨n, e1, e2, _⟩ := numB_of_rdNumF l 0 0 x t hu h
  rw [Nat.pow_zero, Nat.mul_one, Nat.zero_add] at e2
  subst e2
  exact ⟨by omega, by rw [Int.toNat_natCast]; exact e1⟩
theorem rdSign_zigB (v : Int) (t : List Int) (h : -549755813888 ≤ v ∧ v ≤ 549755813888) : rdSign (zigB v ++ t) = some (v, t) := by
  have e : zigB v = numB (zigN v) := rfl
  have hz : zigN v ≤ 1099511627776 := by unfold zigN; split <;> omega
  unfold rdSign
  rw [e, rdNum_numB _ t hz]
  show some (unzig _, t) = _
  congr 2
  unfold unzig zigN
  split <;> split <;> omega
theorem zigB_of_rdSign {l : List Int} {x : Int} {t : List Int} (hu : Bytes l) (h : rdSign l = some (x, t)) : l = zigB x ++ t := by
  unfold rdSign at h
  cases hn : rdNum l with
  | none => rw [hn] at h; cases h
  | some r =>
    obtain ⟨y, m⟩ := r
    rw [hn] at h
    simp only [Option.some.injEq, Prod.mk.injEq] at h
    obtain ⟨rfl, rfl⟩ := h
    obtain ⟨h0, h1⟩ := numB_of_rdNum hu hn
    rw [h1]
    show _ = numB (zigN (unzig y)) ++ m
    congr 2
    unfold zigN unzig
    split <;> split <;> omega
theorem rdBool_bitB (b : Bool) (t : List Int) : rdBool (bitB b ++ t) = some (b, t) := by
  cases b <;> rfl
theorem bitB_of_rdBool {l : List Int} {b : Bool} {t : List Int} (hu : Bytes l) (h : rdBool l = some (b, t)) : l = bitB b ++ t := by
  cases l with
  | nil => cases h
  | cons v l =>
    have hv := hu v (by simp)
    have h' : (if 1 < v then none else some (decide (v = 1), l)) = some (b, t) := h
    split at h'
    · cases h'
    · simp only [Option.some.injEq, Prod.mk.injEq] at h'
      obtain ⟨rfl, rfl⟩ := h'
      have : v = 0 ∨ v = 1 := by omega
      rcases this with rfl | rfl <;> rfl
theorem strOf_bytesO (s : ByteArray) : strOfNums (bytesO s) = s := by
  have h : ∀ l : List UInt8, (l.map fun b => (b.toNat : Int)).map (fun n => UInt8.ofNat n.toNat) = l := by
    intro l
    induction l with
    | nil => rfl
    | cons b l ih => simp only [List.map_cons, ih, Int.toNat_natCast, UInt8.ofNat_toNat]
  unfold strOfNums bytesO
  rw [h]
theorem bytesO_strOf {l : List Int} (h : Bytes l) : bytesO (strOfNums l) = l := by
  unfold bytesO
  rw [strOfNums_data, List.map_map]
  have : ∀ x ∈ l, ((fun b : UInt8 => (b.toNat : Int)) ∘ fun n : Int => UInt8.ofNat n.toNat) x = x := by
    intro x hx
    have := h x hx
    simp only [Function.comp, UInt8.toNat_ofNat']
    omega
  rw [List.map_congr_left this]
  simp
theorem rdText_textB (s : ByteArray) (t : List Int) (h : s.size ≤ 1099511627776) : rdText (textB s ++ t) = some (s, t) := by
  unfold rdText textB
  rw [List.append_assoc, rdNum_numB _ _ h]
  show takeP (bytesO s ++ t) _ = _
  rw [Int.toNat_natCast]
  unfold takeP
  have hl := bytesO_len s
  rw [if_pos (by rw [List.length_append]; omega), List.take_left' hl, List.drop_left' hl, strOf_bytesO]
theorem textB_of_rdText {l : List Int} {s : ByteArray} {t : List Int} (hu : Bytes l) (h : rdText l = some (s, t)) : l = textB s ++ t := by
  unfold rdText at h
  cases hn : rdNum l with
  | none => rw [hn] at h; cases h
  | some r =>
    obtain ⟨y, m⟩ := r
    rw [hn] at h
    obtain ⟨h0, h1⟩ := numB_of_rdNum hu hn
    have h' : takeP m y.toNat = some (s, t) := h
    unfold takeP at h'
    split at h'
    · rename_i hle
      simp only [Option.some.injEq, Prod.mk.injEq] at h'
      obtain ⟨rfl, rfl⟩ := h'
      have hum : Bytes (m.take y.toNat) := fun x hx => hu x (by rw [h1]; exact List.mem_append_right _ (List.mem_of_mem_take hx))
      have hsz : (strOfNums (m.take y.toNat)).size = y.toNat := by
        have := bytesO_len (strOfNums (m.take y.toNat))
        rw [bytesO_strOf hum, List.length_take] at this
        omega
      unfold textB
      rw [hsz, bytesO_strOf hum, List.append_assoc, List.take_append_drop]
      exact h1
    · cases h'
theorem rdLimbs_limbsB : ∀ (xs t : List Int), (∀ x ∈ xs, 0 ≤ x ∧ x < 4294967296) → rdLimbs xs.length (limbsB xs ++ t) = some (xs, t)
  | [], t, _ => rfl
  | x :: xs, t, h => by
    have hx := h x (by simp)
    have e : limbsB (x :: xs) = numB x.toNat ++ limbsB xs := by unfold limbsB; rw [List.flatMap_cons]
    show rdLimbs (xs.length + 1) _ = _
    unfold rdLimbs
    rw [e, List.append_assoc, rdNum_numB _ _ (by omega)]
    show (if 4294967296 ≤ ((x.toNat : Nat) : Int) then none else match rdLimbs xs.length (limbsB xs ++ t) with | none => none | some (ys, l2) => some (((x.toNat : Nat) : Int) :: ys, l2)) = _
    rw [if_neg (by omega), rdLimbs_limbsB xs t fun y hy => h y (by simp [hy])]
    show some (((x.toNat : Nat) : Int) :: xs, t) = _
    rw [show ((x.toNat : Nat) : Int) = x by omega]
theorem limbsB_of_rdLimbs : ∀ (n : Nat) {l xs t : List Int}, Bytes l → rdLimbs n l = some (xs, t) → xs.length = n ∧ l = limbsB xs ++ t ∧ ∀ x ∈ xs, 0 ≤ x ∧ x < 4294967296
  | 0, l, xs, t, _, h => by
    simp only [rdLimbs, Option.some.injEq, Prod.mk.injEq] at h
    obtain ⟨rfl, rfl⟩ := h
    exact ⟨rfl, rfl, fun x hx => by simp at hx⟩
  | n + 1, l, xs, t, hu, h => by
    unfold rdLimbs at h
    cases hn : rdNum l with
    | none => rw [hn] at h; cases h
    | some r =>
      obtain ⟨x, m⟩ := r
      rw [hn] at h
      obtain ⟨h0, h1⟩ := numB_of_rdNum hu hn
      have h2 : (if 4294967296 ≤ x then none else match rdLimbs n m with | none => none | some (xs, l2) => some (x :: xs, l2)) = some (xs, t) := h
      split at h2
      · cases h2
      · rename_i hx
        cases hm : rdLimbs n m with
        | none => rw [hm] at h2; cases h2
        | some r =>
          obtain ⟨ys, u⟩ := r
          rw [hm] at h2
          obtain ⟨e1, e2, e3⟩ := limbsB_of_rdLimbs n (fun y hy => hu y (by rw [h1]; exact List.mem_append_right _ hy)) hm
          simp only [Option.some.injEq, Prod.mk.injEq] at h2
          obtain ⟨rfl, rfl⟩ := h2
          refine ⟨by simp [e1], ?_, ?_⟩
          · rw [h1, e2]
            unfold limbsB
            rw [List.flatMap_cons, List.append_assoc]
          · intro y hy
            rcases List.mem_cons.1 hy with rfl | hy
            · omega
            · exact e3 y hy
end Go.Proofs.Ytkjfplldfjmbaaa

/- What is written is read: constants, plainly. -/
namespace Go.Proofs.Ytkjfplldfjmbaaa
open Go.RowKit
/-- A constant, its kind being read. -/
def rdBody (deep : Nat) (p k : Int) (l1 : List Int) : Option (Dm × Int × List Int) :=
      if k = 1 then match rdBool l1 with
        | none => none
        | some (neg, l2) => match rdNum l2 with
          | none => none
          | some (n, l3) => match rdLimbs n.toNat l3 with
            | none => none
            | some (mag, l4) => some (.mk 1 0 neg mag noT [] [], p + 1, l4)
      else if k = 2 ∨ k = 3 ∨ k = 9 then match rdSign l1 with
        | none => none
        | some (n, l2) => some (.mk k n false [] noT [] [], p + 1, l2)
      else if k = 4 then match rdText l1 with
        | none => none
        | some (s, l2) => some (.mk 4 0 false [] s [] [], p + 1, l2)
      else if k = 5 then match rdText l1 with
        | none => none
        | some (s, l2) => match rdSign l2 with
          | none => none
          | some (n, l3) => some (.mk 5 n false [] s [] [], p + 1, l3)
      else if k = 6 ∨ k = 7 then match rdNum l1 with
        | none => none
        | some (n, l2) => match rdMany (rdConst deep) n.toNat (p + 1) l2 with
          | none => none
          | some (items, q, l3) => if k = 6 then match rdBool l3 with
              | none => none
              | some (false, l4) => some (.mk k 0 false [] noT items [], q, l4)
              | some (true, l4) => match rdConst deep q l4 with
                | none => none
                | some (r, q2, l5) => some (.mk k 0 false [] noT items [r], q2, l5)
            else some (.mk k 0 false [] noT items [], q, l3)
      else if k = 8 then some (.mk 8 0 false [] noT [] [], p + 1, l1)
      else none
theorem rdConst_succ (deep : Nat) (p : Int) (l : List Int) : rdConst (deep + 1) p l = if 20000 < p + 1 then none else match rdNum l with
    | none => none
    | some (k, l1) => rdBody deep p k l1 := rfl
theorem rdConst_num {deep : Nat} {p k : Int} {u : List Int} (hp : ¬ 20000 < p + 1) (hk : 0 ≤ k ∧ k ≤ 9) : rdConst (deep + 1) p (numB k.toNat ++ u) = rdBody deep p k u := by
  rw [rdConst_succ, if_neg hp, rdNum_numB _ _ (by omega)]
  show rdBody deep p ((k.toNat : Nat) : Int) u = _
  rw [show ((k.toNat : Nat) : Int) = k by omega]
theorem rdMany_constBs {deep : Nat} : ∀ (ds : List Dm) (p : Int) (t : List Int), (∀ d ∈ ds, ∀ (p : Int) (t : List Int), 0 ≤ p → p + nodesD d ≤ 20000 → rdConst deep p (constB d ++ t) = some (d, p + nodesD d, t)) → 0 ≤ p → p + nodesDs ds ≤ 20000 →
    rdMany (rdConst deep) ds.length p (constBs ds ++ t) = some (ds, p + nodesDs ds, t)
  | [], p, t, _, _, _ => by
    show some ([], p, t) = _
    simp [nodesDs]
  | d :: ds, p, t, h, h0, hb => by
    have hn : nodesDs (d :: ds) = nodesD d + nodesDs ds := rfl
    rw [hn] at hb ⊢
    have e : constBs (d :: ds) = constB d ++ constBs ds := by rw [constBs]
    show rdMany (rdConst deep) (ds.length + 1) p _ = _
    unfold rdMany
    rw [e, List.append_assoc, h d (by simp) p _ h0 (by omega)]
    simp only []
    rw [rdMany_constBs ds _ t (fun x hx => h x (by simp [hx])) (by omega) (by omega)]
    simp only [Option.some.injEq, Prod.mk.injEq, true_and, and_true]
    omega
theorem depth_mem : ∀ {ds : List Dm} {d : Dm}, d ∈ ds → depthD d ≤ depthDs ds
  | [], d, h => by simp at h
  | e :: ds, d, h => by
    have hd : depthDs (e :: ds) = max (depthD e) (depthDs ds) := rfl
    rcases List.mem_cons.1 h with rfl | h
    · omega
    · have := depth_mem h; omega
theorem size_mem : ∀ {ds : List Dm} {d : Dm}, d ∈ ds → d.size ≤ Dm.sizes ds
  | [], d, h => by simp at h
  | e :: ds, d, h => by
    unfold Dm.sizes
    rcases List.mem_cons.1 h with rfl | h
    · omega
    · have := size_mem h; omega
theorem rdConst_constB : ∀ (s : Nat) (d : Dm), d.size ≤ s → d.size ≤ 1048576 → RightD d → ∀ (deep : Nat) (p : Int) (t : List Int), depthD d ≤ deep → 0 ≤ p → p + nodesD d ≤ 20000 →
    rdConst deep p (constB d ++ t) = some (d, p + nodesD d, t) := by
  intro s
  induction s with
  | zero => intro d hd; have := d.size_pos; omega
  | succ s ih =>
    intro d hd hz hr deep p t hdp h0 hb
    cases d with
    | mk k n neg mag text items rest =>
    have hnd : nodesD (.mk k n neg mag text items rest) = 1 + nodesDs items + nodesDs rest := rfl
    have hdd : depthD (.mk k n neg mag text items rest) = 1 + max (depthDs items) (depthDs rest) := rfl
    rw [hdd] at hdp
    rw [hnd] at hb ⊢
    unfold Dm.size at hd hz
    obtain ⟨deep, rfl⟩ : ∃ e, deep = e + 1 := ⟨deep - 1, by omega⟩
    have hk := hr.kind
    have hp1 : ¬ 20000 < p + 1 := by omega
    have hone : ∀ ds : List Dm, Dm.sizes ds ≤ s → Dm.sizes ds ≤ 1048576 → depthDs ds ≤ deep → RightDs ds → ∀ d ∈ ds, ∀ (p : Int) (t : List Int), 0 ≤ p → p + nodesD d ≤ 20000 → rdConst deep p (constB d ++ t) = some (d, p + nodesD d, t) := by
      intro ds h1 h12 h2 h3 d hd' p t h4 h5
      have e1 := size_mem hd'
      have e2 := depth_mem hd'
      exact ih d (by omega) (by omega) (h3.mem d hd') deep p t (by omega) h4 h5
    unfold constB
    rw [List.append_assoc, rdConst_num hp1 (by omega)]
    unfold RightD at hr
    rcases hr with ⟨hkk, hn, rfl, rfl, rfl, rfl, rfl⟩ | ⟨rfl, hn, rfl, rfl, rfl, rfl⟩ | ⟨rfl, rfl, rfl, rfl, rfl, hc, hne⟩ | ⟨rfl, rfl, rfl, rfl, rfl, rfl⟩ | ⟨rfl, rfl, rfl, rfl, rfl, rfl, rfl⟩ | ⟨hkk, rfl, rfl, rfl, rfl, h7, hrs, h8, h9⟩
    · rw [if_neg (by omega), if_pos hkk]
      unfold rdBody
      rw [if_neg (by omega), if_pos hkk, rdSign_zigB n t hn]
      simp [nodesDs]
    · rw [if_neg (by decide), if_neg (by decide), if_neg (by decide), if_pos rfl]
      unfold rdBody
      rw [if_neg (by decide), if_neg (by decide), if_neg (by decide), if_pos rfl, List.append_assoc, rdText_textB _ _ (by omega)]
      show (match rdSign (zigB n ++ t) with | none => none | some (n, l3) => some (Dm.mk 5 n false [] text [] [], p + 1, l3)) = _
      rw [rdSign_zigB n t hn]
      simp [nodesDs]
    · rw [if_pos rfl]
      unfold rdBody
      rw [if_pos rfl, List.append_assoc, List.append_assoc, rdBool_bitB]
      show (match rdNum (numB mag.length ++ (limbsB mag ++ t)) with | none => none | some (n, l3) => match rdLimbs n.toNat l3 with | none => none | some (mag, l4) => some (Dm.mk 1 0 neg mag noT [] [], p + 1, l4)) = _
      rw [rdNum_numB _ _ (by omega)]
      show (match rdLimbs ((mag.length : Nat) : Int).toNat (limbsB mag ++ t) with | none => none | some (mag, l4) => some (Dm.mk 1 0 neg mag noT [] [], p + 1, l4)) = _
      rw [Int.toNat_natCast, rdLimbs_limbsB mag t (fun x hx => by rw [← hc] at hx; exact limbsOf_limbs _ x hx)]
      simp [nodesDs]
    · rw [if_neg (by decide), if_neg (by decide), if_pos rfl]
      unfold rdBody
      rw [if_neg (by decide), if_neg (by decide), if_pos rfl, rdText_textB _ _ (by omega)]
      simp [nodesDs]
    · rw [if_neg (by decide), if_neg (by decide), if_neg (by decide), if_neg (by decide), if_neg (by decide), if_neg (by decide)]
      unfold rdBody
      rw [if_neg (by decide), if_neg (by decide), if_neg (by decide), if_neg (by decide), if_neg (by decide), if_pos rfl]
      simp [nodesDs]
    · have hI := fun t => rdMany_constBs (deep := deep) items (p + 1) t (hone items (by omega) (by omega) (by omega) h8) (by omega) (by omega)
      have hlen := Dm.len_le items
      rcases hkk with rfl | rfl
      · rw [if_neg (by decide), if_neg (by decide), if_neg (by decide), if_neg (by decide), if_pos rfl]
        unfold rdBody
        rw [if_neg (by decide), if_neg (by decide), if_neg (by decide), if_neg (by decide), if_pos (by decide), List.append_assoc, List.append_assoc, List.append_assoc, rdNum_numB _ _ (by omega)]
        simp only []
        rw [Int.toNat_natCast, hI]
        simp only [if_true]
        rcases hrs with rfl | ⟨r, rfl, hi, hkr⟩
        · have e : numB ([] : List Dm).length ++ (constBs [] ++ t) = bitB false ++ t := by
            show numB 0 ++ (constBs [] ++ t) = _
            rw [numB_lt (by decide), constBs]
            rfl
          rw [e, rdBool_bitB]
          simp [nodesDs]; omega
        · have e : numB [r].length ++ (constBs [r] ++ t) = bitB true ++ (constB r ++ t) := by
            show numB 1 ++ (constBs [r] ++ t) = _
            rw [numB_lt (by decide), constBs, constBs, List.append_nil]
            rfl
          have hnr : nodesDs [r] = nodesD r := by simp [nodesDs]
          rw [hnr] at hb ⊢
          rw [e, rdBool_bitB]
          simp only []
          rw [hone [r] (by omega) (by omega) (by omega) h9 r (by simp) _ t (by omega) (by omega)]
          simp only [Option.some.injEq, Prod.mk.injEq, true_and, and_true]
          omega
      · have hr0 := h7 rfl
        subst hr0
        rw [if_neg (by decide), if_neg (by decide), if_neg (by decide), if_neg (by decide), if_neg (by decide), if_pos rfl]
        unfold rdBody
        rw [if_neg (by decide), if_neg (by decide), if_neg (by decide), if_neg (by decide), if_pos (by decide), List.append_assoc, List.append_assoc, rdNum_numB _ _ (by omega)]
        simp only []
        rw [Int.toNat_natCast, hI]
        simp only [show ¬ ((7 : Int) = 6) by decide, if_false]
        simp [nodesDs, constBs]; omega
end Go.Proofs.Ytkjfplldfjmbaaa

/- What is read was written so: constants, plainly. -/
namespace Go.Proofs.Ytkjfplldfjmbaaa
open Go.RowKit
theorem Bytes.right {a b : List Int} (h : Bytes (a ++ b)) : Bytes b := fun x hx => h x (List.mem_append_right _ hx)
theorem constBs_of_rdMany {f : Int → List Int → Option (Dm × Int × List Int)} (hf : ∀ p l d q t, Bytes l → f p l = some (d, q, t) → l = constB d ++ t) :
    ∀ (n : Nat) {p : Int} {l : List Int} {ds : List Dm} {q : Int} {t : List Int}, Bytes l → rdMany f n p l = some (ds, q, t) → ds.length = n ∧ l = constBs ds ++ t
  | 0, p, l, ds, q, t, _, h => by
    simp only [rdMany, Option.some.injEq, Prod.mk.injEq] at h
    obtain ⟨rfl, rfl, rfl⟩ := h
    exact ⟨rfl, by rw [constBs]; rfl⟩
  | n + 1, p, l, ds, q, t, hu, h => by
    unfold rdMany at h
    cases hn : f p l with
    | none => rw [hn] at h; cases h
    | some r =>
      obtain ⟨d, p1, l1⟩ := r
      rw [hn] at h
      have hb := hf p l d p1 l1 hu hn
      simp only [] at h
      cases hm : rdMany f n p1 l1 with
      | none => rw [hm] at h; cases h
      | some r =>
        obtain ⟨es, p2, l2⟩ := r
        rw [hm] at h
        obtain ⟨e1, e2⟩ := constBs_of_rdMany hf n (by rw [hb] at hu; exact hu.right) hm
        simp only [Option.some.injEq, Prod.mk.injEq] at h
        obtain ⟨rfl, rfl, rfl⟩ := h
        exact ⟨by simp [e1], by rw [hb, e2, constBs, List.append_assoc]⟩
theorem constB_of_rdConst : ∀ (deep : Nat) (p : Int) (l : List Int) (d : Dm) (q : Int) (t : List Int), Bytes l → rdConst deep p l = some (d, q, t) → l = constB d ++ t
  | 0, p, l, d, q, t, _, h => by cases h
  | deep + 1, p, l, d, q, t, hu, h => by
    rw [rdConst_succ] at h
    by_cases hp : 20000 < p + 1
    · rw [if_pos hp] at h; cases h
    rw [if_neg hp] at h
    cases hn : rdNum l with
    | none => rw [hn] at h; cases h
    | some r =>
      obtain ⟨k, l1⟩ := r
      rw [hn] at h
      obtain ⟨hk0, hl⟩ := numB_of_rdNum hu hn
      have hu1 : Bytes l1 := by rw [hl] at hu; exact hu.right
      have h' : rdBody deep p k l1 = some (d, q, t) := h
      clear h
      rw [hl]
      unfold rdBody at h'
      by_cases h1 : k = 1
      · rw [if_pos h1] at h'
        cases a1 : rdBool l1 with
        | none => rw [a1] at h'; cases h'
        | some r =>
          obtain ⟨neg, l2⟩ := r
          rw [a1] at h'
          have b1 := bitB_of_rdBool hu1 a1
          have hu2 : Bytes l2 := by rw [b1] at hu1; exact hu1.right
          simp only [] at h'
          cases a2 : rdNum l2 with
          | none => rw [a2] at h'; cases h'
          | some r =>
            obtain ⟨n, l3⟩ := r
            rw [a2] at h'
            obtain ⟨b2, b3⟩ := numB_of_rdNum hu2 a2
            have hu3 : Bytes l3 := by rw [b3] at hu2; exact hu2.right
            simp only [] at h'
            cases a3 : rdLimbs n.toNat l3 with
            | none => rw [a3] at h'; cases h'
            | some r =>
              obtain ⟨mag, l4⟩ := r
              rw [a3] at h'
              obtain ⟨c1, c2, _⟩ := limbsB_of_rdLimbs _ hu3 a3
              simp only [Option.some.injEq, Prod.mk.injEq] at h'
              obtain ⟨rfl, _, rfl⟩ := h'
              unfold constB
              rw [if_pos rfl, b1, b3, c2, c1, h1]
              simp only [List.append_assoc]
      rw [if_neg h1] at h'
      by_cases h2 : k = 2 ∨ k = 3 ∨ k = 9
      · rw [if_pos h2] at h'
        cases a1 : rdSign l1 with
        | none => rw [a1] at h'; cases h'
        | some r =>
          obtain ⟨n, l2⟩ := r
          rw [a1] at h'
          have b1 := zigB_of_rdSign hu1 a1
          simp only [Option.some.injEq, Prod.mk.injEq] at h'
          obtain ⟨rfl, _, rfl⟩ := h'
          unfold constB
          rw [if_neg h1, if_pos h2, b1, List.append_assoc]
      rw [if_neg h2] at h'
      by_cases h4 : k = 4
      · rw [if_pos h4] at h'
        cases a1 : rdText l1 with
        | none => rw [a1] at h'; cases h'
        | some r =>
          obtain ⟨s, l2⟩ := r
          rw [a1] at h'
          have b1 := textB_of_rdText hu1 a1
          simp only [Option.some.injEq, Prod.mk.injEq] at h'
          obtain ⟨rfl, _, rfl⟩ := h'
          subst h4
          unfold constB
          rw [if_neg (by decide), if_neg (by decide), if_pos rfl, b1, List.append_assoc]
      rw [if_neg h4] at h'
      by_cases h5 : k = 5
      · rw [if_pos h5] at h'
        cases a1 : rdText l1 with
        | none => rw [a1] at h'; cases h'
        | some r =>
          obtain ⟨s, l2⟩ := r
          rw [a1] at h'
          have b1 := textB_of_rdText hu1 a1
          have hu2 : Bytes l2 := by rw [b1] at hu1; exact hu1.right
          simp only [] at h'
          cases a2 : rdSign l2 with
          | none => rw [a2] at h'; cases h'
          | some r =>
            obtain ⟨n, l3⟩ := r
            rw [a2] at h'
            have b2 := zigB_of_rdSign hu2 a2
            simp only [Option.some.injEq, Prod.mk.injEq] at h'
            obtain ⟨rfl, _, rfl⟩ := h'
            subst h5
            unfold constB
            rw [if_neg (by decide), if_neg (by decide), if_neg (by decide), if_pos rfl, b1, b2]
            simp only [List.append_assoc]
      rw [if_neg h5] at h'
      by_cases h6 : k = 6 ∨ k = 7
      · rw [if_pos h6] at h'
        cases a1 : rdNum l1 with
        | none => rw [a1] at h'; cases h'
        | some r =>
          obtain ⟨n, l2⟩ := r
          rw [a1] at h'
          obtain ⟨b1, b2⟩ := numB_of_rdNum hu1 a1
          have hu2 : Bytes l2 := by rw [b2] at hu1; exact hu1.right
          simp only [] at h'
          cases a2 : rdMany (rdConst deep) n.toNat (p + 1) l2 with
          | none => rw [a2] at h'; cases h'
          | some r =>
            obtain ⟨items, q1, l3⟩ := r
            rw [a2] at h'
            obtain ⟨c1, c2⟩ := constBs_of_rdMany (constB_of_rdConst deep) _ hu2 a2
            have hu3 : Bytes l3 := by rw [c2] at hu2; exact hu2.right
            simp only [] at h'
            by_cases h66 : k = 6
            · rw [if_pos h66] at h'
              cases a3 : rdBool l3 with
              | none => rw [a3] at h'; cases h'
              | some r =>
                obtain ⟨b, l4⟩ := r
                rw [a3] at h'
                have b3 := bitB_of_rdBool hu3 a3
                have hu4 : Bytes l4 := by rw [b3] at hu3; exact hu3.right
                cases b with
                | false =>
                  simp only [Option.some.injEq, Prod.mk.injEq] at h'
                  obtain ⟨rfl, _, rfl⟩ := h'
                  subst h66
                  unfold constB
                  rw [if_neg (by decide), if_neg (by decide), if_neg (by decide), if_neg (by decide), if_pos rfl, b2, c2, b3, c1]
                  have e : numB ([] : List Dm).length ++ constBs [] = bitB false := by
                    show numB 0 ++ constBs [] = _
                    rw [numB_lt (by decide), constBs]
                    rfl
                  rw [← e]
                  simp only [List.append_assoc]
                | true =>
                  simp only [] at h'
                  cases a4 : rdConst deep q1 l4 with
                  | none => rw [a4] at h'; cases h'
                  | some r =>
                    obtain ⟨r, q2, l5⟩ := r
                    rw [a4] at h'
                    have b4 := constB_of_rdConst deep _ _ _ _ _ hu4 a4
                    simp only [Option.some.injEq, Prod.mk.injEq] at h'
                    obtain ⟨rfl, _, rfl⟩ := h'
                    subst h66
                    unfold constB
                    rw [if_neg (by decide), if_neg (by decide), if_neg (by decide), if_neg (by decide), if_pos rfl, b2, c2, b3, b4, c1]
                    have e : numB [r].length ++ constBs [r] = bitB true ++ constB r := by
                      show numB 1 ++ constBs [r] = _
                      rw [numB_lt (by decide), constBs, constBs, List.append_nil]
                      rfl
                    simp only [List.append_assoc]
                    rw [← List.append_assoc (bitB true), ← e, List.append_assoc]
            · rw [if_neg h66] at h'
              have h7 : k = 7 := by omega
              simp only [Option.some.injEq, Prod.mk.injEq] at h'
              obtain ⟨rfl, _, rfl⟩ := h'
              subst h7
              unfold constB
              rw [if_neg (by decide), if_neg (by decide), if_neg (by decide), if_neg (by decide), if_neg (by decide), if_pos rfl, b2, c2, c1, show constBs [] = ([] : List Int) by rw [constBs]]
              simp only [List.append_assoc, List.append_nil]
      rw [if_neg h6] at h'
      by_cases h8 : k = 8
      · rw [if_pos h8] at h'
        simp only [Option.some.injEq, Prod.mk.injEq] at h'
        obtain ⟨rfl, _, rfl⟩ := h'
        subst h8
        unfold constB
        rw [if_neg (by decide), if_neg (by decide), if_neg (by decide), if_neg (by decide), if_neg (by decide), if_neg (by decide), List.append_nil]
      · rw [if_neg h8] at h'; cases h'
end Go.Proofs.Ytkjfplldfjmbaaa
