/- ValueNumbers' walk. -/
import Derived.Test.YtanjiecefioffaaNumRow
import Derived.Test.YtanjiecefioffaaSameData
import Derived.Test.YtanjiecefioffaaAwake4
namespace Go.Proofs.Ytanjiecefioffaa
open Go.RowKit

set_option maxRecDepth 100000 in
theorem StW.copy_limbs {w : World} {X : StV} {V : HV} {S : HS} {Y : StS} {R : HP} (h : StW w X V S Y R) (ao : Option Addr) (cap : Nat) (a : List Int) (ha : LimbsW w ao a) (hn : a.length ≤ topB) :
    Calls Try.prog 34 #[.slice ao a.length cap] w fun e w' => ∃ ro rc, e = .returned (.slice ro a.length rc) ∧ StW w' X V S Y (own 70 1 (.slice ro a.length rc) a.length (a.map u32v) * R) ∧ Below 0 w w' := by
  refine (Go.Proofs.Ytanjiecefioffaa.copy_limbs h.s ao cap a ha hn).mono ?_
  rintro e w' ⟨ro, rc, he, hs, hb⟩
  exact ⟨ro, rc, he, ⟨hs.perm (by ac_rfl), h.ok⟩, hb⟩
theorem num_field1 (q : Bool) (r : Option Addr) (A p : Nat) (w : World) : (Instr.field 51 (.agg #[.bool q, .slice r A p]) 1).run Try.prog w = .ok (.slice r A p) w := by kernel_rfl
theorem StW.canon {w : World} {X : StV} {V : HV} {S : HS} {Y : StS} {R : HP} (h : StW w X V S Y R) (n : Bool) (ao : Option Addr) (ca : Nat) (a : List Int) (ha : ∀ w, sat w R → LimbsW w ao a) (la : Limbs a) (na : a.length ≤ 1048576) :
    Calls Try.prog 35 #[.agg #[.bool n, .slice ao a.length ca]] w fun e w' => ∃ ro rc, e = .returned (.agg #[.bool (decide (sgn n (valL a) < 0)), .slice ro (limbsOf (sgn n (valL a)).natAbs).length rc]) ∧ StW w' X V S Y (own 70 1 (.slice ro (limbsOf (sgn n (valL a)).natAbs).length rc) (limbsOf (sgn n (valL a)).natAbs).length ((limbsOf (sgn n (valL a)).natAbs).map u32v) * R) ∧ Below 0 w w' := by
  refine (ref_Canon h.s n ao ca a (fun w h => ha w h.right.right) la (by omega)).mono ?_
  rintro e w' ⟨ro, rc, he, hs, hb⟩
  exact ⟨ro, rc, he, ⟨hs.perm (by ac_rfl), h.ok⟩, hb⟩
theorem StW.small {w : World} {X : StV} {V : HV} {S : HS} {Y : StS} {R : HP} (h : StW w X V S Y R) (n : Bool) (ao : Option Addr) (ca : Nat) (a : List Int) (ha : ∀ w, sat w R → LimbsW w ao a) (la : Limbs a) (na : a.length ≤ 1048576) :
    Calls Try.prog 36 #[.agg #[.bool n, .slice ao a.length ca]] w (StKeeps X V S Y R (.tuple #[.int .i64 (smallI (sgn n (valL a))), .bool (isSmall (sgn n (valL a)))]) w) := by
  refine (ref_Small h.s n ao ca a (fun w h => ha w h.right.right) la (by omega)).mono ?_
  rintro e w' ⟨he, hs, hb⟩
  exact ⟨he, ⟨hs, h.ok⟩, hb⟩
theorem StW.cmp {w : World} {X : StV} {V : HV} {S : HS} {Y : StS} {R : HP} (h : StW w X V S Y R) (n k : Bool) (ao bo : Option Addr) (ca cb : Nat) (a b : List Int) (ha : ∀ w, sat w R → LimbsW w ao a) (hb : ∀ w, sat w R → LimbsW w bo b) (la : Limbs a) (lb : Limbs b) (na : a.length ≤ 1048576) (nb : b.length ≤ 1048576) :
    Calls Try.prog 38 #[.agg #[.bool n, .slice ao a.length ca], .agg #[.bool k, .slice bo b.length cb]] w (StKeeps X V S Y R (.int .i64 (cmpI (sgn n (valL a)) (sgn k (valL b)))) w) := by
  refine (ref_Cmp h.s n k ao bo ca cb a b (fun w h => ha w h.right.right) (fun w h => hb w h.right.right) la lb (by omega) (by omega)).mono ?_
  rintro e w' ⟨he, hs, hb⟩
  exact ⟨he, ⟨hs, h.ok⟩, hb⟩
set_option maxRecDepth 100000 in
set_option maxHeartbeats 4000000 in
theorem valueNumbers_told (W : World) (n : Bool) (ao : Option Addr) (ca : Nat) (a : List Int) (k : Bool) (bo : Option Addr) (cb : Nat) (b : List Int) (ha : IsNumR W ao ca a) (hb : IsNumR W bo cb b) :
    Calls Try.prog 7 #[.agg #[.bool n, .slice ao a.length ca], .agg #[.bool k, .slice bo b.length cb]] W fun e w' => e = .returned (.bool true) ∧ Below W.heap.size W w' := by
  have hs1 := ((sat_whole W).alloc (.cells #[.bool n, .slice ao a.length ca] 51)).alloc (.cells #[.bool k, .slice bo b.length cb] 51)
  have hb1 : Below 0 W ((W.alloc (.cells #[.bool n, .slice ao a.length ca] 51)).alloc (.cells #[.bool k, .slice bo b.length cb] 51)) := (Below.zero_alloc _ _).trans (Below.zero_alloc _ _)
  simp only [World.size_alloc] at hs1
  obtain ⟨g, hg⟩ : ∃ g, W.heap.size = g := ⟨_, rfl⟩
  rw [hg] at hs1
  obtain ⟨F, hF⟩ : ∃ F : HP, F = blk (g + 1) (.cells #[.bool k, .slice bo b.length cb] 51 (0, 0)) * (blk g (.cells #[.bool n, .slice ao a.length ca] 51 (0, 0)) * whole W) := ⟨_, rfl⟩
  rw [← hF] at hs1
  have hFW : ∀ w', sat w' F → sat w' (whole W) := fun w' h => by rw [hF] at h; exact h.right.right
  have hc : ∀ w', sat w' F → w'.cell? ⟨g, 0, none⟩ = some (.bool n) ∧ w'.cell? ⟨g, 1, none⟩ = some (.slice ao a.length ca) ∧ w'.cell? ⟨g + 1, 0, none⟩ = some (.bool k) ∧ w'.cell? ⟨g + 1, 1, none⟩ = some (.slice bo b.length cb) := by
    intro w' h
    rw [hF] at h
    exact ⟨(h.right.left.cell 0).trans rfl, (h.right.left.cell 1).trans rfl, (h.left.cell 0).trans rfl, (h.left.cell 1).trans rfl⟩
  have hA : ∀ w', sat w' F → LimbsW w' ao a := fun w' h => ha.get.keep (hFW w' h)
  have hB : ∀ w', sat w' F → LimbsW w' bo b := fun w' h => hb.get.keep (hFW w' h)
  have hca := ha.cap
  have hcb := hb.cap
  have hta : a.length ≤ topB := by unfold topB; have := ha.top; omega
  have htb : b.length ≤ topB := by unfold topB; have := hb.top; omega
  have hna : a.length ≤ 1048576 := ha.top
  have hnb : b.length ≤ 1048576 := hb.top
  have HH := Lib.hid (And.intro hc (And.intro hA (And.intro hB (And.intro ha.lim (And.intro hb.lim (And.intro hFW hF))))))
  have H1 := Lib.hid (And.intro hs1 hb1)
  clear hs1 hb1 ha hb hc hA hB hFW hF
  obtain ⟨va, hva⟩ : ∃ va, sgn n (valL a) = va := ⟨_, rfl⟩
  obtain ⟨vb, hvb⟩ : ∃ vb, sgn k (valL b) = vb := ⟨_, rfl⟩
  have HV := Lib.hid (And.intro hva hvb)
  clear hva hvb
  go_enter Try.func7, Try.ntmps7
  go_wp2_with fail
  generalize (W.alloc (.cells #[.bool n, .slice ao a.length ca] 51)).alloc (.cells #[.bool k, .slice bo b.length cb] 51) = w1 at *
  refine (StNew_good 4000 H1.out.1 (by decide) (by decide)).mono ?_
  rintro e w2 ⟨X, V, rfl, h2, hb2⟩
  obtain ⟨S0, hS0⟩ : ∃ S, HS.new 4000 = S := ⟨_, rfl⟩
  have l0 : S0.ws.length = 1 ∧ S0.size = 4000 := by rw [← hS0]; exact ⟨rfl, rfl⟩
  rw [hS0] at h2
  clear hS0
  have c0' := h2.c0
  have hU := h2.hw.v.Used
  have HX := Lib.hid (And.intro h2 (And.intro (H1.out.2.trans hb2) l0))
  clear h2 hb2
  go_wp2_with fail
  refine hU.mono ?_
  clear hU
  rintro e w' ⟨rfl, j1, rfl⟩
  rw [l0.1]
  clear l0
  have h3 := HX.out.1.drewN j1
  have hb3 := HX.out.2.1.trans (drewN_below0 w2 j1)
  have c0 := h3.c0
  generalize w2.drewN j1 = w3 at *
  have HY := Lib.hid (And.intro h3 hb3)
  clear h3 hb3
  obtain ⟨c1, c2, c3, c4⟩ := HH.out.1 w3 HY.out.1.fr
  go_wp2_with fail
  go_region_held3 (fun w' => w'.cell? ⟨g, 0, none⟩ = some (.bool n) ∧ w'.cell? ⟨g, 1, none⟩ = some (.slice ao a.length ca)) (first | exact k9 | exact k8 | go_keep)
    (first
      | (go_at_call 34; refine (StW.copy_limbs (HY.out.1.drewN 1) ao ca a (HH.out.2.1 _ (HY.out.1.drewN 1).fr) hta).mono ?_; rintro e w4 ⟨ro, rc, rfl, h4, hb4⟩; have k9 := And.intro (HH.out.1 w4 h4.fr.right).1 (HH.out.1 w4 h4.fr.right).2.1)
      | (go_at_call 33; have hN := h4.Number n ro rc a (fun w h => limbs_own rfl h) HH.out.2.2.2.1 hta (own_cap h4.fr); rw [HV.out.1] at hN; refine hN.mono ?_; clear hN; rintro e w5 ⟨rfl, hb5, V5, hg5, h5⟩; have k8 := And.intro (HH.out.1 w5 h5.fr.right).1 (HH.out.1 w5 h5.fr.right).2.1))
  have HW5 := Lib.hid (And.intro h5.drop (And.intro ((((HY.out.2.trans (drewN_below0 w3 1)).trans hb4)).trans hb5) hg5))
  clear h4 hb4 k9 k8 h5 hb5 hg5 c1 c2 c3 c4 c0 c0'
  obtain ⟨c1, c2, c3, c4⟩ := HH.out.1 w5 HW5.out.1.fr
  obtain ⟨r1, hr1⟩ : ∃ r, S0.number va = r := ⟨_, rfl⟩
  rw [hr1] at HW5 ⊢
  obtain ⟨S1, x, ok⟩ := r1
  simp only at HW5 ⊢
  have hCa := HW5.out.1.canon n ao ca a (fun w h => HH.out.2.1 w h) HH.out.2.2.2.1 hna
  rw [HV.out.1] at hCa
  have HR1 := Lib.hid hr1
  clear hr1
  obtain ⟨A, hA⟩ : ∃ A, (limbsOf va.natAbs).length = A := ⟨_, rfl⟩
  obtain ⟨B, hB⟩ : ∃ B, (limbsOf vb.natAbs).length = B := ⟨_, rfl⟩
  rw [hA] at hCa
  have HAB := Lib.hid (And.intro hA hB)
  clear hA hB
  obtain ⟨qa, hqa⟩ : ∃ q, decide (va < 0) = q := ⟨_, rfl⟩
  rw [hqa] at hCa
  have hfd := num_field1
  by_cases hbA : A ≤ 256
  · have g1 : decide ((A : Int) > 256) = false := by simp; omega
    go_wp2_with fail
    refine hCa.mono ?_
    clear hCa
    rintro e w6 ⟨r6, p6, rfl, h6, hb6⟩
    have H6 := Lib.hid (And.intro h6.drop (HW5.out.2.1.trans hb6))
    clear h6 hb6 c1 c2 c3 c4
    obtain ⟨c1, c2, c3, c4⟩ := HH.out.1 w6 H6.out.1.fr
    have hCb := H6.out.1.canon k bo cb b (fun w h => HH.out.2.2.1 w h) HH.out.2.2.2.2.1 hnb
    rw [HV.out.2, HAB.out.2] at hCb
    obtain ⟨qb, hqb⟩ : ∃ q, decide (vb < 0) = q := ⟨_, rfl⟩
    rw [hqb] at hCb
    by_cases hbB : B ≤ 256
    · have g2 : decide ((B : Int) > 256) = false := by simp; omega
      go_wp2_with fail
      refine hCb.mono ?_
      clear hCb
      rintro e w7 ⟨r7, p7, rfl, h7, hb7⟩
      have H7 := Lib.hid (And.intro h7.drop (H6.out.2.trans hb7))
      clear h7 hb7 c1 c2 c3 c4
      obtain ⟨c1, c2, c3, c4⟩ := HH.out.1 w7 H7.out.1.fr
      have hwf0 := HX.out.1.ok.wf
      have hrm := number_room (S := S0) (v := va) (by rw [HAB.out.1]; exact hbA) (by rw [HX.out.2.2.1, HX.out.2.2.2]; decide)
      have hsz := number_size S0 va
      have hyes := number_yes (S := S0) hwf0.len (by rw [HX.out.2.2.1]; decide) va hrm.1
      rw [HR1.out, HX.out.2.2.1] at hyes hrm
      rw [HR1.out, HX.out.2.2.2] at hsz
      simp only at hrm hyes hsz
      obtain ⟨rfl, hl1⟩ := hrm
      have hSm := H7.out.1.small n ao ca a (fun w h => HH.out.2.1 w h) HH.out.2.2.2.1 hna
      rw [HV.out.1] at hSm
      obtain ⟨sm, hsm⟩ : ∃ sm, isSmall va = sm := ⟨_, rfl⟩
      obtain ⟨L1, hL1⟩ : ∃ L1, S1.ws.length = L1 := ⟨_, rfl⟩
      have hus : ((L1 : Int) == 1) = sm := by
        rw [← hsm, ← hL1, Bool.eq_iff_iff, ← hyes.2, beq_iff_eq]
        omega
      rw [hsm] at hSm
      generalize smallI va = sv at *
      have HR2 := Lib.hid (And.intro hyes.1 (And.intro (show S1.ws.length ≤ 131 by omega) (And.intro hsz.1 hL1)))
      clear hyes hl1 hsz hwf0 hL1 hsm
      go_wp2_with fail
      refine hSm.mono ?_
      clear hSm
      rintro e w8 ⟨rfl, h8, hb8⟩
      have hU := h8.hw.v.Used
      rw [HR2.out.2.2.2, HW5.out.2.2] at hU
      have c0 := h8.c0
      rw [HW5.out.2.2] at c0
      have H8 := Lib.hid (And.intro h8 (H7.out.2.trans hb8))
      clear h8 hb8 c1 c2 c3 c4
      go_wp2_with fail
      refine hU.mono ?_
      clear hU
      rintro e w' ⟨rfl, j8, rfl⟩
      have h9 := H8.out.1.drewN j8
      have hb9 := H8.out.2.trans (drewN_below0 w8 j8)
      generalize w8.drewN j8 = w9 at *
      have H9 := Lib.hid (And.intro h9 hb9)
      clear h9 hb9 c0
      obtain ⟨c1, c2, c3, c4⟩ := HH.out.1 w9 H9.out.1.fr
      obtain ⟨r2, hr2⟩ : ∃ r, S1.number va = r := ⟨_, rfl⟩
      obtain ⟨S2, y, ok2⟩ := r2
      have hwf1 := H9.out.1.ok.wf
      have hrm2 := number_room (S := S1) (v := va) (by rw [HAB.out.1]; exact hbA) (by rw [HR2.out.2.2.1]; have := HR2.out.2.1; omega)
      have hsz2 := number_size S1 va
      have hyes2 := number_yes (S := S1) hwf1.len (by have := HR2.out.2.1; omega) va hrm2.1
      rw [hr2] at hyes2 hrm2 hsz2
      simp only at hrm2 hyes2 hsz2
      obtain ⟨rfl, hl2⟩ := hrm2
      have HR3 := Lib.hid (And.intro (HR2.out.1.ext hsz2.2.2 hwf1) (And.intro hyes2.1 (And.intro (show S2.ws.length ≤ 261 by have := HR2.out.2.1; omega) (hsz2.1.trans HR2.out.2.2.1))))
      clear hl2 hsz2 hyes2
      have hCopy : ∀ w' R, StW w' X V5 S1 ⟨[], [], 0⟩ R → (∀ w, sat w R → sat w F) → Calls Try.prog 34 #[.slice ao a.length ca] w' fun e w'' => ∃ ro rc, e = .returned (.slice ro a.length rc) ∧ StW w'' X V5 S1 ⟨[], [], 0⟩ (own 70 1 (.slice ro a.length rc) a.length (a.map u32v) * R) ∧ Below 0 w' w'' :=
        fun w' R h hR => h.copy_limbs ao ca a (HH.out.2.1 _ (hR _ h.fr)) hta
      have hNum : ∀ w' R b7 c7, a.length + 1 ≤ c7 → StW w' X V5 S1 ⟨[], [], 0⟩ (row 70 1 b7 c7 (a.map u32v ++ [.int .u32 0]) * R) → Calls Try.prog 33 #[.pointer (some ⟨X.g, 0, none⟩), .agg #[.bool n, .slice (some ⟨b7, 0, none⟩) (a.length + 1) c7]] w' (StLaid X V5.g S2 ⟨[], [], 0⟩ (row 70 1 b7 c7 (a.map u32v ++ [.int .u32 0]) * R) y true w') := by
        intro w' R b7 c7 hc7 h
        have h1 := h.Number n (some ⟨b7, 0, none⟩) c7 (a ++ [0]) (fun w hs => limbs_row (b := b7) (cap := c7) (R := R) (by rw [List.map_append]; exact hs)) (by
          intro z hz
          rcases List.mem_append.1 hz with hz | hz
          · exact HH.out.2.2.2.1 z hz
          · simp at hz; subst hz; decide) (by simp; unfold topB; omega) (by simp; omega)
        rw [valL_zero, HV.out.1, hr2] at h1
        simp only [List.length_append, List.length_cons, List.length_nil] at h1
        exact h1
      obtain ⟨i0, hi, hz0, hz1, hz2⟩ := info_parts info_u32
      have HC := Lib.hid (And.intro hCopy (And.intro hNum (And.intro hi (And.intro hz0 (And.intro hz1 hz2)))))
      clear hCopy hNum hi hz0 hz1 hz2 hr2 hwf1
      go_upto_region 11 with (fail)
      go_cut [12, 13] (fun y' o' w' => y' = .int .u64 y ∧ o' = .bool true ∧ (∃ V6 : Go.Proofs.Ytanjiecefioffaa.HV, V6.g = V5.g ∧ StW w' X V6 S2 ⟨[], [], 0⟩ F) ∧ Below 0 W w')
      case first =>
        have n9 := HH.out.1 _ (H9.out.1.push (.cells #[.int .u32 0] 70)).fr.right
        obtain ⟨n1, n2, n3, n4⟩ := n9
        have hnl : ∀ (w' : World) (bl : Nat) (Q : HP), sat w' (Go.Proofs.Ytanjiecefioffaa.blk bl (.cells #[.int .u32 0] 70 (0, 0)) * Q) → ∀ (j : Nat) u, [Value.int .u32 0][j]? = some u → w'.cell? ((⟨bl, 0, none⟩ : Addr).add j) = some u := by
          intro w' bl Q hs j u hj
          match j, hj with
          | 0, hj => simp at hj; subst hj; simpa [Addr.add] using (hs.left.cell 0)
        have HNL := Lib.hid hnl
        clear hnl
        have hbz : ∀ (w' : World) (o : Obj), Below 0 w' (w'.alloc o) := fun w' o => Below.zero_alloc w' o
        have o1 : ∀ (w10 : World) (ro : Option Addr) (rc : Nat), StW w10 X V5 S1 ⟨[], [], 0⟩ (own 70 1 (.slice ro a.length rc) a.length (a.map u32v) * F) →
            (∃ Q, sat (w10.alloc (.cells #[.int .u32 0] 70)) (Go.Proofs.Ytanjiecefioffaa.blk w10.heap.size (.cells #[.int .u32 0] 70 (0, 0)) * Q)) ∧
            sat (w10.alloc (.cells #[.int .u32 0] 70)) (own 70 1 (.slice ro a.length rc) a.length (a.map u32v) * (isHeap V5 S1 * (isSt X V5.g ⟨[], [], 0⟩ * (Go.Proofs.Ytanjiecefioffaa.blk w10.heap.size (.cells #[.int .u32 0] 70 (0, 0)) * F)))) := by
          intro w10 ro rc h
          have h1 := h.push (.cells #[.int .u32 0] 70)
          exact ⟨⟨_, h1.fr⟩, h1.s.perm (by ac_rfl)⟩
        have o2 : ∀ (w11 : World) (bl : Nat) (ro : Option Addr) (rc : Nat), StW w11 X V5 S1 ⟨[], [], 0⟩ (own 70 1 (.slice ro a.length rc) a.length (a.map u32v) * (Go.Proofs.Ytanjiecefioffaa.blk bl (.cells #[.int .u32 0] 70 (0, 0)) * F)) →
            (∃ Q, sat w11 (Go.Proofs.Ytanjiecefioffaa.blk bl (.cells #[.int .u32 0] 70 (0, 0)) * Q)) ∧
            sat w11 (own 70 1 (.slice ro a.length rc) a.length (a.map u32v) * (isHeap V5 S1 * (isSt X V5.g ⟨[], [], 0⟩ * (Go.Proofs.Ytanjiecefioffaa.blk bl (.cells #[.int .u32 0] 70 (0, 0)) * F)))) := by
          intro w11 bl ro rc h
          exact ⟨⟨_, h.fr.right⟩, h.s.perm (by ac_rfl)⟩
        have o3 : ∀ (w12 : World) (bl b7 c7 : Nat), sat w12 (row 70 1 b7 c7 (a.map u32v ++ [.int .u32 0]) * (isHeap V5 S1 * (isSt X V5.g ⟨[], [], 0⟩ * (Go.Proofs.Ytanjiecefioffaa.blk bl (.cells #[.int .u32 0] 70 (0, 0)) * F)))) →
            StW w12 X V5 S1 ⟨[], [], 0⟩ (row 70 1 b7 c7 (a.map u32v ++ [.int .u32 0]) * F) ∧ sat w12 F := by
          intro w12 bl b7 c7 h
          have h1 : StW w12 X V5 S1 ⟨[], [], 0⟩ (Go.Proofs.Ytanjiecefioffaa.blk bl (.cells #[.int .u32 0] 70 (0, 0)) * (row 70 1 b7 c7 (a.map u32v ++ [.int .u32 0]) * F)) := ⟨h.perm (by ac_rfl), H9.out.1.ok⟩
          exact ⟨h1.drop, h1.drop.fr.right⟩
        have HO := Lib.hid (And.intro o1 (And.intro o2 o3))
        clear o1 o2 o3
        go_region_law
          (first
            | (go_simp; go_at_call 34; first
                | (refine (HC.out.1 _ _ (H9.out.1.drewN 1) (fun w h => h)).mono ?_; rintro e w10 ⟨ro, rc, rfl, h10, hb10⟩; obtain ⟨d1, d2, d3, d4⟩ := HH.out.1 w10 h10.fr.right; obtain ⟨d5, d6, d7, d8⟩ := HH.out.1 _ (h10.push (.cells #[.int .u32 0] 70)).fr.right.right; have hq1 := HO.out.1 w10 ro rc h10)
                | (refine (HC.out.1 _ _ ((H9.out.1.drewN 1).push (.cells #[.int .u32 0] 70)) (fun w h => h.right)).mono ?_; rintro e w11 ⟨ro, rc, rfl, h11, hb11⟩; obtain ⟨d1, d2, d3, d4⟩ := HH.out.1 w11 h11.fr.right.right; have hq2 := HO.out.2.1 w11 _ ro rc h11))
            | (refine step_append_sat rfl (.tmp 93) (.tmp 94) 49 rfl 70 i0 (.int .u32 0) 1 4 Try.underlying49 HC.out.2.2.1 HC.out.2.2.2.1 HC.out.2.2.2.2.1 HC.out.2.2.2.2.2 rfl _ a.length (a.map u32v) (by rfl) _ hq1.2 ⟨w10.heap.size, 0, none⟩ 1 1 [.int .u32 0] (by rfl) rfl (HNL.out _ _ _ hq1.1.choose_spec) (fun u hu => by simp at hu; subst hu; rfl) (by omega) (by unfold maxLen; omega) (by omega) ?_; intro b7 c7 w12 hs12 hc12 hb12; have h12 := HO.out.2.2 _ _ _ _ hs12; obtain ⟨e1, e2, e3, e4⟩ := HH.out.1 w12 h12.2)
            | (refine step_append_sat rfl (.tmp 93) (.tmp 94) 49 rfl 70 i0 (.int .u32 0) 1 4 Try.underlying49 HC.out.2.2.1 HC.out.2.2.2.1 HC.out.2.2.2.2.1 HC.out.2.2.2.2.2 rfl _ a.length (a.map u32v) (by rfl) _ hq2.2 ⟨w9.heap.size, 0, none⟩ 1 1 [.int .u32 0] (by rfl) rfl (HNL.out _ _ _ hq2.1.choose_spec) (fun u hu => by simp at hu; subst hu; rfl) (by omega) (by unfold maxLen; omega) (by omega) ?_; intro b7 c7 w12 hs12 hc12 hb12; have h12 := HO.out.2.2 _ _ _ _ hs12; obtain ⟨e1, e2, e3, e4⟩ := HH.out.1 w12 h12.2)
            | (go_simp; go_at_call 33; refine (HC.out.2.1 _ _ _ _ hc12 h12.1).mono ?_; rintro e w13 ⟨rfl, hb13, V6, hg6, h13⟩; obtain ⟨k1, k2, k3, k4⟩ := HH.out.1 w13 h13.fr.right))
        all_goals (
          have hb14 : Below 0 W w13 := by
            first
              | exact ((((H9.out.2.drew.trans hb10).trans (hbz _ _)).trans hb12).trans hb13)
              | exact ((((H9.out.2.drew.trans (hbz _ _)).trans hb11).trans hb12).trans hb13)
          have HZ := Lib.hid (And.intro hg6 (And.intro h13.drop hb14))
          clear h12 hs12 h13 hb12 hb13 hg6 hb14 e1 e2 e3 e4 k1 k2 k3 k4 d1 d2 d3 d4
          go_wp2_with fail
          go_meet
          case rel => exact ⟨rfl, rfl, ⟨V6, HZ.out.1, HZ.out.2.1⟩, HZ.out.2.2⟩)
      case rest =>
        obtain ⟨rfl, rfl, ⟨V6, hg6, h13⟩, hb13⟩ := hcut
        obtain ⟨k1, k2, k3, k4⟩ := HH.out.1 wc h13.fr
        obtain ⟨r3, hr3⟩ : ∃ r, S2.number vb = r := ⟨_, rfl⟩
        obtain ⟨S3, z, ok3⟩ := r3
        have hwf2 := h13.ok.wf
        have hrm3 := number_room (S := S2) (v := vb) (by rw [HAB.out.2]; exact hbB) (by rw [HR3.out.2.2.2]; have := HR3.out.2.2.1; omega)
        have hsz3 := number_size S2 vb
        have hyes3 := number_yes (S := S2) hwf2.len (by have := HR3.out.2.2.1; omega) vb hrm3.1
        rw [hr3] at hyes3 hrm3 hsz3
        simp only at hrm3 hyes3 hsz3
        obtain ⟨rfl, hl3⟩ := hrm3
        have hN3 := h13.Number k bo cb b (fun w h => HH.out.2.2.1 w h) HH.out.2.2.2.2.1 htb hcb
        rw [HV.out.2, hr3] at hN3
        have HR4 := Lib.hid (And.intro (HR3.out.1.ext hsz3.2.2 hwf2) (And.intro (HR3.out.2.1.ext hsz3.2.2 hwf2) hyes3.1))
        clear hsz3 hyes3 hwf2 hr3 hl3 c1 c2 c3 c4 h13 HC
        go_wp2_with fail
        refine hN3.mono ?_
        clear hN3
        rintro e w14 ⟨rfl, hb14, V7, hg7, h14⟩
        have hwf3 := h14.ok.wf
        have e1 := eqv_nums (HR4.out.1.num hwf3) (HR4.out.2.1.num hwf3)
        have e2 := eqv_nums (HR4.out.1.num hwf3) (HR4.out.2.2.num hwf3)
        rw [decide_eq_true rfl] at e1
        have bx := HR4.out.1.1
        have bY := HR4.out.2.1.1
        have bz := HR4.out.2.2.1
        have hxn := HR4.out.1.num hwf3
        obtain ⟨E, hE⟩ : ∃ E, decide (va = vb) = E := ⟨_, rfl⟩
        obtain ⟨cc, hcc⟩ : ∃ cc, cmpI va vb = cc := ⟨_, rfl⟩
        have hcE : (cc == 0) = E := by
          rw [← hE, ← hcc, Bool.eq_iff_iff, beq_iff_eq, decide_eq_true_eq]
          unfold cmpI
          split
          · omega
          · split <;> omega
        rw [hE] at e2
        have hE1 := fun m => (h14.drewN m).Eqv x y bx.1 bx.2 bY.1 bY.2
        have hE2 := fun (w : World) (h : StW w X V7 S3 ⟨[], [], 0⟩ F) => h.Eqv x z bx.1 bx.2 bz.1 bz.2
        rw [e1] at hE1
        rw [e2] at hE2
        have hCm := fun (w : World) (h : StW w X V7 S3 ⟨[], [], 0⟩ F) => h.cmp n k ao bo ca cb a b HH.out.2.1 HH.out.2.2.1 HH.out.2.2.2.1 HH.out.2.2.2.2.1 hna hnb
        rw [HV.out.1, HV.out.2, hcc] at hCm
        have HE := Lib.hid (And.intro (show ∀ (w : World), StW w X V7 S3 ⟨[], [], 0⟩ F → _ from hE2) (And.intro hCm (And.intro (hb13.trans hb14) hxn)))
        have HG := Lib.hid h14
        clear hE2 hCm hwf3 e1 e2 hE hcc hb13 hb14 hxn k1 k2 k3 k4
        obtain ⟨k1, k2, k3, k4⟩ := HH.out.1 w14 h14.fr
        clear h14
        go_wp2_with fail
        go_region_held3 (fun w' => w'.cell? ⟨g, 0, none⟩ = some (.bool n) ∧ w'.cell? ⟨g, 1, none⟩ = some (.slice ao a.length ca) ∧ w'.cell? ⟨g + 1, 0, none⟩ = some (.bool k) ∧ w'.cell? ⟨g + 1, 1, none⟩ = some (.slice bo b.length cb)) (first | exact k9 | exact k8 | exact k7 | go_keep)
          (first
            | (go_at_call 37; refine (hE1 1).mono ?_; clear hE1; rintro e w15 ⟨rfl, h15, hb15⟩; have k9 := HH.out.1 w15 h15.fr)
            | (go_at_call 37; refine (HE.out.1 _ h15).mono ?_; rintro e w16 ⟨rfl, h16, hb16⟩; have k8 := HH.out.1 w16 h16.fr)
            | (go_at_call 38; refine (HE.out.2.1 _ h16).mono ?_; rintro e w17 ⟨rfl, h17, hb17⟩; have k7 := HH.out.1 w17 h17.fr))
        have hb18 := (((HE.out.2.2.1.trans (drewN_below0 w14 1)).trans hb15).trans hb16).trans hb17
        have hNum := h17.Num x bx.1 bx.2
        rw [HE.out.2.2.2] at hNum
        have HK := Lib.hid hb18
        clear h15 h16 hb15 hb16 hb17 hb18 k9 k8 k7 k1 k2 k3 k4 HG HE
        go_wp2_with fail
        with_reducible refine hNum.mono ?_
        clear hNum
        rintro e w18 ⟨so, sc, rfl, hsc, h18, hb18⟩
        simp only [Option.getD_some, Option.isSome_some] at h18 hsc ⊢
        obtain ⟨P, hP⟩ : ∃ P, decide (va < 0) = P := ⟨_, rfl⟩
        rw [hP]
        obtain ⟨l, hl⟩ : ∃ l, limbsOf va.natAbs = l := ⟨_, rfl⟩
        rw [hl] at h18 hsc ⊢
        have h19 := h18.push (.cells #[.bool P, .slice so l.length sc] 51)
        have hb19 := (HK.out.trans hb18).trans (Below.zero_alloc w18 (.cells #[.bool P, .slice so l.length sc] 51))
        obtain ⟨gn, hgn⟩ : ∃ gn, w18.heap.size = gn := ⟨_, rfl⟩
        rw [hgn] at h19
        have hlA : l.length ≤ 256 := by rw [← hl, HAB.out.1]; exact hbA
        have hCn := fun m => (h19.drewN m).canon n ao ca a (fun w h => HH.out.2.1 w h.right.right) HH.out.2.2.2.1 hna
        rw [HV.out.1, hl, hP] at hCn
        have hSN := fun (w : World) (ro : Option Addr) (rc : Nat) (h : StW w X V7 S3 ⟨[], [], 0⟩ (own 70 1 (.slice ro l.length rc) l.length (l.map u32v) * (Go.Proofs.Ytanjiecefioffaa.blk gn (.cells #[.bool P, .slice so l.length sc] 51 (0, 0)) * (own 70 1 (.slice so l.length sc) l.length (l.map u32v) * F)))) =>
          same_num h.fr P so ro sc rc l (fun w h => limbs_own rfl h.right.right) (fun w h => limbs_own rfl h) (by omega)
        have c1 := (h19.fr.left.cell 0).trans (show _ = some (Value.bool P) from rfl)
        have c2 := (h19.fr.left.cell 1).trans (show _ = some (Value.slice so l.length sc) from rfl)
        obtain ⟨k1, k2, k3, k4⟩ := HH.out.1 _ h19.fr.right.right
        have HL := Lib.hid (And.intro hSN hb19)
        clear h18 hb18 h19 hb19 hSN hl hP hsc
        go_wp2_with fail
        generalize w18.alloc (.cells #[.bool P, .slice so l.length sc] 51) = w19 at *
        go_region_held3 (fun w' => w'.cell? ⟨g, 0, none⟩ = some (.bool n) ∧ w'.cell? ⟨g, 1, none⟩ = some (.slice ao a.length ca) ∧ w'.cell? ⟨gn, 0, none⟩ = some (.bool P) ∧ w'.cell? ⟨gn, 1, none⟩ = some (.slice so l.length sc)) (first | exact k9 | exact k8 | exact k7 | go_keep)
          (first
            | (go_at_call 35; refine (hCn 1).mono ?_; rintro e w20 ⟨ro, rc, rfl, h20, hb20⟩; have k9 := And.intro (HH.out.1 w20 h20.fr.right.right.right).1 (And.intro (HH.out.1 w20 h20.fr.right.right.right).2.1 (And.intro ((h20.fr.right.left.cell 0).trans (show _ = some (Value.bool P) from rfl)) ((h20.fr.right.left.cell 1).trans (show _ = some (Value.slice so l.length sc) from rfl)))))
            | (go_at_call 40; refine (HL.out.1 _ _ _ h20).mono ?_; rintro e w21 ⟨rfl, h21, hb21⟩; have k8 := And.intro (HH.out.1 w21 h21.right.right.right).1 (And.intro (HH.out.1 w21 h21.right.right.right).2.1 (And.intro ((h21.right.left.cell 0).trans (show _ = some (Value.bool P) from rfl)) ((h21.right.left.cell 1).trans (show _ = some (Value.slice so l.length sc) from rfl)))))
            | (go_at_call 16; refine (awake_any _ h21).mono ?_; rintro e w22 ⟨rfl, h22, hb22⟩; have k7 := And.intro (HH.out.1 w22 h22.right.right.right).1 (And.intro (HH.out.1 w22 h22.right.right.right).2.1 (And.intro ((h22.right.left.cell 0).trans (show _ = some (Value.bool P) from rfl)) ((h22.right.left.cell 1).trans (show _ = some (Value.slice so l.length sc) from rfl))))))
        have HM := Lib.hid (And.intro (HH.out.2.2.2.2.2.1 _ h22.right.right.right) ((((HL.out.2.trans (drewN_below0 w19 1)).trans hb20).trans hb21).trans hb22))
        clear h20 h21 h22 hb20 hb21 hb22 k9 k8 k7
        go_wp2_with fail
        go_ret
        exact ⟨rfl, below_of_whole' HM.out.1 HM.out.2⟩
    · have g2 : decide ((B : Int) > 256) = true := by simp; omega
      go_wp2_with fail
      refine hCb.mono ?_
      clear hCb
      rintro e w7 ⟨r7, p7, rfl, h7, hb7⟩
      have H7 := Lib.hid (And.intro h7.drop (H6.out.2.trans hb7))
      clear h7 hb7 c1 c2 c3 c4
      cases ok with
      | true =>
        go_wp2_with fail
        refine (awake_any _ (HH.out.2.2.2.2.2.1 _ H7.out.1.fr)).mono ?_
        rintro e w8 ⟨rfl, h8, hb8⟩
        go_wp2_with fail
        go_ret
        exact ⟨rfl, below_of_whole' h8 (H7.out.2.trans hb8)⟩
      | false =>
        have hS1 : S1 = S0 := by have := number_no (S := S0) (v := va) (by rw [HR1.out]); rw [HR1.out] at this; exact this
        subst hS1
        have hU := H7.out.1.hw.v.Used
        rw [HX.out.2.2.1] at hU
        have c0 := H7.out.1.c0
        go_wp2_with fail
        refine hU.mono ?_
        clear hU
        rintro e w' ⟨rfl, j7, rfl⟩
        go_wp2_with fail
        refine (awake_any _ (HH.out.2.2.2.2.2.1 _ (H7.out.1.drewN j7).fr)).mono ?_
        rintro e w8 ⟨rfl, h8, hb8⟩
        go_wp2_with fail
        go_ret
        exact ⟨rfl, below_of_whole' h8 ((H7.out.2.trans (drewN_below0 _ j7)).trans hb8)⟩
  · have g1 : decide ((A : Int) > 256) = true := by simp; omega
    go_wp2_with fail
    refine hCa.mono ?_
    clear hCa
    rintro e w7 ⟨r7, p7, rfl, h7, hb7⟩
    have H7 := Lib.hid (And.intro h7.drop (HW5.out.2.1.trans hb7))
    clear h7 hb7 c1 c2 c3 c4
    cases ok with
    | true =>
      go_wp2_with fail
      refine (awake_any _ (HH.out.2.2.2.2.2.1 _ H7.out.1.fr)).mono ?_
      rintro e w8 ⟨rfl, h8, hb8⟩
      go_wp2_with fail
      go_ret
      exact ⟨rfl, below_of_whole' h8 (H7.out.2.trans hb8)⟩
    | false =>
      have hS1 : S1 = S0 := by have := number_no (S := S0) (v := va) (by rw [HR1.out]); rw [HR1.out] at this; exact this
      subst hS1
      have hU := H7.out.1.hw.v.Used
      rw [HX.out.2.2.1] at hU
      have c0 := H7.out.1.c0
      go_wp2_with fail
      refine hU.mono ?_
      clear hU
      rintro e w' ⟨rfl, j7, rfl⟩
      go_wp2_with fail
      refine (awake_any _ (HH.out.2.2.2.2.2.1 _ (H7.out.1.drewN j7).fr)).mono ?_
      rintro e w8 ⟨rfl, h8, hb8⟩
      go_wp2_with fail
      go_ret
      exact ⟨rfl, below_of_whole' h8 ((H7.out.2.trans (drewN_below0 _ j7)).trans hb8)⟩
end Go.Proofs.Ytanjiecefioffaa
