/- PackReads' walk. -/
import Derived.Test.YtkjfplldfjmbaaaBytesOpen
import Derived.Test.YtkjfplldfjmbaaaProtoSame1
import Derived.Test.YtkjfplldfjmbaaaRefRd7
namespace Go.Proofs.Ytkjfplldfjmbaaa
open Go.RowKit
theorem prks_nil (R : HP) : PrKs R [] none := fun i p hp => by simp at hp
theorem firstD_self (ps : List Pr) : FirstD P1 ps ps := fun k p q _ hp hq _ => by rw [hp] at hq; cases hq; rfl
set_option maxRecDepth 100000 in
set_option maxHeartbeats 8000000 in
theorem packReads_walk (W : World) (b : List Int) (bo : Option Addr) (cb : Nat) (hv : BytesAt (whole W) b bo ∧ b.length + 1 ≤ 1048576 ∧ b.length ≤ cb) :
    Calls Try.prog 5 #[.slice bo b.length cb] W fun e W' => e = .returned (.bool true) ∧ Below W.heap.size W W' := by
  obtain ⟨hba, hbl, hbc⟩ := hv
  obtain ⟨bl, hbln⟩ : ∃ n, b.length = n := ⟨_, rfl⟩
  rw [hbln]
  rw [hbln] at hbl hbc
  have hC1 := copy_bytes W (whole W) bo bl cb b hbln (sat_whole W) hba (by omega)
  have HB := Lib.hid (And.intro hba (And.intro hbln (And.intro hbl hbc)))
  clear hba hbl hbc hbln
  go_enter Try.func5, Try.ntmps5
  go_wp2_with fail
  refine hC1.mono ?_
  clear hC1
  rintro e w1 ⟨ro, rc, rfl, hrc, h1, hb1⟩
  have hRd := pack_Read w1 _ ro rc b h1 (fun w' h => own_cellsAt h rfl) HB.out.1.2 (by rw [HB.out.2.1]; exact hrc) (by have := HB.out.2.1; have := HB.out.2.2.1; omega)
  rw [HB.out.2.1] at hRd
  have H1 := Lib.hid hb1
  clear h1 hb1 hrc
  go_wp2_with fail
  refine hRd.mono ?_
  clear hRd
  rintro e w2 hP
  cases hrd : rdRead b with
  | none =>
    rw [hrd] at hP
    obtain ⟨rfl, h2, hb2⟩ := hP
    have hR := ref_Read w2 _ bo cb b h2 (fun w' h => HB.out.1.1 _ h.right) HB.out.1.2 (by have := HB.out.2.1; have := HB.out.2.2.2; omega) (by have := HB.out.2.1; have := HB.out.2.2.1; omega)
    rw [HB.out.2.1, hrd] at hR
    have H2 := Lib.hid (H1.out.trans hb2)
    clear h2 hb2 hrd
    go_wp2_with fail
    refine hR.mono ?_
    clear hR
    rintro e w3 ⟨rfl, h3, hb3⟩
    have hSP := same_protos1 h3 none none 0 0 [] [] (prks_nil _) (prks_nil _) 0 0 rfl rfl (by decide) (by decide) (fun p hp => by simp at hp) (fun p hp => by simp at hp) (firstD_self _)
    rw [samePs_true.2 rfl] at hSP
    have H3 := Lib.hid (H2.out.trans hb3)
    clear h3 hb3
    go_wp2_with fail
    refine hSP.mono ?_
    clear hSP
    rintro e w4 ⟨rfl, h4, hb4⟩
    have hA := awake10 w4 _ h4
    have H4 := Lib.hid (H3.out.trans hb4)
    clear h4 hb4
    go_wp2_with fail
    refine hA.mono ?_
    clear hA
    rintro e w5 ⟨rfl, h5, hb5⟩
    have H5 := Lib.hid (And.intro h5.right (H4.out.trans hb5))
    clear h5 hb5
    go_wp2_with fail
    go_ret
    exact ⟨rfl, below_wholeD H5.out.1 H5.out.2⟩
  | some ps =>
    rw [hrd] at hP
    obtain ⟨so, sc, sss, MS, rfl, hsc, hsos, h2, hb2⟩ := hP
    have hpz := rdRead_size hrd
    obtain ⟨hz0, hz1⟩ := szs_ofD (n := 1048576) (show prSizes ps ≤ 1048576 by have := HB.out.2.1; have := HB.out.2.2.1; omega)
    obtain ⟨pl, hpl⟩ : ∃ n, ps.length = n := ⟨_, rfl⟩
    have hks := hsos.ks h2
    have hR := ref_Read w2 _ bo cb b h2 (fun w' h => HB.out.1.1 _ h.right.right.right) HB.out.1.2 (by have := HB.out.2.1; have := HB.out.2.2.2; omega) (by have := HB.out.2.1; have := HB.out.2.2.1; omega)
    rw [HB.out.2.1, hrd] at hR
    rw [hpl] at h2 hks hsc hz0 hR ⊢
    have H2 := Lib.hid (And.intro (H1.out.trans hb2) (And.intro hks (And.intro hpl (And.intro hz0 hz1))))
    clear h2 hb2 hrd hsos hks hpz hsc hz0 hz1
    go_wp2_with fail
    refine hR.mono ?_
    clear hR
    rintro e w3 ⟨to', tc, tss, MT, rfl, htc, htos, h3, hb3⟩
    rw [hpl] at h3 htc ⊢
    have hkt := htos.ks h3
    have hSP := same_protos1 h3 so to' sc tc ps ps (H2.out.2.1.mono (fun w' h => h.right.right)) hkt pl pl hpl hpl H2.out.2.2.2.1 H2.out.2.2.2.1 H2.out.2.2.2.2 H2.out.2.2.2.2 (firstD_self _)
    rw [samePs_true.2 rfl] at hSP
    have H3 := Lib.hid (H2.out.1.trans hb3)
    clear h3 hb3 htos hkt htc hpl
    go_wp2_with fail
    refine hSP.mono ?_
    clear hSP
    rintro e w4 ⟨rfl, h4, hb4⟩
    have hA := awake10 w4 _ h4
    have H4 := Lib.hid (H3.out.trans hb4)
    clear h4 hb4
    go_wp2_with fail
    refine hA.mono ?_
    clear hA
    rintro e w5 ⟨rfl, h5, hb5⟩
    have H5 := Lib.hid (And.intro h5.right.right.right.right.right (H4.out.trans hb5))
    clear h5 hb5
    go_wp2_with fail
    go_ret
    exact ⟨rfl, below_wholeD H5.out.1 H5.out.2⟩
end Go.Proofs.Ytkjfplldfjmbaaa
