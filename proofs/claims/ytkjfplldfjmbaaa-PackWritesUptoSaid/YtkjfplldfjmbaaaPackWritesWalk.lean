/- PackWrites' walk. -/
import Derived.Test.YtkjfplldfjmbaaaAwake10
import Derived.Test.YtkjfplldfjmbaaaProtoCopy
import Derived.Test.YtkjfplldfjmbaaaRefRight
import Derived.Test.YtkjfplldfjmbaaaRefWr
namespace Go.Proofs.Ytkjfplldfjmbaaa
open Go.RowKit
theorem szs_ofW {ps : List Pr} {n : Nat} (h : prSizes ps ≤ n) : ps.length ≤ n ∧ ∀ p ∈ ps, p.code.length ≤ n ∧ Dm.sizes p.consts ≤ n ∧ p.names.length ≤ n ∧ p.name.size ≤ n := by
  have h0 := prSizes_len ps
  refine ⟨by omega, fun p hp => ?_⟩
  obtain ⟨i, hi⟩ := List.mem_iff_getElem?.1 hp
  have h1 := prSizes_take hi
  have h2 : p.size = 1 + p.name.size + p.code.length + Dm.sizes p.consts + namesZ p.names := rfl
  have h3 := namesZ_len p.names
  omega
theorem below_wholeW {W w' : World} (h : sat w' (whole W)) (hb : Below 0 W w') : Below W.heap.size W w' := ⟨hb.os, hb.tape, hb.output, hb.size, fun k hk => h.whole_get k hk⟩
set_option maxRecDepth 100000 in
set_option maxHeartbeats 8000000 in
theorem packWrites_walk (W : World) (ps : List Pr) (ao : Option Addr) (c : Nat) (hw : PrKs (whole W) ps ao ∧ prSizes ps + 1 ≤ 1048576 ∧ ps.length ≤ c) :
    Calls Try.prog 3 #[.slice ao ps.length c] W fun e W' => e = .returned (.bool true) ∧ Below W.heap.size W W' := by
  obtain ⟨hks, hsz, _⟩ := hw
  obtain ⟨hz0, hz1⟩ := szs_ofW (n := 1048575) (show prSizes ps ≤ 1048575 by omega)
  have hzz : ∀ p ∈ ps, p.code.length ≤ 1048576 ∧ Dm.sizes p.consts ≤ 1048576 ∧ p.names.length ≤ 1048576 := fun p hp => by have := hz1 p hp; omega
  have hzr : ∀ p ∈ ps, p.code.length ≤ 1048576 ∧ Dm.sizes p.consts ≤ 1048576 := fun p hp => by have := hz1 p hp; omega
  obtain ⟨pl, hpl⟩ : ∃ n, ps.length = n := ⟨_, rfl⟩
  rw [hpl] at hz0 ⊢
  have hC1 := copy_protos ps pl hpl (by omega) (by omega) hzz W (whole W) ao c (sat_whole W) hks
  have hRW := fun (w' : World) (F : HP) (h : sat w' F) (hF : ∀ w, sat w F → sat w (whole W)) => refp_Write ps pl hpl (by omega) w' F ao c (hks.mono hF) (refp_Right ps pl hpl ⟨by omega, hzr⟩ w' F ao c h (hks.mono hF))
  have H0 := Lib.hid (And.intro hpl (And.intro hsz hRW))
  clear hks hsz hzz hzr hz1 hpl hRW
  go_enter Try.func3, Try.ntmps3
  go_wp2_with fail
  refine hC1.mono ?_
  clear hC1
  rintro e w1 ⟨ro1, rc1, css1, M1, rfl, hrc1, hos1, h1, hb1⟩
  rw [H0.out.1] at hrc1 h1 ⊢
  have hW1 := pack_Write ps pl H0.out.1 (by have := H0.out.2.1; omega) w1 _ ro1 rc1 h1 (hos1.ks h1)
  obtain ⟨F1, hF1⟩ : ∃ F : HP, F = own 38 7 (.slice ro1 pl rc1) pl css1.flatten * (M1 * whole W) := ⟨_, rfl⟩
  rw [← hF1] at hW1
  have hFW : ∀ w', sat w' F1 → sat w' (whole W) := fun w' h => by rw [hF1] at h; exact h.right.right
  have H1 := Lib.hid (And.intro hFW hb1)
  clear hrc1 hos1 h1 hb1 hFW hF1
  go_wp2_with fail
  refine hW1.mono ?_
  clear hW1
  rintro e w2 hW2
  cases ho : okPs ps 0 with
  | none =>
    obtain ⟨rfl, h2, hb2⟩ := hW2.refused ho
    have hR := H0.out.2.2 w2 F1 h2 H1.out.1
    have H2 := Lib.hid (And.intro (H1.out.2.trans hb2) ho)
    clear hW2 h2 hb2 ho
    go_wp2_with fail
    refine hR.mono ?_
    clear hR
    rintro e w3 hW3
    obtain ⟨rfl, h3, hb3⟩ := hW3.refused H2.out.2
    have hSB := same_bytes w3 none none 0 0 0 0 [] [] (fun j u h => by simp at h) (fun j u h => by simp at h) rfl rfl Bytes.nil Bytes.nil
    have hA := awake10 w3 F1 h3
    have H3 := Lib.hid (H2.out.1.trans hb3)
    clear hW3 h3 hb3
    rw [show (decide (([] : List Int) = [])) = true by simp] at hSB
    go_wp2_with fail
    refine hSB.mono ?_
    clear hSB
    rintro e w4 ⟨rfl, rfl⟩
    go_wp2_with fail
    refine hA.mono ?_
    clear hA
    rintro e w5 ⟨rfl, h5, hb5⟩
    have H5 := Lib.hid (And.intro h5 (H3.out.trans hb5))
    clear h5 hb5
    go_wp2_with fail
    go_ret
    exact ⟨rfl, below_wholeW (H1.out.1 _ H5.out.1) H5.out.2⟩
  | some q =>
    obtain ⟨va, rfl, h2, hb2⟩ := hW2.told ho
    obtain ⟨ra, ca, rfl, hca⟩ := slice_val h2
    have hR := H0.out.2.2 w2 _ h2 (fun w h => H1.out.1 _ h.right)
    have H2 := Lib.hid (And.intro (H1.out.2.trans hb2) ho)
    obtain ⟨la, hla⟩ : ∃ n, (writeB ps).length = n := ⟨_, rfl⟩
    clear hW2 h2 hb2 ho hca
    rw [hla]
    go_wp2_with fail
    refine hR.mono ?_
    clear hR
    rintro e w3 hW3
    obtain ⟨vb, rfl, h3, hb3⟩ := hW3.told H2.out.2
    obtain ⟨rb, cb, rfl, hcb⟩ := slice_val h3
    have hSB := same_bytes w3 ra rb (writeB ps).length (writeB ps).length ca cb (writeB ps) (writeB ps) (own_cellsAt h3.right rfl) (own_cellsAt h3 rfl) rfl rfl (writeB_u ps) (writeB_u ps)
    have hA := awake10 w3 _ h3
    have H3 := Lib.hid (H2.out.1.trans hb3)
    rw [show (decide (writeB ps = writeB ps)) = true by simp] at hSB
    clear hW3 hb3 hcb h3
    rw [hla] at hSB ⊢
    go_wp2_with fail
    refine hSB.mono ?_
    clear hSB
    rintro e w4 ⟨rfl, rfl⟩
    go_wp2_with fail
    refine hA.mono ?_
    clear hA
    rintro e w5 ⟨rfl, h5, hb5⟩
    have H5 := Lib.hid (And.intro h5 (H3.out.trans hb5))
    clear h5 hb5
    go_wp2_with fail
    go_ret
    exact ⟨rfl, below_wholeW (H1.out.1 _ H5.out.1.right.right) H5.out.2⟩
end Go.Proofs.Ytkjfplldfjmbaaa
