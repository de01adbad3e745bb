/- ValueTexts' walk. -/
import Derived.Test.YtanjiecefioffaaTextLaws
import Derived.Test.YtanjiecefioffaaAwake4
namespace Go.Proofs.Ytanjiecefioffaa
open Go.RowKit

theorem text_fits (S : HS) (b : List Int) (hs : S.size = 2000) (hl : b.length ≤ 3000) (hw : S.ws.length ≤ 1000) : textOk S b = true := by
  have hwl := wordsOf_len b
  unfold textOk HS.room
  rw [hwl, hs]
  simp only [Bool.and_eq_true, decide_eq_true_eq]
  omega
set_option maxHeartbeats 4000000 in
set_option maxRecDepth 100000 in
theorem valueTexts_told (W : World) (a0 : Option Addr) (len0 cap0 : Nat) (z0 : List Int) (hn : IsBytesR W a0 len0 cap0 z0) :
    Calls Try.prog 10 #[.slice a0 len0 cap0] W fun e w' => e = .returned (.bool true) ∧ Below W.heap.size W w' := by
  have hlen0 := hn.bd
  have hlc0 := hn.lc
  have hin := hn.ins
  have hu := hn.u
  have heq := hn.eq
  by_cases h3 : len0 ≤ 3000
  case' pos =>
    have b30 : decide ((len0 : Int) > 3000) = false := by simp; omega
    obtain ⟨b, hb⟩ : ∃ b, z0 = b := ⟨_, rfl⟩
    have hB : BytesIn (whole W) a0 b ∧ Bytes b ∧ b.length ≤ 3000 := by subst hb; exact ⟨hin, hu, by omega⟩
    have HB := Lib.hid hB
    have hlb : len0 = b.length := by subst hb; exact heq.symm
    clear hn hin hu heq hB hb
    go_enter Try.func10, Try.ntmps10
    go_wp2_with fail
    rw [hlb]
    clear b30 hlb h3 hlc0 hlen0
  case' neg =>
    have b30 : decide ((len0 : Int) > 3000) = true := by simp; omega
    obtain ⟨b, hb⟩ : ∃ b, z0.take 3000 = b := ⟨_, rfl⟩
    have hB : BytesIn (whole W) a0 b ∧ Bytes b ∧ b.length ≤ 3000 := by
      subst hb
      refine ⟨fun w hs j x hx => ?_, fun x hx => hu x (List.mem_of_mem_take hx), by rw [List.length_take]; omega⟩
      rw [List.getElem?_take] at hx
      split at hx
      · exact hin w hs j x hx
      · cases hx
    have hlb : b.length = 3000 := by subst hb; rw [List.length_take]; omega
    obtain ⟨x0, ex0⟩ : ∃ x, z0[0]? = some x := ⟨_, List.getElem?_eq_getElem (by omega)⟩
    obtain ⟨a, rfl, _⟩ := hn.each 0 x0 ex0
    have HB := Lib.hid hB
    have hc30 : 3000 ≤ cap0 := by omega
    clear hn hin hu heq hB hb ex0
    go_enter Try.func10, Try.ntmps10
    go_wp2_with fail
    rw [← hlb]
    clear b30 hlb h3 hlc0 hlen0 hc30
  all_goals
    refine (StNew_good 2000 (sat_whole W) (by decide) (by decide)).mono ?_
    rintro e w2 ⟨X, V, rfl, h1, hb1⟩
    obtain ⟨S0, hS0⟩ : ∃ S, HS.new 2000 = S := ⟨_, rfl⟩
    rw [hS0] at h1
    have t0 : textOk S0 b = true := by subst hS0; exact text_fits _ b rfl HB.out.2.2 (by decide)
    have t1 : textOk (S0.text b) b = true := by
      have h1 := text_len S0 b
      have h2 := wordsOf_len b
      have h3 := HB.out.2.2
      refine text_fits _ b (by rw [h1.2.1, ← hS0]; rfl) HB.out.2.2 (by rw [h1.1, ← hS0, h2]; show 1 + 1 + _ ≤ 1000; omega)
    have HT := Lib.hid (And.intro t0 t1)
    clear t0 t1 hS0
    have hC := fun c => copy_bytes h1.s _ _ c b (fun w hs => HB.out.1 w hs.right.right) rfl (by have := HB.out.2.2; omega)
    have HX := Lib.hid (And.intro h1.ok hb1)
    clear h1 hb1
    go_wp2_with fail
    refine (hC _).mono ?_
    rintro e w3 ⟨v, rfl, h3, hb3⟩
    obtain ⟨av, cv, rfl⟩ := own_val h3
    have h4 : StW w3 X V S0 ⟨[], [], 0⟩ (own 5 1 (.slice av b.length cv) b.length (b.map u8v) * whole W) := ⟨h3.perm (by ac_rfl), HX.out.1⟩
    have hT := h4.Text_yes av cv b own_bytes_in HB.out.2.1 (by have := HB.out.2.2; omega) HT.out.1
    have hwf0 := h4.ok.wf
    have htx := (text_in hwf0.len b : TextIn (S0.text b) b (4 * (S0.ws.length : Int)))
    obtain ⟨p, hp⟩ : ∃ p : Int, 4 * (S0.ws.length : Int) = p := ⟨_, rfl⟩
    rw [hp] at hT htx
    have HX3 := Lib.hid (And.intro (HX.out.2.trans hb3) (And.intro hp htx))
    clear hC h3 hb3 h4 hwf0 htx hp
    go_wp2_with fail
    refine hT.mono ?_
    rintro e w4 ⟨rfl, hb4, V4, hg4, h4⟩
    have hb := HX3.out.1.trans hb4
    have hC := fun c => copy_bytes h4.drop.s _ _ c b (fun w hs => HB.out.1 w hs.right.right) rfl (by have := HB.out.2.2; omega)
    have HX4 := Lib.hid (And.intro h4.ok (And.intro hb hg4))
    clear hT h4 hb4 hb hg4
    go_wp2_with fail
    refine (hC _).mono ?_
    rintro e w5 ⟨v, rfl, h5, hb5⟩
    obtain ⟨av2, cv2, rfl⟩ := own_val h5
    have h6 : StW w5 X V4 (S0.text b) ⟨[], [], 0⟩ (own 5 1 (.slice av2 b.length cv2) b.length (b.map u8v) * whole W) := ⟨h5.perm (by ac_rfl), HX4.out.1⟩
    have hT := h6.Text_yes av2 cv2 b own_bytes_in HB.out.2.1 (by have := HB.out.2.2; omega) HT.out.2
    have hwf1 := h6.ok.wf
    have hty := (text_in hwf1.len b : TextIn ((S0.text b).text b) b (4 * ((S0.text b).ws.length : Int)))
    have htx : TextIn ((S0.text b).text b) b p := HX3.out.2.2.ext (part_ext (S0.text b) 3 0 _ 0 (wordsOf b) (wordsOf b).length : Ext (S0.text b) ((S0.text b).text b)) hwf1 (by have := HB.out.2.2; omega)
    have hpl := (text_len S0 b).1
    have hp1 : 4 * ((S0.text b).ws.length : Int) ≠ p := by rw [← HX3.out.2.1]; omega
    have hS1 := h6.hw.v.len
    have hp0 := HX3.out.2.1
    obtain ⟨S2, hS2⟩ : ∃ S, (S0.text b).text b = S := ⟨_, rfl⟩
    obtain ⟨q, hq⟩ : ∃ q : Int, 4 * ((S0.text b).ws.length : Int) = q := ⟨_, rfl⟩
    rw [hS2, hq] at hT hty
    rw [hS2] at htx
    rw [hq] at hp1
    have bp : 0 ≤ p ∧ p < 18446744073709551616 := by omega
    have bq : 0 ≤ q ∧ q < 18446744073709551616 := by omega
    have HX6 := Lib.hid (And.intro (HX4.out.2.1.trans hb5) (And.intro htx (And.intro hty hp1)))
    clear hC h5 hb5 h6 hwf1 htx hty hpl hp0 hS1 hS2 hq hp1
    go_wp2_with fail
    refine hT.mono ?_
    rintro e w6 ⟨rfl, hb6, V6, hg6, h6⟩
    have h7 := h6.drop
    have hlb2 : b.length ≤ 8388600 := by have := HB.out.2.2; omega
    obtain ⟨ox, ex⟩ := HX6.out.2.1.bytes h7.ok.wf HB.out.2.1 hlb2
    obtain ⟨oy, ey⟩ := HX6.out.2.2.1.bytes h7.ok.wf HB.out.2.1 hlb2
    have nx := HX6.out.2.1.nonum hlb2
    have hBy := h7.Bytes p bp.1 bp.2
    unfold BytesPost at hBy
    rw [ox, ex] at hBy
    have hev := eqv_nonum HX6.out.2.2.2.symm nx
    have heq := equal_bytes ox oy (ex.trans ey.symm)
    have HS := Lib.hid (And.intro ox (And.intro ex (And.intro nx (And.intro hev heq))))
    have HX7 := Lib.hid (HX6.out.1.trans hb6)
    clear hT hb6 hg6 h6 h7 ox ex oy ey nx hev heq hlb2
    go_wp2_with fail
    refine hBy.mono ?_
    rintro e w7 ⟨v, rfl, h7, hb7⟩
    have h7b : sat w7 (own 5 1 v b.length (b.map u8v) * (isHeap V6 S2 * (isSt X V6.g ⟨[], [], 0⟩ * whole W))) := h7.s.perm (by ac_rfl)
    obtain ⟨av3, cv3, rfl⟩ := own_val h7b
    have hE := h7.Equal p q bp.1 bp.2 bq.1 bq.2
    rw [HS.out.2.2.2.2] at hE
    have HX8 := Lib.hid (HX7.out.trans hb7)
    clear hBy h7 h7b hb7
    go_wp2_with fail
    with_reducible refine hE.mono ?_
    rintro e w8 ⟨rfl, h8, hb8⟩
    have hK := h8.Take_text 5 (by decide) p bp.1 bp.2 HS.out.2.2.1 HS.out.1
    rw [HS.out.2.1] at hK
    have HX9 := Lib.hid (HX8.out.trans hb8)
    clear hE h8 hb8
    go_wp2_with fail
    with_reducible refine hK.mono ?_
    rintro e w9 ⟨rfl, h9, hb9⟩
    unfold textD
    have HX10 := Lib.hid (And.intro h9 (HX9.out.trans hb9))
    clear hK h9 hb9
    go_wp2_with fail
    obtain ⟨sb, hsb⟩ : ∃ sb, strOfNums b = sb := ⟨_, rfl⟩
    rw [hsb]
    have h10 := HX10.out.1.push (.cells #[.int .i64 4, .int .i64 0, .bool false, .slice none 0 0, .string sb, .slice none 0 0, .slice none 0 0] 54)
    have hb10 := HX10.out.2.trans (Below.zero_alloc w9 (.cells #[.int .i64 4, .int .i64 0, .bool false, .slice none 0 0, .string sb, .slice none 0 0, .slice none 0 0] 54))
    generalize w9.alloc (.cells #[.int .i64 4, .int .i64 0, .bool false, .slice none 0 0, .string sb, .slice none 0 0, .slice none 0 0] 54) = w10 at *
    generalize w9.heap.size = bd at *
    have hs10 : sat w10 (own 5 1 (.slice av3 b.length cv3) b.length (b.map u8v) * (Go.Proofs.Ytanjiecefioffaa.blk bd (.cells #[.int .i64 4, .int .i64 0, .bool false, .slice none 0 0, .string sb, .slice none 0 0, .slice none 0 0] 54 (0, 0)) * (isHeap V6 S2 * (isSt X V6.g ⟨[], [], 0⟩ * whole W)))) := h10.s.perm (by ac_rfl)
    have hM := fun c1 c2 => same_bytes (w := w10) _ _ _ _ c1 c2 b b (own_cells hs10 rfl) (HB.out.1.cells hs10.right.right.right.right) rfl rfl HB.out.2.1 HB.out.2.1
    rw [decide_eq_true (rfl : b = b)] at hM
    have hE := h10.Eqv p q bp.1 bp.2 bq.1 bq.2
    rw [HS.out.2.2.2.1] at hE
    have HSB := Lib.hid hsb
    have HX11 := Lib.hid hb10
    clear h10 hb10 hs10 hsb
    refine (hM _ _).mono ?_
    rintro e w' ⟨rfl, rfl⟩
    clear hM
    have hne : ¬ (p = q) := HX6.out.2.2.2.symm
    have npq2 : (p != q) = true := by rw [bne_iff_ne]; exact hne
    go_wp2_with fail
    with_reducible refine hE.mono ?_
    rintro e w11 ⟨rfl, h11, hb11⟩
    have hs11 : sat w11 (Go.Proofs.Ytanjiecefioffaa.blk bd (.cells #[.int .i64 4, .int .i64 0, .bool false, .slice none 0 0, .string sb, .slice none 0 0, .slice none 0 0] 54 (0, 0)) * (own 5 1 (.slice av3 b.length cv3) b.length (b.map u8v) * (isHeap V6 S2 * (isSt X V6.g ⟨[], [], 0⟩ * whole W)))) := h11.s.perm (by ac_rfl)
    have c4 : w11.cell? ⟨bd, 4, none⟩ = some (.string sb) := (hs11.left.cell 4).trans rfl
    have hcv := fun c => run_bytes_any (P := Try.prog) (w := w11) (cap := c) 44 9 5 Try.underlying44 Try.underlying5 Try.underlying9 (rfl : b.length = b.length) (HB.out.1.cells hs11.right.right.right.right)
    rw [HSB.out] at hcv
    have hsbe : (sb.toList == sb.toList) = true := by simp
    have HX12 := Lib.hid (And.intro hs11.right.right.right.right (HX11.out.trans hb11))
    clear hE h11 hb11 hs11
    go_wp2_with fail
    refine (awake_any _ HX12.out.1).mono ?_
    rintro e w13 ⟨rfl, h13, hb13⟩
    clear hcv c4
    go_wp2_with fail
    go_ret
    exact ⟨rfl, below_of_whole' h13 (HX12.out.2.trans hb13)⟩
end Go.Proofs.Ytanjiecefioffaa
