/- ValueLists' walk. -/
import Derived.Test.YtanjiecefioffaaListsAll
namespace Go.Proofs.Ytanjiecefioffaa
open Go.RowKit

def LiRel (W : World) (X : StV) (V : HV) (S : HS) (zs : List Int) (o i : Value) (wr : World) : Prop :=
  ∃ k : Nat, k ≤ zs.length ∧ i = .int .i64 k ∧ StW wr X V S ⟨[], [], 0⟩ (own 22 1 o k ((zs.take k).map fun x => Go.Proofs.Ytanjiecefioffaa.u64 (itemL x)) * whole W) ∧ Below 0 W wr
set_option maxHeartbeats 8000000 in
set_option maxRecDepth 100000 in
theorem valueLists_told (W : World) (a0 : Option Addr) (len0 cap0 : Nat) (z0 : List Int) (hn : IsRowC .i64 W a0 len0 cap0 z0) :
    Calls Try.prog 8 #[.slice a0 len0 cap0] W fun e w' => e = .returned (.bool true) ∧ Below W.heap.size W w' := by
  obtain ⟨i0, hi, hz0, hz1, hz2⟩ := info_parts info_u64
  have H1 := Lib.hid (And.intro hi (And.intro hz0 (And.intro hz1 hz2)))
  clear hi hz0 hz1 hz2
  have hlen0 := hn.row.bd
  have hlc0 := hn.lc
  have heq := hn.row.eq
  by_cases h3 : len0 ≤ 100
  case' pos =>
    have b30 : decide ((len0 : Int) > 100) = false := by simp; omega
    obtain ⟨b, hb⟩ : ∃ b, z0 = b := ⟨_, rfl⟩
    have hB : (∀ w, sat w (whole W) → ∀ (j : Nat) x, b[j]? = some x → ∃ a, a0 = some a ∧ w.cell? (a.add j) = some (.int .i64 x)) ∧ (∀ (j : Nat) x, b[j]? = some x → (Lit.int .i64 x).wf = true) ∧ b.length ≤ 100 := by
      subst hb
      exact ⟨fun w hs j x hj => hn.row.get hs hj, fun j x hj => (hn.row.each j x hj).1, by omega⟩
    have HB := Lib.hid hB
    have hlb : len0 = b.length := by subst hb; exact heq.symm
    clear hn heq hB hb
    go_enter Try.func8, Try.ntmps8
    go_wp2_with fail
    rw [hlb]
    clear b30 hlb h3 hlc0 hlen0
  case' neg =>
    have b30 : decide ((len0 : Int) > 100) = true := by simp; omega
    obtain ⟨b, hb⟩ : ∃ b, z0.take 100 = b := ⟨_, rfl⟩
    have hB : (∀ w, sat w (whole W) → ∀ (j : Nat) x, b[j]? = some x → ∃ a, a0 = some a ∧ w.cell? (a.add j) = some (.int .i64 x)) ∧ (∀ (j : Nat) x, b[j]? = some x → (Lit.int .i64 x).wf = true) ∧ b.length ≤ 100 := by
      subst hb
      have ht : ∀ (j : Nat) x, (z0.take 100)[j]? = some x → z0[j]? = some x := by
        intro j x hx
        rw [List.getElem?_take] at hx
        split at hx
        · exact hx
        · cases hx
      exact ⟨fun w hs j x hj => hn.row.get hs (ht j x hj), fun j x hj => (hn.row.each j x (ht j x hj)).1, by rw [List.length_take]; omega⟩
    have hlb : b.length = 100 := by subst hb; rw [List.length_take]; omega
    obtain ⟨x0, ex0⟩ : ∃ x, z0[0]? = some x := ⟨_, List.getElem?_eq_getElem (by omega)⟩
    obtain ⟨_, a, rfl, _⟩ := hn.row.each 0 x0 ex0
    have HB := Lib.hid hB
    have hc30 : 100 ≤ cap0 := by omega
    clear hn heq hB hb ex0
    go_enter Try.func8, Try.ntmps8
    go_wp2_with fail
    rw [← hlb]
    clear b30 hlb h3 hlc0 hlen0 hc30
  all_goals
    refine (StNew_good 2000 (sat_whole W) (by decide) (by decide)).mono ?_
    rintro e w2 ⟨X, V, rfl, h1, hb1⟩
    obtain ⟨S0, hS0⟩ : ∃ S, HS.new 2000 = S := ⟨_, rfl⟩
    have l0 : S0.ws.length = 1 ∧ S0.size = 2000 := by rw [← hS0]; exact ⟨rfl, rfl⟩
    rw [hS0] at h1
    clear hS0
    have HX := Lib.hid (And.intro h1 (And.intro hb1 l0))
    clear h1 hb1 l0
    go_wp2_with fail
    go_loopw [5, 6] (LiRel W X V S0 b) (fun _ i _ => b.length - (intOf i).toNat)
    case atStart => exact ⟨0, Nat.zero_le _, rfl, ⟨(HX.out.1.s.nil_own (e := 22) (sz := 1)).perm (by ac_rfl), HX.out.1.ok⟩, HX.out.2.1⟩
    case round =>
      obtain ⟨k, hk, rfl, h1, hb⟩ := hrel
      by_cases hlt : k < b.length
      · obtain ⟨x, ex⟩ : ∃ x, b[k]? = some x := ⟨_, List.getElem?_eq_getElem hlt⟩
        obtain ⟨ad, had, hcx⟩ := HB.out.1 _ h1.s.right.right.right k x ex
        cases had
        have hwf := i64_wf (HB.out.2.1 k x ex)
        have htk : (b.take (k + 1)).map (fun x => Go.Proofs.Ytanjiecefioffaa.u64 (itemL x)) = (b.take k).map (fun x => Go.Proofs.Ytanjiecefioffaa.u64 (itemL x)) ++ [Go.Proofs.Ytanjiecefioffaa.u64 (itemL x)] := by
          rw [List.take_add_one, ex]; simp
        have htb := tmodL_bd x
        have hFx := fun w => Fix_any w (x.tmod 100000) (by omega) (by omega)
        rw [fixB_item] at hFx
        have HE := Lib.hid (And.intro ex (And.intro htk (show b.length ≤ 100 from HB.out.2.2)))
        clear ex htk
        go_wp2_with fail
        refine (hFx wr).mono ?_
        rintro e w' ⟨rfl, j1, rfl⟩
        go_wp2_with (at_builtin; refine halt ?_)
        refine goon ?_
        have hfe : fixW (x.tmod 100000) = itemL x := rfl
        rw [hfe]
        have HBB := Lib.hid hb
        clear hb hFx hcx hfe htb hwf
        generalize itemL x = px at *
        have hs7 : sat ((wr.drewN j1).alloc (.cells #[.int .u64 px] 22)) (own 22 1 u5 k ((b.take k).map fun x => Go.Proofs.Ytanjiecefioffaa.u64 (itemL x)) * (Go.Proofs.Ytanjiecefioffaa.blk wr.heap.size (.cells #[.int .u64 px] 22 (0, 0)) * (isHeap V S0 * (isSt X V.g ⟨[], [], 0⟩ * whole W)))) := ((h1.drewN j1).s.alloc (.cells #[.int .u64 px] 22)).perm (by ac_rfl)
        have hnew : ((wr.drewN j1).alloc (.cells #[.int .u64 px] 22)).cell? ⟨wr.heap.size, 0, none⟩ = some (.int .u64 px) := (hs7.right.left.cell 0).trans rfl
        have hb7 : Below 0 W ((wr.drewN j1).alloc (.cells #[.int .u64 px] 22)) := (HBB.out.trans (drewN_below0 _ j1)).trans (Below.zero_alloc _ _)
        have hokk := h1.ok
        generalize (wr.drewN j1).alloc (.cells #[.int .u64 px] 22) = w7 at *
        generalize wr.heap.size = bn at *
        obtain ⟨hi, hz0, hz1, hz2⟩ := H1.out
        have hk100 : k ≤ 100 := by have := HE.out.2.2; omega
        refine wpList_append_one rfl (.tmp 55) (.tmp 57) 35 rfl 22 i0 (.int .u64 0) 8 Try.underlying35 hi hz0 hz1 hz2 rfl u5 k ((b.take k).map fun x => Go.Proofs.Ytanjiecefioffaa.u64 (itemL x)) rfl _ bn (.int .u64 px) rfl ?_ hs7 hnew rfl (by omega) (by unfold maxLen; omega)
        clear hi hz0 hz1 hz2 hnew hs7
        intro v' w9 hs9 hb9
        have HQ := Lib.hid (And.intro hs9 (And.intro (hb7.trans hb9) hokk))
        clear hs9 hb9 hb7 h1 hokk
        go_wp2_with fail
        go_roundw
        case rel =>
          refine ⟨k + 1, by omega, by go_num, ⟨?_, HQ.out.2.2⟩, HQ.out.2.1⟩
          rw [HE.out.2.1]
          have h12 : sat w9 (Go.Proofs.Ytanjiecefioffaa.blk bn (.cells #[.int .u64 px] 22 (0, 0)) * (isHeap V S0 * (isSt X V.g ⟨[], [], 0⟩ * (own 22 1 v' (k + 1) ((b.take k).map (fun x => Go.Proofs.Ytanjiecefioffaa.u64 (itemL x)) ++ [.int .u64 px]) * whole W)))) := HQ.out.1.perm (by ac_rfl)
          exact h12.right
        case measure => simp [intOf]; omega
      · obtain rfl : k = b.length := by omega
        have hge : decide ((b.length : Int) < (b.length : Int)) = false := by simp
        rw [List.take_of_length_le (Nat.le_refl _)] at h1
        obtain ⟨xs, hxs⟩ : ∃ xs, b.map itemL = xs := ⟨_, rfl⟩
        have hxl : xs.length = b.length := by rw [← hxs]; simp
        have hxm : (b.map fun x => Go.Proofs.Ytanjiecefioffaa.u64 (itemL x)) = xs.map Go.Proofs.Ytanjiecefioffaa.u64 := by rw [← hxs, List.map_map]; rfl
        rw [hxm] at h1
        obtain ⟨lo, lc, rfl⟩ := own_val h1.s.right.right
        have hxu : ∀ x ∈ xs, (0 ≤ x ∧ x < 18446744073709551616) ∧ (∀ S : HS, S.may x = true) ∧ ∀ S : HS, S.num x = some (intW x) := by
          intro x hx
          rw [← hxs] at hx
          obtain ⟨y, _, rfl⟩ := List.mem_map.1 hx
          exact ⟨(itemL_ok y).1, fun S => itemL_may S y, fun S => itemL_num S y⟩
        have hin : ∀ Q : HP, WordsIn (own 22 1 (.slice lo b.length lc) b.length (xs.map Go.Proofs.Ytanjiecefioffaa.u64) * Q) lo xs := fun Q w hs => own_reads hxl rfl hs
        have hx100 : xs.length ≤ 100 := by have := HB.out.2.2; omega
        obtain ⟨n, hbn⟩ : ∃ n, b.length = n := ⟨_, rfl⟩
        rw [hbn] at h1 hxl hin hge ⊢
        have HC := Lib.hid (And.intro hb (And.intro hxl (And.intro hxu (And.intro hin hx100))))
        clear hb hxs hxl hxm hxu hin hx100 HB hbn hlt hk
        have hbs := chain_bs (S := S0) h1.ok.wf.len 10 xs
        have hli := chain_list (S := S0) h1.ok.wf.len xs (by have := HC.out.2.1; have := HC.out.2.2.2.2; have := HX.out.2.2; omega)
        have hln := chain_len S0 10 xs
        have hc := StW.List_any _ _ _ _ _ _ (h1.chain_yes 10 lo lc xs (HC.out.2.2.2.1 _) (fun x hx => (HC.out.2.2.1 x hx).1) (by have := HC.out.2.2.2.2; omega) (by decide) (may_ten S0) (List.all_eq_true.2 fun x hx => (HC.out.2.2.1 x hx).2.1 _) (by have := HC.out.2.2.2.2; have := HX.out.2.2; omega))
        rw [HC.out.2.1] at hc hln
        generalize (S0.chain 10 xs).1 = S1 at *
        generalize (S0.chain 10 xs).2 = l at *
        have hlb := listIn_bd hli
        have hsz : S1.ws.length = 1 + 3 * n ∧ S1.size = 2000 := by have := HX.out.2.2; omega
        have HY := Lib.hid (And.intro hbs (And.intro hli hsz))
        clear hbs hli hln hsz h1
        go_wp2_with fail
        refine hc.mono ?_
        rintro e w5 ⟨rfl, hb5, V5, hg5, h5⟩
        have hv := StW.Vector_any _ _ _ _ _ _ (h5.lay_yes 2 lo lc xs (HC.out.2.2.2.1 _) (fun x hx => (HC.out.2.2.1 x hx).1) (List.all_eq_true.2 fun x hx => (HC.out.2.2.1 x hx).2.1 _) (by
          have := HC.out.2.1; have := HC.out.2.2.2.2; have := HY.out.2.2
          unfold HS.room
          simp only [Bool.and_eq_true, decide_eq_true_eq]
          omega))
        rw [HC.out.2.1] at hv
        obtain ⟨vi1, vi2, vi3⟩ := vec_in HY.out.1 xs (by have := HC.out.2.2.2.2; omega)
        rw [HC.out.2.1] at vi1 vi2 vi3
        have hli := ListIn.ext (part_ext S1 2 n 0 2 xs n) xs l HY.out.2.1
        generalize S1.part 2 n 0 2 xs n = S2 at *
        obtain ⟨vw, hvw⟩ : ∃ vw : Int, 4 * (S1.ws.length : Int) = vw := ⟨_, rfl⟩
        rw [hvw] at hv vi1 vi2 vi3
        have hvb : 0 ≤ vw ∧ vw < 18446744073709551616 := by have := HC.out.2.2.2.2; have := HC.out.2.1; have := HY.out.2.2; omega
        have HZ := Lib.hid (And.intro (HC.out.1.trans hb5) (And.intro hg5 (And.intro hli (And.intro vi1 (And.intro vi2 vi3)))))
        clear hc hb5 hg5 h5 vi1 vi2 vi3 hli hvw HY
        go_wp2_with fail
        refine hv.mono ?_
        rintro e w6 ⟨rfl, hb6, V6, hg6, h6⟩
        have c0 := h6.c0
        have hT := h6.hw.v.Tagged vw hvb.1 hvb.2
        rw [HZ.out.2.2.2.2.1] at hT
        rw [hg6.trans HZ.out.2.1] at c0 hT
        have HU := Lib.hid (And.intro (HZ.out.1.trans hb6) (And.intro (hg6.trans HZ.out.2.1) h6))
        clear hv hb6 hg6 h6
        go_wp2_with fail
        refine hT.mono ?_
        rintro e w' ⟨rfl, j6, rfl⟩
        go_wp2_with fail
        obtain ⟨lc1, lc2, lc3⟩ := list_chain HZ.out.2.2.1 (fun x hx => (HC.out.2.2.1 x hx).2.2 S2)
        rw [HC.out.2.1] at lc1 lc2 lc3
        have HL := Lib.hid (And.intro lc1 (And.intro lc2 lc3))
        clear lc1 lc2 lc3 hT
        generalize hw6 : w6.drewN j6 = w7 at *
        have h7 : StW w7 X V6 S2 ⟨[], [], 0⟩ (own 22 1 (.slice lo n lc) n (xs.map Go.Proofs.Ytanjiecefioffaa.u64) * whole W) := by rw [← hw6]; exact HU.out.2.2.drewN j6
        have hb7 : Below 0 W w7 := by rw [← hw6]; exact HU.out.1.trans (drewN_below0 _ j6)
        have HSx := Lib.hid (And.intro h7 hb7)
        clear h7 hb7 hw6
        go_loopw [13, 14] (LjRel S2 l n w7) (fun _ i _ => n - (intOf i).toNat)
        case atStart => exact ⟨0, 0, Nat.zero_le _, rfl, rfl, rfl⟩
        case round =>
          obtain ⟨k, j, hk, rfl, rfl, rfl⟩ := hrel
          by_cases hlt : k < n
          · obtain ⟨x, ex⟩ : ∃ x, xs[k]? = some x := ⟨_, List.getElem?_eq_getElem (by have := HC.out.2.1; omega)⟩
            obtain ⟨ad, hlo, hcx⟩ := HC.out.2.2.2.1 _ w7 HSx.out.1.fr k x ex
            have hgx : xs.getD k 0 = x := by rw [List.getD_eq_getElem?_getD, ex]; rfl
            have c0 := HSx.out.1.c0
            have hA := HL.out.2.2 k hlt
            have hB := HZ.out.2.2.2.2.2 k (by have := HC.out.2.1; omega)
            have hsh := HL.out.1.pair k hlt
            have bx := HL.out.1.bd k hk
            have hN := HL.out.1.cdr k hlt
            rw [hgx] at hA hB
            have htag : S2.tag (restP S2 l k) = 2 := by unfold HS.shape at hsh; simp at hsh; omega
            have t0 : decide ((0 : Int) ≤ 0 ∧ (0 : Int) < S2.tag (restP S2 l k)) = true := by rw [htag]; decide
            have t1 : decide ((0 : Int) ≤ (k : Int) ∧ (k : Int) < S2.tag vw) = true := by rw [HZ.out.2.2.2.2.1, decide_eq_true_eq]; omega
            have hG0 := fun m => (HSx.out.1.drewN m).Get (restP S2 l k) 0 bx.1 bx.2
            have hG1 := fun m => (HSx.out.1.drewN m).Get vw k hvb.1 hvb.2
            have hG2 := fun m => (HSx.out.1.drewN m).Get (restP S2 l k) 1 bx.1 bx.2
            rw [hA, t0, HU.out.2.1] at hG0
            rw [hB, t1, HU.out.2.1] at hG1
            rw [hN, HU.out.2.1] at hG2
            rw [HU.out.2.1] at c0
            generalize decide ((0 : Int) ≤ 1 ∧ (1 : Int) < S2.tag (restP S2 l k)) = q0 at *
            have hk1 : k + 1 ≤ 100 := by have := HC.out.2.2.2.2; have := HC.out.2.1; omega
            have HF := Lib.hid ex
            clear hA hB hsh hN htag t0 t1 ex hgx
            rcases hlo
            generalize restP S2 l k = x0 at *
            obtain ⟨x1, hx1⟩ : ∃ x1, restP S2 l (k + 1) = x1 := ⟨_, rfl⟩
            rw [hx1] at hG2
            have HX1 := Lib.hid hx1
            clear hx1
            go_wp2_with fail
            refine (hG0 _).mono ?_
            rintro e w' ⟨rfl, j1, rfl⟩
            go_wp2_with fail
            refine (hG1 _).mono ?_
            rintro e w' ⟨rfl, j2, rfl⟩
            go_wp2_with fail
            refine (hG2 _).mono ?_
            rintro e w' ⟨rfl, j3, rfl⟩
            go_wp2_with fail
            go_roundw
            case rel => exact ⟨k + 1, _, by omega, by go_num, by rw [HX1.out], rfl⟩
            case measure => simp [intOf]; omega
          · obtain rfl : k = n := by omega
            have hge : decide ((k : Int) < (k : Int)) = false := by simp
            rw [HL.out.2.1]
            have hTk : Calls Try.prog 28 #[.pointer (some ⟨X.g, 0, none⟩), .int .u64 l, .int .i64 20000] (w7.drewN j) fun e w' => ∃ (items : List Item) (v : Value), e = .returned (.tuple #[.agg #[.int .i64 6, .int .i64 0, .bool false, .slice none 0 0, .string ⟨#[]⟩, v, .slice none 0 0], .bool true]) ∧ items.map (·.1) = (List.range k).map (fun k => intW (xs.getD k 0)) ∧ StW w' X V6 S2 ⟨[], [], 0⟩ (own 54 7 v k (itemsC items) * (magsP items * (own 22 1 (.slice lo k lc) k (xs.map Go.Proofs.Ytanjiecefioffaa.u64) * whole W))) ∧ Below 0 (w7.drewN j) w' := by
              rcases Nat.eq_zero_or_pos k with h0 | h0
              · subst h0
                have hl10 : l = 10 := HL.out.2.1
                rw [hl10]
                exact (HSx.out.1.drewN j).Take_ten _
              · exact (HSx.out.1.drewN j).Take_short k (restP S2 l) _ h0 (by have := HC.out.2.2.2.2; have := HC.out.2.1; omega) HL.out.1 HL.out.2.1 (ten_none S2).1
            have hk100 : k ≤ 100 := by have := HC.out.2.2.2.2; have := HC.out.2.1; omega
            go_wp2_with fail
            with_reducible refine hTk.mono ?_
            rintro e w8 ⟨it1, v1, rfl, hit1, h8, hb8⟩
            obtain ⟨a1, c1, rfl⟩ := own_val h8.fr
            have h9 := h8.push (.cells #[.int .i64 6, .int .i64 0, .bool false, .slice none 0 0, .string ⟨#[]⟩, .slice a1 k c1, .slice none 0 0] 54)
            have hb9 := ((HSx.out.2.trans (drewN_below0 w7 j)).trans hb8).trans (Below.zero_alloc w8 (.cells #[.int .i64 6, .int .i64 0, .bool false, .slice none 0 0, .string ⟨#[]⟩, .slice a1 k c1, .slice none 0 0] 54))
            have hTv := h9.Take_vec k vw (fun k => intW (xs.getD k 0)) (by omega) hvb HZ.out.2.2.2.1 HZ.out.2.2.2.2.1 (by
              intro i hi
              rw [HZ.out.2.2.2.2.2 i (by have := HC.out.2.1; omega)]
              refine (HC.out.2.2.1 _ ?_).2.2 S2
              rw [List.getD_eq_getElem?_getD, List.getElem?_eq_getElem (by have := HC.out.2.1; omega)]
              exact List.getElem_mem _)
            have H9 := Lib.hid (And.intro hb9 hit1)
            clear hTk h8 hb8 h9 hb9 hit1
            go_wp2_with fail
            with_reducible refine hTv.mono ?_
            rintro e w10 ⟨it2, v2, rfl, hit2, h10, hb10⟩
            obtain ⟨a2, c2, rfl⟩ := own_val h10.fr
            have h11 := h10.push (.cells #[.int .i64 7, .int .i64 0, .bool false, .slice none 0 0, .string ⟨#[]⟩, .slice a2 k c2, .slice none 0 0] 54)
            have hb11 := (H9.out.1.trans hb10).trans (Below.zero_alloc w10 (.cells #[.int .i64 7, .int .i64 0, .bool false, .slice none 0 0, .string ⟨#[]⟩, .slice a2 k c2, .slice none 0 0] 54))
            have hl1 : it1.length = k := by have := congrArg List.length H9.out.2; simpa using this
            have hl2 : it2.length = k := by have := congrArg List.length hit2; simpa using this
            have hlim : ∀ t ∈ it1, (limbsOf t.1.natAbs).length < 4611686018427387904 := by
              intro t ht
              have h1 : t.1 ∈ it1.map (·.1) := List.mem_map.2 ⟨t, ht, rfl⟩
              rw [H9.out.2] at h1
              obtain ⟨i, hi, he⟩ := List.mem_map.1 h1
              rw [← he]
              have hi2 := List.mem_range.1 hi
              have hxi : xs.getD i 0 ∈ xs := by
                rw [List.getD_eq_getElem?_getD, List.getElem?_eq_getElem (by have := HC.out.2.1; omega)]
                exact List.getElem_mem _
              have := limbsOf_len (n := 2) (intW_abs _ (HC.out.2.2.1 _ hxi).1)
              omega
            have hs := h11.s.right.right
            have hsame := fun m => same_items (hs.drewN m) a1 a2 c1 c2 k it1 it2 (fun w h => items_in hl1 emp w (by rw [HP.mul_emp]; exact (h.right.right.right.right.left_pair))) (fun w h => items_in hl2 _ w h.right) hl1 (H9.out.2.trans hit2.symm) (by omega) hlim
            have HR := Lib.hid (And.intro hs hb11)
            have d0 := (hs.right.right.right.left.cell 0).trans (show _ = some (Value.int .i64 6) from rfl)
            have d5 := (hs.right.right.right.left.cell 5).trans (show _ = some (Value.slice a1 k c1) from rfl)
            have f0 := (hs.left.cell 0).trans (show _ = some (Value.int .i64 7) from rfl)
            have f5 := (hs.left.cell 5).trans (show _ = some (Value.slice a2 k c2) from rfl)
            clear hs h10 hb10 h11 hb11 hTv hl1 hl2 hlim hit2
            go_wp2_with fail
            refine (hsame 0).mono ?_
            rintro e w12 ⟨rfl, h12, hb12⟩
            have d0 := (h12.right.right.right.left.cell 0).trans (show _ = some (Value.int .i64 6) from rfl)
            have f0 := (h12.left.cell 0).trans (show _ = some (Value.int .i64 7) from rfl)
            have HQ := Lib.hid (And.intro h12 (HR.out.2.trans hb12))
            clear h12 hb12 hsame
            go_wp2_with fail
            refine (awake_any _ HQ.out.1.right.right.right.right.right.right).mono ?_
            rintro e w14 ⟨rfl, h14, hb14⟩
            go_wp2_with fail
            go_ret
            exact ⟨rfl, below_of_whole' h14.right (HQ.out.2.trans hb14)⟩
end Go.Proofs.Ytanjiecefioffaa
