/- tandemlaw00: Copy, CopyAll. -/
import Derived.Test.YtkjfplldfjmbaaaProg
import Derived.Test.YtkjfplldfjmbaaaDmPure
namespace Go.Proofs.Ytkjfplldfjmbaaa
open Go.RowKit

abbrev zeroDm : Value := .agg #[.int .i64 0, .int .i64 0, .bool false, .slice none 0 0, .string ⟨#[]⟩, .slice none 0 0, .slice none 0 0]
abbrev dmO (cs : List Value) : Obj := .cells cs.toArray 59 (0, 0)
theorem info_dm : (Try.prog.info? 59).map (fun i => (i.zero, i.size, i.bytes)) = some (some zeroDm, 7, 112) := by kernel_rfl
theorem info_lim : (Try.prog.info? 66).map (fun i => (i.zero, i.size, i.bytes)) = some (some (.int .u32 0), 1, 4) := by kernel_rfl
theorem slice_val {w : World} {R : HP} {e sz n : Nat} {v : Value} {xs : List Value} (h : sat w (own e sz v n xs * R)) : ∃ ao cap, v = .slice ao n cap ∧ n ≤ cap := by
  rcases h.open_own.2 with ⟨a, b, _, _⟩ | ⟨b, cap, a, hc, _⟩
  · exact ⟨none, 0, by rw [a, b], by omega⟩
  · exact ⟨_, _, a, hc⟩
theorem mag_own {w : World} {R : HP} {ao : Option Addr} {n c : Nat} {l : List Int} (h : sat w (own 66 1 (.slice ao n c) n (l.map fun x => .int .u32 x) * R)) : MagW w ao l := by
  intro j x hx
  have hj := (List.getElem?_eq_some_iff.1 hx).1
  have hl : l.length = n := by have := h.open_own.1; simpa using this
  obtain ⟨b, c, hb, _, _, hr⟩ := h.own_some (by omega)
  simp only [Value.slice.injEq] at hb
  obtain ⟨rfl, _⟩ := hb
  refine ⟨_, rfl, ?_⟩
  have hadd : (⟨b, 0, none⟩ : Addr).add j = ⟨b, j, none⟩ := by unfold Addr.add; split <;> simp_all
  rw [hadd]
  exact hr.row_cell (by rw [List.getElem?_map, hx]; rfl)
set_option maxRecDepth 100000 in
theorem copy_mag {w : World} {R : HP} (hs : sat w R) (ao : Option Addr) (cap : Nat) (a : List Int) (ha : MagW w ao a) (hn : a.length ≤ 17592186044416) :
    Calls Try.prog 57 #[.slice ao a.length cap] w fun e w' => ∃ ro rc, e = .returned (.slice ro a.length rc) ∧ a.length ≤ rc ∧ sat w' (own 66 1 (.slice ro a.length rc) a.length (a.map fun x => .int .u32 x) * R) ∧ Below 0 w w' := by
  obtain ⟨i0, hi, hz0, hz1, hz2⟩ := info_parts info_lim
  have hc : CellsAt w ao (a.map fun x => .int .u32 x) := CellsAt.words .u32 ha
  have h0 := hs.nil_own (e := 66) (sz := 1)
  go_enter Try.func57, Try.ntmps57
  go_wp2_with (at_builtin; refine hold ?_)
  refine held ?_
  refine wpList_append_opt rfl (.const (.slice none 0 0)) (.tmp 3) 55 rfl 66 i0 (.int .u32 0) 1 4 Try.underlying55 hi hz0 hz1 hz2 rfl (by decide) (.slice none 0 0) 0 [] rfl R ao a.length cap (a.map fun x => .int .u32 x) rfl ?_ h0 (by simp) hc (fun u hu => by obtain ⟨x, _, rfl⟩ := List.mem_map.1 hu; rfl) (by omega) (by unfold maxLen; omega)
  intro v' w9 hs9 hb9
  rw [Nat.zero_add, List.nil_append] at hs9
  obtain ⟨ro, rc, rfl, hrc⟩ := slice_val hs9
  have HQ := Lib.hid (And.intro hs9 (And.intro hb9 hrc))
  clear hs9 hb9 hc h0 hi hz0 hz1 hz2 hrc
  go_wp2_with fail
  go_ret
  exact ⟨ro, rc, rfl, HQ.out.2.2, HQ.out.1, HQ.out.2.1⟩
theorem arr7 (z0 z1 z2 z3 z4 z5 z6 a0 a1 a2 a3 a4 a5 a6 : Value) : (((((((#[z0, z1, z2, z3, z4, z5, z6].setIfInBounds 0 a0).setIfInBounds 1 a1).setIfInBounds 2 a2).setIfInBounds 3 a3).setIfInBounds 4 a4).setIfInBounds 5 a5).setIfInBounds 6 a6) = #[a0, a1, a2, a3, a4, a5, a6] := by simp
theorem cells7 {w9 : World} {P : HP} {g : Nat} {a0 a1 a2 a3 a4 a5 a6 : Value} (h : sat w9 (blk g (.cells (((((((#[Value.int IntKind.i64 0, Value.int IntKind.i64 0, Value.bool false, Value.slice none 0 0, Value.string { data := #[] }, Value.slice none 0 0, Value.slice none 0 0].setIfInBounds 0 a0).setIfInBounds 1 a1).setIfInBounds 2 a2).setIfInBounds 3 a3).setIfInBounds 4 a4).setIfInBounds 5 a5).setIfInBounds 6 a6) 59 (0, 0)) * P)) :
      w9.cell? ⟨g, 0, none⟩ = some a0 ∧ w9.cell? ⟨g, 1, none⟩ = some a1 ∧ w9.cell? ⟨g, 2, none⟩ = some a2 ∧ w9.cell? ⟨g, 3, none⟩ = some a3 ∧ w9.cell? ⟨g, 4, none⟩ = some a4 ∧ w9.cell? ⟨g, 5, none⟩ = some a5 ∧ w9.cell? ⟨g, 6, none⟩ = some a6 := by
  rw [arr7] at h
  exact ⟨h.left.cell 0, h.left.cell 1, h.left.cell 2, h.left.cell 3, h.left.cell 4, h.left.cell 5, h.left.cell 6⟩
def CpPost (R : HP) (d : Dm) (w : World) (e : Ending) (w' : World) : Prop :=
  ∃ cs M, e = .returned (.agg cs.toArray) ∧ DK M d cs ∧ sat w' (M * R) ∧ Below 0 w w'
def CpsPost (R : HP) (l : List Dm) (w : World) (e : Ending) (w' : World) : Prop :=
  ∃ ro rc M, e = .returned (.slice ro l.length rc) ∧ l.length ≤ rc ∧ DKs M l ro 0 ∧ sat w' (M * R) ∧ Below 0 w w'
/-- A row of data, each of which lies in M. -/
theorem row_dks {M : HP} {l : List Dm} {css : List (List Value)} {ao : Option Addr} {n c : Nat} (hl : css.length = l.length) (hn : n = l.length) (h : ∀ (i : Nat) d cs, l[i]? = some d → css[i]? = some cs → DK M d cs) (w0 : World) {Q : HP} (h0 : sat w0 (own 59 7 (.slice ao n c) n css.flatten * Q)) :
    DKs (own 59 7 (.slice ao n c) n css.flatten * M) l ao 0 := by
  have h7 : ∀ cs ∈ css, cs.length = 7 := by
    intro cs hcs
    obtain ⟨i, hi⟩ := List.mem_iff_getElem?.1 hcs
    have hil := (List.getElem?_eq_some_iff.1 hi).1
    exact (h i l[i] cs (List.getElem?_eq_getElem (by omega)) hi).len
  cases l with
  | nil => exact DKs.nil
  | cons d l =>
    obtain ⟨b, cap, hb, _, _, _⟩ := h0.own_some (by simp at hn; omega)
    simp only [Value.slice.injEq] at hb
    obtain ⟨rfl, _, _⟩ := hb
    refine DKs.of_row (d :: l) css 0 hl (fun i d cs hd hc => (h i d cs hd hc).mono (fun w hw => hw.right)) ?_
    intro w hw i cs hc j v hv
    obtain ⟨b', cap', hb', _, _, hr⟩ := hw.own_some (by simp at hn; omega)
    simp only [Value.slice.injEq, Option.some.injEq, Addr.mk.injEq] at hb'
    obtain ⟨⟨rfl, _⟩, _⟩ := hb'
    rw [show 0 + (0 + i) * 7 + j = i * 7 + j by omega]
    exact hr.row_cell (flat7_get h7 hc hv)
def CpRel (W : World) (R : HP) (l : List Dm) (sv i : Value) (wr : World) : Prop :=
  ∃ (k : Nat) (css : List (List Value)) (M : HP), k ≤ l.length ∧ i = .int .i64 k ∧ css.length = k ∧ (∀ (i : Nat) d cs, (l.take k)[i]? = some d → css[i]? = some cs → DK M d cs) ∧ sat wr (own 59 7 sv k css.flatten * (M * R)) ∧ Below 0 W wr
set_option maxRecDepth 100000 in
set_option maxHeartbeats 2000000 in
theorem copies_step (l : List Dm) (hl : l.length ≤ 1048576) (hP : ∀ d ∈ l, ∀ (w : World) (R : HP) cs, sat w R → DK R d cs → Calls Try.prog 46 #[.agg cs.toArray] w (CpPost R d w))
    (w : World) (R : HP) (ao : Option Addr) (cap : Nat) (hs : sat w R) (hd : DKs R l ao 0) :
    Calls Try.prog 24 #[.slice ao l.length cap] w (CpsPost R l w) := by
  obtain ⟨i0, hi, hz0, hz1, hz2⟩ := info_parts info_dm
  have H1 := Lib.hid (And.intro hi (And.intro hz0 (And.intro hz1 hz2)))
  have HP0 := Lib.hid (And.intro hP hd)
  clear hi hz0 hz1 hz2 hP hd
  go_enter Try.func24, Try.ntmps24
  go_wp2_with fail
  go_loopw [3, 4] (CpRel w R l) (fun _ i _ => l.length - (intOf i).toNat)
  case atStart => exact ⟨0, [], emp, Nat.zero_le _, rfl, rfl, fun i d cs h _ => by simp at h, by rw [HP.emp_mul]; exact hs.nil_own, Below.refl _ _⟩
  case round =>
    obtain ⟨k, css, M, hk, rfl, hcl, hdk, h1, hb1⟩ := hrel
    by_cases hlt : k < l.length
    · obtain ⟨d, ex⟩ : ∃ d, l[k]? = some d := ⟨_, List.getElem?_eq_getElem hlt⟩
      obtain ⟨b, off, cs, rfl, hcell, hdd⟩ := HP0.out.2.get k d ex
      have hC := HP0.out.1 d (List.mem_of_getElem? ex) wr _ cs h1 (hdd.mono fun w h => h.right.right)
      have hcw := hcell wr h1.right.right
      rw [Nat.zero_add] at hcw
      have HK := Lib.hid (And.intro hcl (And.intro hdk (And.intro hb1 ex)))
      clear hcl hdk h1 hb1 ex hs hcell
      cases d with
      | mk kind n neg mag text items rest =>
      obtain ⟨am, cm, ai, ci, ar, cr, rfl, _⟩ := hdd.open
      have c0 := hcw 0 _ rfl
      have c1 := hcw 1 _ rfl
      have c2 := hcw 2 _ rfl
      have c3 := hcw 3 _ rfl
      have c4 := hcw 4 _ rfl
      have c5 := hcw 5 _ rfl
      have c6 := hcw 6 _ rfl
      rw [Nat.add_zero] at c0
      clear hcw hdd
      go_wp2_with fail
      refine hC.mono ?_
      clear hC c0 c1 c2 c3 c4 c5 c6
      rintro e w2 ⟨cs2, M2, rfl, hdk2, h2, hb2⟩
      have hon := hdk2.one
      obtain ⟨am2, cm2, ai2, ci2, ar2, cr2, rfl, hx2⟩ := hdk2.open
      clear hx2
      have hs7 := (h2.alloc (dmO [.int .i64 kind, .int .i64 n, .bool neg, .slice am2 mag.length cm2, .string text, .slice ai2 items.length ci2, .slice ar2 rest.length cr2])).perm (show _ = own 59 7 u3 k css.flatten * (Go.Proofs.Ytkjfplldfjmbaaa.blk w2.heap.size (dmO [.int .i64 kind, .int .i64 n, .bool neg, .slice am2 mag.length cm2, .string text, .slice ai2 items.length ci2, .slice ar2 rest.length cr2]) * (M2 * (M * R))) by ac_rfl)
      have hcl : CellsAt (w2.alloc (dmO [.int .i64 kind, .int .i64 n, .bool neg, .slice am2 mag.length cm2, .string text, .slice ai2 items.length ci2, .slice ar2 rest.length cr2])) (some ⟨w2.heap.size, 0, none⟩) [.int .i64 kind, .int .i64 n, .bool neg, .slice am2 mag.length cm2, .string text, .slice ai2 items.length ci2, .slice ar2 rest.length cr2] := by
        intro j u hj
        have ha : ((⟨w2.heap.size, 0, none⟩ : Addr).add j) = ⟨w2.heap.size, j, none⟩ := by unfold Addr.add; split <;> simp_all
        refine ⟨_, rfl, ?_⟩
        rw [ha, hs7.right.left.cell j, ← hj]
        simp
      have HS := Lib.hid (And.intro hs7 (And.intro ((HK.out.2.2.1.trans hb2).trans (Below.zero_alloc w2 (dmO [.int .i64 kind, .int .i64 n, .bool neg, .slice am2 mag.length cm2, .string text, .slice ai2 items.length ci2, .slice ar2 rest.length cr2]))) (And.intro hdk2 (And.intro hcl hon))))
      clear h2 hb2 hs7 hcl hon hdk2
      go_wp2_with (at_builtin; refine hold ?_)
      refine held ?_
      obtain ⟨hi, hz0, hz1, hz2⟩ := H1.out
      refine wpList_append_opt rfl (.tmp 11) (.tmp 17) 35 rfl 59 i0 zeroDm 7 112 Try.underlying35 hi hz0 hz1 hz2 rfl (by decide) u3 k css.flatten rfl _ (some ⟨w2.heap.size, 0, none⟩) 1 1 [.int .i64 kind, .int .i64 n, .bool neg, .slice am2 mag.length cm2, .string text, .slice ai2 items.length ci2, .slice ar2 rest.length cr2] rfl ?_ HS.out.1 rfl HS.out.2.2.2.1 HS.out.2.2.2.2 (by omega) (by unfold maxLen; omega)
      clear hi hz0 hz1 hz2
      intro v9 w9 hs9 hb9
      have HQ := Lib.hid (And.intro hs9 (HS.out.2.1.trans hb9))
      clear hs9 hb9
      go_wp2_with fail
      go_roundw
      case rel =>
        refine ⟨k + 1, css ++ [[.int .i64 kind, .int .i64 n, .bool neg, .slice am2 mag.length cm2, .string text, .slice ai2 items.length ci2, .slice ar2 rest.length cr2]], M2 * M, by omega, by go_num, by simp [HK.out.1], ?_, ?_, HQ.out.2⟩
        · intro i d cs hd hc
          rw [List.getElem?_take] at hd
          split at hd
          · by_cases hik : i = k
            · subst hik
              rw [HK.out.2.2.2] at hd
              cases hd
              rw [List.getElem?_append_right (by rw [HK.out.1]; exact Nat.le_refl _), HK.out.1, Nat.sub_self] at hc
              simp at hc
              subst hc
              exact HS.out.2.2.1.mono fun w h => h.left
            · rw [List.getElem?_append_left (by rw [HK.out.1]; omega)] at hc
              exact (HK.out.2.1 i d cs (by rw [List.getElem?_take, if_pos (by omega)]; exact hd) hc).mono fun w h => h.right
          · cases hd
        · rw [List.flatten_append, List.flatten_cons, List.flatten_nil, List.append_nil]
          exact HQ.out.1.perm (show _ = Go.Proofs.Ytkjfplldfjmbaaa.blk w2.heap.size _ * (own 59 7 v9 (k + 1) _ * (M2 * M * R)) by ac_rfl) |>.right
      case measure => simp [intOf]; omega
    · obtain rfl : k = l.length := by omega
      have hge : decide ((l.length : Int) < (l.length : Int)) = false := by simp
      rw [List.take_of_length_le (Nat.le_refl _)] at hdk
      obtain ⟨ro, rc, rfl, hrc⟩ := slice_val h1
      have hdks := row_dks hcl rfl hdk wr h1
      have HF := Lib.hid (And.intro hdks (And.intro (h1.perm (HP.assoc _ _ _).symm) (And.intro hb1 hrc)))
      clear hdks h1 hb1 hdk hcl hs
      go_wp2_with fail
      go_ret
      exact ⟨ro, rc, _, rfl, HF.out.2.2.2, HF.out.1, HF.out.2.1, HF.out.2.2.1⟩
set_option maxRecDepth 100000 in
set_option maxHeartbeats 2000000 in
theorem copy_step (kind n : Int) (neg : Bool) (mag : List Int) (text : ByteArray) (items rest : List Dm) (hsz : (Dm.mk kind n neg mag text items rest).size ≤ 1048576)
    (hQ1 : ∀ (w : World) (R : HP) (ao : Option Addr) (cap : Nat), sat w R → DKs R items ao 0 → Calls Try.prog 24 #[.slice ao items.length cap] w (CpsPost R items w))
    (hQ2 : ∀ (w : World) (R : HP) (ao : Option Addr) (cap : Nat), sat w R → DKs R rest ao 0 → Calls Try.prog 24 #[.slice ao rest.length cap] w (CpsPost R rest w))
    (w : World) (R : HP) (cs : List Value) (hs : sat w R) (hd : DK R (.mk kind n neg mag text items rest) cs) :
    Calls Try.prog 46 #[.agg cs.toArray] w (CpPost R (.mk kind n neg mag text items rest) w) := by
  unfold Dm.size at hsz
  obtain ⟨am, cm, ai, ci, ar, cr, rfl, ⟨hk, hn, hmag, hml, hcm, hci, hcr⟩, hit, hre⟩ := hd.open
  have h1 := (hs.alloc (dmO [.int .i64 kind, .int .i64 n, .bool neg, .slice am mag.length cm, .string text, .slice ai items.length ci, .slice ar rest.length cr])).alloc (dmO [.int .i64 0, .int .i64 0, .bool false, .slice none 0 0, .string ⟨#[]⟩, .slice none 0 0, .slice none 0 0])
  rw [World.size_alloc] at h1
  obtain ⟨g, hg⟩ : ∃ g, w.heap.size = g := ⟨_, rfl⟩
  rw [hg] at h1
  have hb1 : Below 0 w ((w.alloc (dmO [.int .i64 kind, .int .i64 n, .bool neg, .slice am mag.length cm, .string text, .slice ai items.length ci, .slice ar rest.length cr])).alloc (dmO [.int .i64 0, .int .i64 0, .bool false, .slice none 0 0, .string ⟨#[]⟩, .slice none 0 0, .slice none 0 0])) := (Below.zero_alloc _ _).trans (Below.zero_alloc _ _)
  have hM := copy_mag h1 am cm mag (hmag _ h1.right.right) (by omega)
  have HX := Lib.hid (And.intro hit (And.intro hre (And.intro hk (And.intro hn hml))))
  have HQ := Lib.hid (And.intro hQ1 hQ2)
  have HB := Lib.hid hb1
  clear hit hre hk hn hml hQ1 hQ2 hd hs hmag hb1 h1
  go_enter Try.func46, Try.ntmps46
  go_wp2_with fail
  generalize (w.alloc (dmO [.int .i64 kind, .int .i64 n, .bool neg, .slice am mag.length cm, .string text, .slice ai items.length ci, .slice ar rest.length cr])).alloc (dmO [.int .i64 0, .int .i64 0, .bool false, .slice none 0 0, .string ⟨#[]⟩, .slice none 0 0, .slice none 0 0]) = w1 at *
  refine hM.mono ?_
  clear hM
  rintro e w2 ⟨am2, cm2, rfl, hcm2, h2, hb2⟩
  have h2a : sat w2 (Go.Proofs.Ytkjfplldfjmbaaa.blk g (dmO [.int .i64 kind, .int .i64 n, .bool neg, .slice am mag.length cm, .string text, .slice ai items.length ci, .slice ar rest.length cr]) * (Go.Proofs.Ytkjfplldfjmbaaa.blk (g + 1) (dmO [.int .i64 0, .int .i64 0, .bool false, .slice none 0 0, .string ⟨#[]⟩, .slice none 0 0, .slice none 0 0]) * (own 66 1 (.slice am2 mag.length cm2) mag.length (mag.map fun x => .int .u32 x) * R))) := h2.perm (by ac_rfl)
  have c3 := (h2a.left.cell 3).trans (show _ = some (Value.slice am mag.length cm) from rfl)
  have c5 := (h2a.left.cell 5).trans (show _ = some (Value.slice ai items.length ci) from rfl)
  have f3 := h2a.left.frozen 3
  have h3 : sat (w2.setCell ⟨g, 3, none⟩ (.slice am2 mag.length cm2)) (Go.Proofs.Ytkjfplldfjmbaaa.blk g (dmO [.int .i64 kind, .int .i64 n, .bool neg, .slice am2 mag.length cm2, .string text, .slice ai items.length ci, .slice ar rest.length cr]) * (Go.Proofs.Ytkjfplldfjmbaaa.blk (g + 1) (dmO [.int .i64 0, .int .i64 0, .bool false, .slice none 0 0, .string ⟨#[]⟩, .slice none 0 0, .slice none 0 0]) * (own 66 1 (.slice am2 mag.length cm2) mag.length (mag.map fun x => .int .u32 x) * R))) := h2a.setCell (off := 3) (.slice am2 mag.length cm2)
  have hb3 : Below 0 w (w2.setCell ⟨g, 3, none⟩ (.slice am2 mag.length cm2)) := (HB.out.trans hb2).setCell (p := ⟨g, 3, none⟩) (Nat.zero_le _) _
  have hI := HQ.out.1 _ _ ai ci h3 (HX.out.1.mono fun w h => h.right.right.right)
  have H3 := Lib.hid (And.intro hb3 hcm2)
  clear h2 hb2 h2a h3 hb3 hcm2
  go_wp2_with fail
  refine hI.mono ?_
  clear hI c3 c5 f3
  rintro e w4 ⟨ai2, ci2, M1, rfl, hci2, hd1, h4, hb4⟩
  have h4a : sat w4 (Go.Proofs.Ytkjfplldfjmbaaa.blk g (dmO [.int .i64 kind, .int .i64 n, .bool neg, .slice am2 mag.length cm2, .string text, .slice ai items.length ci, .slice ar rest.length cr]) * (Go.Proofs.Ytkjfplldfjmbaaa.blk (g + 1) (dmO [.int .i64 0, .int .i64 0, .bool false, .slice none 0 0, .string ⟨#[]⟩, .slice none 0 0, .slice none 0 0]) * (own 66 1 (.slice am2 mag.length cm2) mag.length (mag.map fun x => .int .u32 x) * (M1 * R)))) := h4.perm (by ac_rfl)
  have c5 := (h4a.left.cell 5).trans (show _ = some (Value.slice ai items.length ci) from rfl)
  have c6 := (h4a.left.cell 6).trans (show _ = some (Value.slice ar rest.length cr) from rfl)
  have f5 := h4a.left.frozen 5
  have h5 : sat (w4.setCell ⟨g, 5, none⟩ (.slice ai2 items.length ci2)) (Go.Proofs.Ytkjfplldfjmbaaa.blk g (dmO [.int .i64 kind, .int .i64 n, .bool neg, .slice am2 mag.length cm2, .string text, .slice ai2 items.length ci2, .slice ar rest.length cr]) * (Go.Proofs.Ytkjfplldfjmbaaa.blk (g + 1) (dmO [.int .i64 0, .int .i64 0, .bool false, .slice none 0 0, .string ⟨#[]⟩, .slice none 0 0, .slice none 0 0]) * (own 66 1 (.slice am2 mag.length cm2) mag.length (mag.map fun x => .int .u32 x) * (M1 * R)))) := h4a.setCell (off := 5) (.slice ai2 items.length ci2)
  have hb5 : Below 0 w (w4.setCell ⟨g, 5, none⟩ (.slice ai2 items.length ci2)) := (H3.out.1.trans hb4).setCell (p := ⟨g, 5, none⟩) (Nat.zero_le _) _
  have hI := HQ.out.2 _ _ ar cr h5 (HX.out.2.1.mono fun w h => h.right.right.right.right)
  have H5 := Lib.hid (And.intro hb5 (And.intro hci2 hd1))
  clear h4 hb4 h4a h5 hb5 hci2 hd1
  go_wp2_with fail
  refine hI.mono ?_
  clear hI c5 c6 f5
  rintro e w6 ⟨ar2, cr2, M2, rfl, hcr2, hd2, h6, hb6⟩
  have h6a : sat w6 (Go.Proofs.Ytkjfplldfjmbaaa.blk g (dmO [.int .i64 kind, .int .i64 n, .bool neg, .slice am2 mag.length cm2, .string text, .slice ai2 items.length ci2, .slice ar rest.length cr]) * (Go.Proofs.Ytkjfplldfjmbaaa.blk (g + 1) (dmO [.int .i64 0, .int .i64 0, .bool false, .slice none 0 0, .string ⟨#[]⟩, .slice none 0 0, .slice none 0 0]) * ((own 66 1 (.slice am2 mag.length cm2) mag.length (mag.map fun x => .int .u32 x) * (M1 * M2)) * R))) := h6.perm (by ac_rfl)
  have c6 := (h6a.left.cell 6).trans (show _ = some (Value.slice ar rest.length cr) from rfl)
  have f6 := h6a.left.frozen 6
  have h7 : sat (w6.setCell ⟨g, 6, none⟩ (.slice ar2 rest.length cr2)) (Go.Proofs.Ytkjfplldfjmbaaa.blk g (dmO [.int .i64 kind, .int .i64 n, .bool neg, .slice am2 mag.length cm2, .string text, .slice ai2 items.length ci2, .slice ar2 rest.length cr2]) * (Go.Proofs.Ytkjfplldfjmbaaa.blk (g + 1) (dmO [.int .i64 0, .int .i64 0, .bool false, .slice none 0 0, .string ⟨#[]⟩, .slice none 0 0, .slice none 0 0]) * ((own 66 1 (.slice am2 mag.length cm2) mag.length (mag.map fun x => .int .u32 x) * (M1 * M2)) * R))) := h6a.setCell (off := 6) (.slice ar2 rest.length cr2)
  have hb7 : Below 0 w (w6.setCell ⟨g, 6, none⟩ (.slice ar2 rest.length cr2)) := (H5.out.1.trans hb6).setCell (p := ⟨g, 6, none⟩) (Nat.zero_le _) _
  have H7 := Lib.hid (And.intro h7 (And.intro hb7 (And.intro hcr2 hd2)))
  clear h6 hb6 h6a h7 hb7 hcr2 hd2
  have h8 : sat (w6.setCell ⟨g, 6, none⟩ (.slice ar2 rest.length cr2)) (Go.Proofs.Ytkjfplldfjmbaaa.blk (g + 1) (dmO [.int .i64 0, .int .i64 0, .bool false, .slice none 0 0, .string ⟨#[]⟩, .slice none 0 0, .slice none 0 0]) * (Go.Proofs.Ytkjfplldfjmbaaa.blk g (dmO [.int .i64 kind, .int .i64 n, .bool neg, .slice am2 mag.length cm2, .string text, .slice ai2 items.length ci2, .slice ar2 rest.length cr2]) * ((own 66 1 (.slice am2 mag.length cm2) mag.length (mag.map fun x => .int .u32 x) * (M1 * M2)) * R))) := H7.out.1.perm (by ac_rfl)
  obtain ⟨w7, hw7⟩ : ∃ w7, w6.setCell ⟨g, 6, none⟩ (.slice ar2 rest.length cr2) = w7 := ⟨_, rfl⟩
  rw [hw7] at h8 H7
  have d0 := (H7.out.1.left.cell 0).trans (show _ = some (Value.int .i64 kind) from rfl)
  have d1 := (H7.out.1.left.cell 1).trans (show _ = some (Value.int .i64 n) from rfl)
  have d2 := (H7.out.1.left.cell 2).trans (show _ = some (Value.bool neg) from rfl)
  have d3 := (H7.out.1.left.cell 3).trans (show _ = some (Value.slice am2 mag.length cm2) from rfl)
  have d4 := (H7.out.1.left.cell 4).trans (show _ = some (Value.string text) from rfl)
  have d5 := (H7.out.1.left.cell 5).trans (show _ = some (Value.slice ai2 items.length ci2) from rfl)
  have d6 := (H7.out.1.left.cell 6).trans (show _ = some (Value.slice ar2 rest.length cr2) from rfl)
  have z0 := (h8.left.cell 0).trans rfl
  have z1 := (h8.left.cell 1).trans rfl
  have z2 := (h8.left.cell 2).trans rfl
  have z3 := (h8.left.cell 3).trans rfl
  have z4 := (h8.left.cell 4).trans rfl
  have z5 := (h8.left.cell 5).trans rfl
  have z6 := (h8.left.cell 6).trans rfl
  have y0 := h8.left.frozen 0
  have y1 := h8.left.frozen 1
  have y2 := h8.left.frozen 2
  have y3 := h8.left.frozen 3
  have y4 := h8.left.frozen 4
  have y5 := h8.left.frozen 5
  have y6 := h8.left.frozen 6
  have hs9 := (((((((h8.setCell (off := 0) (.int .i64 kind)).setCell (off := 1) (.int .i64 n)).setCell (off := 2) (.bool neg)).setCell (off := 3) (.slice am2 mag.length cm2)).setCell (off := 4) (.string text)).setCell (off := 5) (.slice ai2 items.length ci2)).setCell (off := 6) (.slice ar2 rest.length cr2))
  have hb9 := (((((((H7.out.2.1.setCell (p := ⟨g + 1, 0, none⟩) (Nat.zero_le _) (.int .i64 kind)).setCell (p := ⟨g + 1, 1, none⟩) (Nat.zero_le _) (.int .i64 n)).setCell (p := ⟨g + 1, 2, none⟩) (Nat.zero_le _) (.bool neg)).setCell (p := ⟨g + 1, 3, none⟩) (Nat.zero_le _) (.slice am2 mag.length cm2)).setCell (p := ⟨g + 1, 4, none⟩) (Nat.zero_le _) (.string text)).setCell (p := ⟨g + 1, 5, none⟩) (Nat.zero_le _) (.slice ai2 items.length ci2)).setCell (p := ⟨g + 1, 6, none⟩) (Nat.zero_le _) (.slice ar2 rest.length cr2))
  have HY := Lib.hid (And.intro hs9 hb9)
  clear h8 hs9 hb9
  go_wp2_with fail
  generalize (((((((w7.setCell ⟨g + 1, 0, none⟩ (.int .i64 kind)).setCell ⟨g + 1, 1, none⟩ (.int .i64 n)).setCell ⟨g + 1, 2, none⟩ (.bool neg)).setCell ⟨g + 1, 3, none⟩ (.slice am2 mag.length cm2)).setCell ⟨g + 1, 4, none⟩ (.string text)).setCell ⟨g + 1, 5, none⟩ (.slice ai2 items.length ci2)).setCell ⟨g + 1, 6, none⟩ (.slice ar2 rest.length cr2)) = w9 at *
  obtain ⟨r0, r1, r2, r3, r4, r5, r6⟩ := cells7 HY.out.1
  have hdk : DK (own 66 1 (.slice am2 mag.length cm2) mag.length (mag.map fun x => .int .u32 x) * (M1 * M2)) (.mk kind n neg mag text items rest) [.int .i64 kind, .int .i64 n, .bool neg, .slice am2 mag.length cm2, .string text, .slice ai2 items.length ci2, .slice ar2 rest.length cr2] := by
    have t1 : DKs (own 66 1 (.slice am2 mag.length cm2) mag.length (mag.map fun x => .int .u32 x) * (M1 * M2)) items ai2 0 := H5.out.2.2.mono (fun w h => h.right.left) _
    have t2 : DKs (own 66 1 (.slice am2 mag.length cm2) mag.length (mag.map fun x => .int .u32 x) * (M1 * M2)) rest ar2 0 := H7.out.2.2.2.mono (fun w h => h.right.right) _
    have t3 : ∀ w, sat w (own 66 1 (.slice am2 mag.length cm2) mag.length (mag.map fun x => .int .u32 x) * (M1 * M2)) → MagW w am2 mag := fun w h => mag_own h
    exact DK.mk ⟨HX.out.2.2.1, HX.out.2.2.2.1⟩ t3 HX.out.2.2.2.2 ⟨H3.out.2, H5.out.2.1, H7.out.2.2.1⟩ t1 t2
  have hpost : CpPost R (.mk kind n neg mag text items rest) w (.returned (.agg #[.int .i64 kind, .int .i64 n, .bool neg, .slice am2 mag.length cm2, .string text, .slice ai2 items.length ci2, .slice ar2 rest.length cr2])) w9 :=
    ⟨[.int .i64 kind, .int .i64 n, .bool neg, .slice am2 mag.length cm2, .string text, .slice ai2 items.length ci2, .slice ar2 rest.length cr2], own 66 1 (.slice am2 mag.length cm2) mag.length (mag.map fun x => .int .u32 x) * (M1 * M2), rfl, hdk, HY.out.1.right.right, HY.out.2⟩
  exact bodyPost_ret (v := .agg #[.int .i64 kind, .int .i64 n, .bool neg, .slice am2 mag.length cm2, .string text, .slice ai2 items.length ci2, .slice ar2 rest.length cr2]) (by simp [results, Try.results46, go_sem, r0, r1, r2, r3, r4, r5, r6]) rfl hpost
/-- Copy and CopyAll of whatever data of a bounded size. -/
theorem copies_all : ∀ s : Nat, s ≤ 1048576 →
    (∀ d : Dm, d.size ≤ s → ∀ (w : World) (R : HP) cs, sat w R → DK R d cs → Calls Try.prog 46 #[.agg cs.toArray] w (CpPost R d w)) ∧
    (∀ l : List Dm, Dm.sizes l ≤ s → ∀ (w : World) (R : HP) (ao : Option Addr) (cap : Nat), sat w R → DKs R l ao 0 → Calls Try.prog 24 #[.slice ao l.length cap] w (CpsPost R l w)) := by
  intro s
  induction s with
  | zero =>
    intro _
    refine ⟨fun d hd => absurd d.size_pos (by omega), fun l hl => ?_⟩
    have hl0 := Dm.len_le l
    refine copies_step l (by omega) ?_
    intro d hd
    obtain ⟨i, hi⟩ := List.mem_iff_getElem?.1 hd
    have h1 := Dm.size_le hi
    have h2 := d.size_pos
    omega
  | succ s ih =>
    intro hs
    obtain ⟨_, ihQ⟩ := ih (by omega)
    have hP : ∀ d : Dm, d.size ≤ s + 1 → ∀ (w : World) (R : HP) cs, sat w R → DK R d cs → Calls Try.prog 46 #[.agg cs.toArray] w (CpPost R d w) := by
      intro d hd w R cs hw hdk
      cases d with
      | mk kind n neg mag text items rest =>
        have hsz := hd
        unfold Dm.size at hd
        exact copy_step kind n neg mag text items rest (by omega) (ihQ items (by omega)) (ihQ rest (by omega)) w R cs hw hdk
    refine ⟨hP, fun l hl => ?_⟩
    have hl0 := Dm.len_le l
    refine copies_step l (by omega) ?_
    intro d hd
    obtain ⟨i, hi⟩ := List.mem_iff_getElem?.1 hd
    have h1 := Dm.size_le hi
    exact hP d (by omega)
theorem copy_dm {w : World} {R : HP} {d : Dm} {cs : List Value} (hs : sat w R) (hd : DK R d cs) (hz : d.size ≤ 1048576) :
    Calls Try.prog 46 #[.agg cs.toArray] w (CpPost R d w) := (copies_all 1048576 (Nat.le_refl _)).1 d hz w R cs hs hd
theorem copy_dms {w : World} {R : HP} {l : List Dm} {ao : Option Addr} {cap : Nat} (hs : sat w R) (hd : DKs R l ao 0) (hz : Dm.sizes l ≤ 1048576) :
    Calls Try.prog 24 #[.slice ao l.length cap] w (CpsPost R l w) := (copies_all 1048576 (Nat.le_refl _)).2 l hz w R ao cap hs hd
end Go.Proofs.Ytkjfplldfjmbaaa
