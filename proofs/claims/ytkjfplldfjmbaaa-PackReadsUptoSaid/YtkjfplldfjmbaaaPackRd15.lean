/- pack.Read, walked whole. -/
import Derived.Test.YtkjfplldfjmbaaaPackRdE
import Derived.Test.YtkjfplldfjmbaaaPackRtS
namespace Go.Proofs.Ytkjfplldfjmbaaa
open Go.RowKit
/-- What Read leaves. -/
def ReadPost (R : HP) (o : Option (List Pr)) (w : World) (e : Ending) (w' : World) : Prop :=
  match o with
  | none => e = .returned (.tuple #[.slice none 0 0, .int .i64 30]) ∧ sat w' R ∧ Below 0 w w'
  | some ps => ∃ ro rc css M, e = .returned (.tuple #[.slice ro ps.length rc, .int .i64 0]) ∧ ps.length ≤ rc ∧ PrOs ps css M ∧ sat w' (own 38 7 (.slice ro ps.length rc) ps.length css.flatten * (M * R)) ∧ Below 0 w w'
theorem PrO.seven2 {M : HP} {p : Pr} {cs : List Value} (h : PrO M p cs) : (∃ v0 v1 v2 v3 v4 v5 v6 : Value, cs = [v0, v1, v2, v3, v4, v5, v6]) ∧ ∀ u ∈ cs, u.oneCell' = true := by
  obtain ⟨_, _, _, _, _, _, _, rfl, _⟩ := h
  refine ⟨⟨_, _, _, _, _, _, _, rfl⟩, ?_⟩
  intro u hu
  simp at hu
  rcases hu with rfl | rfl | rfl | rfl | rfl | rfl | rfl <;> rfl
def RrRel (W : World) (R : HP) (g2 gr N : Nat) (l2 : List Int) (i : Value) (wr : World) : Prop :=
  ∃ (m : Nat) (ps : List Pr) (q : Int) (l : List Int) (ro : Option Addr) (rc : Nat) (css : List (List Value)) (M : HP), i = .int .i64 m ∧ m ≤ 1099511627776 ∧ rdMany rdProto N 0 l2 = joinM ps (rdMany rdProto m q l) ∧ prSizes ps + l.length ≤ 67108864 ∧ (0 ≤ q ∧ q ≤ 20000) ∧ PrOs ps css M ∧
    RdAt wr R (own 38 7 (.slice ro ps.length rc) ps.length css.flatten * (M * (blk (g2 + 1) (.cells #[.int .i64 0] 24 (0, 0)) * (blk g2 (.cells #[.slice ro ps.length rc] 22 (0, 0)) * R)))) gr l q ∧ Below 0 W wr
noncomputable def endO (o : Option (List Pr × Int × List Int)) : Option (List Pr) := open Classical in match o with
  | none => none
  | some (ps, _, l3) => if l3 = [] ∧ (okPs ps 0).isSome = true then some ps else none
theorem rdRead_end {l l1 l2 : List Int} {n : Int} (h1 : takeP l 4 = some (magicS, l1)) (h2 : rdNumF 0 0 l1 = some (n, l2)) : rdRead l = endO (rdMany rdProto n.toNat 0 l2) := by
  unfold rdRead
  rw [h1]
  simp only [if_true]
  rw [show rdNum l1 = some (n, l2) from h2]
  rfl
theorem getD_put {tmps : Array Value} {d i : Nat} (h : d ≠ i) (v : Value) : (tmps.setIfInBounds d v).getD i undef = tmps.getD i undef := by
  simp [Array.getD_eq_getD_getElem?, h]
theorem read_put (tmps : Array Value) (d : Nat) (v : Value) (hd : 4 ≤ d) : results Try.f15 (tmps.setIfInBounds d v) = results Try.f15 tmps := by
  have h2 := getD_put (tmps := tmps) (d := d) (i := 2) (by omega) v
  have h3 := getD_put (tmps := tmps) (d := d) (i := 3) (by omega) v
  simp only [results, Try.results15]
  simp only [List.mapM_toArray, List.mapM_cons, List.mapM_nil, h2, h3]
theorem leaves_put {P : Program} {fn : Func} {R : Ending → World → Prop} {t1 t2 : Array Value} (h : results fn t1 = results fn t2) : ∀ (ds : List Deferred) (u : FrameMode) (w : World), Leaves P fn t1 R ds u w → Leaves P fn t2 R ds u w
  | [], .returning, w, ⟨v, h1, h2⟩ => ⟨v, by rw [← h]; exact h1, h2⟩
  | [], .panicking _, w, h1 => h1
  | [], .run, _, h1 => h1
  | d :: ds, u, w, ⟨h0, fv, cap, f, args, h1, h2, h3⟩ => ⟨h0, fv, cap, f, args, h1, h2, h3.mono fun e u' w' h4 => by
      cases e with
      | returned v => exact leaves_put h ds _ _ h4
      | panicked c => exact leaves_put h ds _ _ h4
      | outgrown => exact h4⟩
set_option maxRecDepth 100000 in
set_option maxHeartbeats 8000000 in
theorem pack_Read (w : World) (R : HP) (ao : Option Addr) (cap : Nat) (l : List Int) (hs : sat w R) (hx : ∀ w', sat w' R → CellsAt w' ao (l.map bv)) (hu : Bytes l) (hlc : l.length ≤ cap) (hl : l.length ≤ 67108864) :
    Calls Try.prog 15 #[.slice ao l.length cap] w (ReadPost R (rdRead l) w) := by
  have hmf : ∀ (fn : Fn) (first cap : Array Value) (w : World), (Instr.makeFunc fn first cap).run Try.prog w = .ok (.func fn first cap) w := fun _ _ _ _ => rfl
  have h1 := hs.alloc (.cells #[.slice none 0 0] 22)
  have h2 := h1.alloc (.cells #[.int .i64 0] 24)
  have h3 := h2.alloc (.cells #[.slice ao l.length cap, .int .i64 0] 72)
  have hb0 := ((Below.zero_alloc w (.cells #[.slice none 0 0] 22)).trans (Below.zero_alloc _ (.cells #[.int .i64 0] 24))).trans (Below.zero_alloc _ (.cells #[.slice ao l.length cap, .int .i64 0] 72))
  obtain ⟨g2, hg2⟩ : ∃ g, w.heap.size = g := ⟨_, rfl⟩
  rw [World.size_alloc, World.size_alloc, hg2] at h3
  have hR : RdAt (((w.alloc (.cells #[.slice none 0 0] 22)).alloc (.cells #[.int .i64 0] 24)).alloc (.cells #[.slice ao l.length cap, .int .i64 0] 72)) R (blk (g2 + 1) (.cells #[.int .i64 0] 24 (0, 0)) * (blk g2 (.cells #[.slice none 0 0] 22 (0, 0)) * R)) (g2 + 1 + 1) l 0 := by
    refine ⟨ao, cap, ?_, hlc, hx, hu, fun w' h => h.right.right⟩
    exact h3
  have HL := Lib.hid (And.intro hl hu)
  clear h1 h2 h3 hs hx hu hlc hl
  go_enter_defers Try.func15, Try.ntmps15
  go_wp2_with fail
  have hT := rd_take_any _ R _ _ l 0 4 4 rfl hR
  clear hR
  cases a1 : takeP l 4 with
  | none =>
    rw [a1] at hT
    have HNO := Lib.hid (show rdRead l = none by unfold rdRead; rw [a1])
    clear a1
    refine hT.mono ?_
    clear hT
    rintro e w9 ⟨rfl, h9, hb9⟩
    unfold cutE
    go_wp2_with fail
    have k1 : sat w9 (blk (g2 + 1) (.cells #[.int .i64 0] 24 (0, 0)) * (blk g2 (.cells #[.slice none 0 0] 22 (0, 0)) * R)) := h9
    have p2 := (k1.right.left.cell 0).trans (show _ = some (Value.slice none 0 0) from rfl)
    have p3 := k1.right.left.frozen 0
    have h10 : sat (w9.setCell ⟨g2, 0, none⟩ (.slice none 0 0)) (blk g2 (.cells #[.slice none 0 0] 22 (0, 0)) * (blk (g2 + 1) (.cells #[.int .i64 0] 24 (0, 0)) * R)) := (k1.perm (HP.left_comm _ _ _)).setCell (off := 0) _
    have h11 : sat ((w9.setCell ⟨g2, 0, none⟩ (.slice none 0 0)).setCell ⟨g2 + 1, 0, none⟩ (.int .i64 30)) (blk (g2 + 1) (.cells #[.int .i64 30] 24 (0, 0)) * (blk g2 (.cells #[.slice none 0 0] 22 (0, 0)) * R)) := (h10.perm (HP.left_comm _ _ _)).setCell (off := 0) _
    have q1 := (h10.right.left.cell 0).trans (show _ = some (Value.int .i64 0) from rfl)
    have q2 := h10.right.left.frozen 0
    have hb11 : Below 0 w ((w9.setCell ⟨g2, 0, none⟩ (.slice none 0 0)).setCell ⟨g2 + 1, 0, none⟩ (.int .i64 30)) := ((hb0.trans hb9).setCell (p := ⟨g2, 0, none⟩) (Nat.zero_le _) _).setCell (p := ⟨g2 + 1, 0, none⟩) (Nat.zero_le _) _
    have HR9 := Lib.hid (show sat ((w9.setCell ⟨g2, 0, none⟩ (.slice none 0 0)).setCell ⟨g2 + 1, 0, none⟩ (.int .i64 30)) R from h11.right.right)
    have HB9 := Lib.hid hb11
    show Leaves _ _ _ _ _ _ _
    refine leaves_cons (f := 34) (args := #[.pointer (some ⟨g2, 0, none⟩), .pointer (some ⟨g2 + 1, 0, none⟩)]) (by simp) (by simp [go_sem]) ?_
    refine (read_catch ⟨g2, 0, none⟩ ⟨g2 + 1, 0, none⟩ _ _ 75 _ [] w9 p2 p3 q1 q2).mono ?_
    rintro e u' w'' ⟨rfl, rfl, rfl⟩
    have s1 := (h11.right.left.cell 0).trans (show _ = some (Value.slice none 0 0) from rfl)
    have s2 := (h11.left.cell 0).trans (show _ = some (Value.int .i64 30) from rfl)
    clear h10 h11 k1 hb11
    generalize (w9.setCell ⟨g2, 0, none⟩ (.slice none 0 0)).setCell ⟨g2 + 1, 0, none⟩ (.int .i64 30) = w12 at *
    simp [Leaves, settle, results, Try.results15, go_sem, s1, s2]
    rw [HNO.out]
    exact ⟨rfl, HR9.out, HB9.out⟩
  | some r =>
  obtain ⟨s, l1⟩ := r
  rw [a1] at hT
  refine hT.mono ?_
  clear hT
  rintro e w4 ⟨rfl, h4, hb4⟩
  have hb4' := hb0.trans hb4
  clear hb0 hb4
  have ha1 := takeP_size a1
  by_cases hm : s = magicS
  case neg =>
    have HNO := Lib.hid (show rdRead l = none by unfold rdRead; rw [a1]; simp only [if_neg hm])
    have hne : (s.toList == [84, 65, 78, 68]) = false := by
      rw [beq_eq_false_iff_ne]
      intro h
      apply hm
      apply ByteArray.ext
      apply Array.toList_inj.mp
      rw [ByteArray.toList_eq] at h
      exact h
    have H9 := Lib.hid (And.intro h4.fr hb4')
    clear a1 hm h4 hb4'
    go_wp2_with fail
    have k1 : sat w4 (blk (g2 + 1) (.cells #[.int .i64 0] 24 (0, 0)) * (blk g2 (.cells #[.slice none 0 0] 22 (0, 0)) * R)) := H9.out.1
    have p2 := (k1.right.left.cell 0).trans (show _ = some (Value.slice none 0 0) from rfl)
    have p3 := k1.right.left.frozen 0
    have h10 : sat (w4.setCell ⟨g2, 0, none⟩ (.slice none 0 0)) (blk g2 (.cells #[.slice none 0 0] 22 (0, 0)) * (blk (g2 + 1) (.cells #[.int .i64 0] 24 (0, 0)) * R)) := (k1.perm (HP.left_comm _ _ _)).setCell (off := 0) _
    have h11 : sat ((w4.setCell ⟨g2, 0, none⟩ (.slice none 0 0)).setCell ⟨g2 + 1, 0, none⟩ (.int .i64 30)) (blk (g2 + 1) (.cells #[.int .i64 30] 24 (0, 0)) * (blk g2 (.cells #[.slice none 0 0] 22 (0, 0)) * R)) := (h10.perm (HP.left_comm _ _ _)).setCell (off := 0) _
    have q1 := (h10.right.left.cell 0).trans (show _ = some (Value.int .i64 0) from rfl)
    have q2 := h10.right.left.frozen 0
    have hb11 : Below 0 w ((w4.setCell ⟨g2, 0, none⟩ (.slice none 0 0)).setCell ⟨g2 + 1, 0, none⟩ (.int .i64 30)) := ((H9.out.2).setCell (p := ⟨g2, 0, none⟩) (Nat.zero_le _) _).setCell (p := ⟨g2 + 1, 0, none⟩) (Nat.zero_le _) _
    have HR9 := Lib.hid (show sat ((w4.setCell ⟨g2, 0, none⟩ (.slice none 0 0)).setCell ⟨g2 + 1, 0, none⟩ (.int .i64 30)) R from h11.right.right)
    have HB9 := Lib.hid hb11
    show Leaves _ _ _ _ _ _ _
    refine leaves_cons (f := 34) (args := #[.pointer (some ⟨g2, 0, none⟩), .pointer (some ⟨g2 + 1, 0, none⟩)]) (by simp) (by simp [go_sem]) ?_
    refine (read_catch ⟨g2, 0, none⟩ ⟨g2 + 1, 0, none⟩ _ _ 75 _ [] w4 p2 p3 q1 q2).mono ?_
    rintro e u' w'' ⟨rfl, rfl, rfl⟩
    have s1 := (h11.right.left.cell 0).trans (show _ = some (Value.slice none 0 0) from rfl)
    have s2 := (h11.left.cell 0).trans (show _ = some (Value.int .i64 30) from rfl)
    clear h10 h11 k1 hb11
    generalize (w4.setCell ⟨g2, 0, none⟩ (.slice none 0 0)).setCell ⟨g2 + 1, 0, none⟩ (.int .i64 30) = w12 at *
    simp [Leaves, settle, results, Try.results15, go_sem, s1, s2]
    rw [HNO.out]
    exact ⟨rfl, HR9.out, HB9.out⟩
  subst hm
  have hN := rd_number w4 R _ _ l1 0 h4
  unfold magicS
  cases a2 : rdNumF 0 0 l1 with
  | none =>
    rw [a2] at hN
    have HNO := Lib.hid (show rdRead l = none by unfold rdRead; rw [a1]; simp only [if_true]; rw [show rdNum l1 = none from a2])
    clear a1 a2 h4
    go_wp2_with fail
    refine hN.mono ?_
    clear hN
    rintro e w9 ⟨rfl, h9, hb9⟩
    unfold cutE
    go_wp2_with fail
    have k1 : sat w9 (blk (g2 + 1) (.cells #[.int .i64 0] 24 (0, 0)) * (blk g2 (.cells #[.slice none 0 0] 22 (0, 0)) * R)) := h9
    have p2 := (k1.right.left.cell 0).trans (show _ = some (Value.slice none 0 0) from rfl)
    have p3 := k1.right.left.frozen 0
    have h10 : sat (w9.setCell ⟨g2, 0, none⟩ (.slice none 0 0)) (blk g2 (.cells #[.slice none 0 0] 22 (0, 0)) * (blk (g2 + 1) (.cells #[.int .i64 0] 24 (0, 0)) * R)) := (k1.perm (HP.left_comm _ _ _)).setCell (off := 0) _
    have h11 : sat ((w9.setCell ⟨g2, 0, none⟩ (.slice none 0 0)).setCell ⟨g2 + 1, 0, none⟩ (.int .i64 30)) (blk (g2 + 1) (.cells #[.int .i64 30] 24 (0, 0)) * (blk g2 (.cells #[.slice none 0 0] 22 (0, 0)) * R)) := (h10.perm (HP.left_comm _ _ _)).setCell (off := 0) _
    have q1 := (h10.right.left.cell 0).trans (show _ = some (Value.int .i64 0) from rfl)
    have q2 := h10.right.left.frozen 0
    have hb11 : Below 0 w ((w9.setCell ⟨g2, 0, none⟩ (.slice none 0 0)).setCell ⟨g2 + 1, 0, none⟩ (.int .i64 30)) := ((hb4'.trans hb9).setCell (p := ⟨g2, 0, none⟩) (Nat.zero_le _) _).setCell (p := ⟨g2 + 1, 0, none⟩) (Nat.zero_le _) _
    have HR9 := Lib.hid (show sat ((w9.setCell ⟨g2, 0, none⟩ (.slice none 0 0)).setCell ⟨g2 + 1, 0, none⟩ (.int .i64 30)) R from h11.right.right)
    have HB9 := Lib.hid hb11
    show Leaves _ _ _ _ _ _ _
    refine leaves_cons (f := 34) (args := #[.pointer (some ⟨g2, 0, none⟩), .pointer (some ⟨g2 + 1, 0, none⟩)]) (by simp) (by simp [go_sem]) ?_
    refine (read_catch ⟨g2, 0, none⟩ ⟨g2 + 1, 0, none⟩ _ _ 75 _ [] w9 p2 p3 q1 q2).mono ?_
    rintro e u' w'' ⟨rfl, rfl, rfl⟩
    have s1 := (h11.right.left.cell 0).trans (show _ = some (Value.slice none 0 0) from rfl)
    have s2 := (h11.left.cell 0).trans (show _ = some (Value.int .i64 30) from rfl)
    clear h10 h11 k1 hb11
    generalize (w9.setCell ⟨g2, 0, none⟩ (.slice none 0 0)).setCell ⟨g2 + 1, 0, none⟩ (.int .i64 30) = w12 at *
    simp [Leaves, settle, results, Try.results15, go_sem, s1, s2]
    rw [HNO.out]
    exact ⟨rfl, HR9.out, HB9.out⟩
  | some r =>
  obtain ⟨n, l2⟩ := r
  rw [a2] at hN
  have hnb := rdNumF_bd l1 0 0 n l2 a2
  obtain ⟨nn, hnn⟩ : ∃ x : Nat, n.toNat = x := ⟨_, rfl⟩
  have hre := rdRead_end a1 a2
  rw [hnn] at hre
  have hnn2 : n = (nn : Int) := by omega
  subst hnn2
  have HRE := Lib.hid (And.intro hre (And.intro hnb ha1))
  clear hre hnb ha1 a1 a2 hnn
  go_wp2_with fail
  refine hN.mono ?_
  clear hN
  rintro e w5 ⟨rfl, h5, hb5⟩
  have H5 := Lib.hid (And.intro h5 (hb4'.trans hb5))
  clear h5 hb5 h4 hb4'
  obtain ⟨i0, hi, hz0, hz1, hz2⟩ := info_parts info_pr
  have HI := Lib.hid (And.intro hi (And.intro hz0 (And.intro hz1 hz2)))
  clear hi hz0 hz1 hz2
  go_wp2_with fail
  go_loopw [5] (RrRel w R g2 (g2 + 1 + 1) nn l2) (fun i _ => (intOf i).toNat)
  case atStart =>
    refine ⟨nn, [], 0, l2, none, 0, [], emp, rfl, by have := HRE.out; omega, ?_, by have := HRE.out; have := HL.out.1; show 0 + _ ≤ _; omega, by decide, rfl, ?_, H5.out.2⟩
    · cases rdMany rdProto nn 0 l2 with
      | none => rfl
      | some r => rfl
    · obtain ⟨ao', cap', q1, q2, q3, q4, q5⟩ := H5.out.1
      refine ⟨ao', cap', (q1.nil_own (e := 38) (sz := 7)).perm (by rw [HP.emp_mul]; simp only [List.flatten_nil, List.length_nil]; ac_rfl), q2, q3, q4, fun w' h => h.right.right.right.right⟩
  case round =>
    obtain ⟨m, ps, q, l4, ro, rc, css, M, rfl, hmb, hrd, hlen, hqb, hos, h8, hb8⟩ := hrel
    cases m with
    | zero =>
      have hfin : rdRead l = if l4 = [] ∧ (okPs ps 0).isSome = true then some ps else none := by
        rw [HRE.out.1, hrd]
        show endO (some (ps ++ [], q, l4)) = _
        rw [List.append_nil]
        rfl
      have hrc : ps.length ≤ rc := by
        obtain ⟨ao', cap', q1, _⟩ := h8
        obtain ⟨_, _, e1, e2⟩ := slice_val q1.right
        cases e1
        exact e2
      clear hrd HRE
      obtain ⟨ao', cap', s1, _, _, _, _⟩ := h8
      have hd := hos.ks (R := blk (g2 + 1) (.cells #[.int .i64 0] 24 (0, 0)) * (blk g2 (.cells #[.slice ro ps.length rc] 22 (0, 0)) * R)) s1.right
      have hd2 : PrKs (blk (g2 + 1 + 1) (.cells #[.slice ao' l4.length cap', .int .i64 q] 72 (0, 0)) * (own 38 7 (.slice ro ps.length rc) ps.length css.flatten * (M * (blk (g2 + 1) (.cells #[.int .i64 0] 24 (0, 0)) * (blk g2 (.cells #[.slice ro ps.length rc] 22 (0, 0)) * R))))) ps ro := hd.mono (fun w' h => h.right)
      have c0 := (s1.left.cell 0).trans (show _ = some (Value.slice ao' l4.length cap') from rfl)
      obtain ⟨pl, hpl⟩ : ∃ x, ps.length = x := ⟨_, rfl⟩
      obtain ⟨L4, hL4⟩ : ∃ x, l4.length = x := ⟨_, rfl⟩
      rw [hpl] at s1 hd2 hrc
      rw [hL4] at s1 hd2 c0
      have HF := Lib.hid (And.intro hfin (And.intro hrc (And.intro hos (And.intro hpl (And.intro hb8 (And.intro hL4 (And.intro hd2 s1)))))))
      by_cases hnil : L4 = 0
      case neg =>
        have e4 : decide (0 < L4) = true := by rw [decide_eq_true_eq]; omega
        have HNO := Lib.hid (show rdRead l = none by rw [hfin, if_neg]; rintro ⟨h, _⟩; apply hnil; rw [← hL4, h]; rfl)
        clear hfin hrc hos hd hd2 hpl hb8 hL4 hnil hlen hqb hmb
        go_wp2_with fail
        have k1 : sat wr (blk (g2 + 1) (.cells #[.int .i64 0] 24 (0, 0)) * (blk g2 (.cells #[.slice ro pl rc] 22 (0, 0)) * (own 38 7 (.slice ro pl rc) pl css.flatten * (M * (blk (g2 + 1 + 1) (.cells #[.slice ao' L4 cap', .int .i64 q] 72 (0, 0)) * R))))) := (s1.perm (show _ = _ * (_ * (own 38 7 (.slice ro pl rc) pl css.flatten * (M * (blk (g2 + 1 + 1) (.cells #[.slice ao' L4 cap', .int .i64 q] 72 (0, 0)) * R)))) by ac_rfl))
        have p2 := (k1.right.left.cell 0).trans (show _ = some (Value.slice ro pl rc) from rfl)
        have p3 := k1.right.left.frozen 0
        have h10 : sat (wr.setCell ⟨g2, 0, none⟩ (.slice none 0 0)) (blk g2 (.cells #[.slice none 0 0] 22 (0, 0)) * (blk (g2 + 1) (.cells #[.int .i64 0] 24 (0, 0)) * (own 38 7 (.slice ro pl rc) pl css.flatten * (M * (blk (g2 + 1 + 1) (.cells #[.slice ao' L4 cap', .int .i64 q] 72 (0, 0)) * R))))) := (k1.perm (HP.left_comm _ _ _)).setCell (off := 0) _
        have h11 : sat ((wr.setCell ⟨g2, 0, none⟩ (.slice none 0 0)).setCell ⟨g2 + 1, 0, none⟩ (.int .i64 30)) (blk (g2 + 1) (.cells #[.int .i64 30] 24 (0, 0)) * (blk g2 (.cells #[.slice none 0 0] 22 (0, 0)) * (own 38 7 (.slice ro pl rc) pl css.flatten * (M * (blk (g2 + 1 + 1) (.cells #[.slice ao' L4 cap', .int .i64 q] 72 (0, 0)) * R))))) := (h10.perm (HP.left_comm _ _ _)).setCell (off := 0) _
        have q1 := (h10.right.left.cell 0).trans (show _ = some (Value.int .i64 0) from rfl)
        have q2 := h10.right.left.frozen 0
        have hb11 : Below 0 w ((wr.setCell ⟨g2, 0, none⟩ (.slice none 0 0)).setCell ⟨g2 + 1, 0, none⟩ (.int .i64 30)) := ((HF.out.2.2.2.2.1).setCell (p := ⟨g2, 0, none⟩) (Nat.zero_le _) _).setCell (p := ⟨g2 + 1, 0, none⟩) (Nat.zero_le _) _
        have HR9 := Lib.hid (show sat ((wr.setCell ⟨g2, 0, none⟩ (.slice none 0 0)).setCell ⟨g2 + 1, 0, none⟩ (.int .i64 30)) R from h11.right.right.right.right.right)
        have HB9 := Lib.hid hb11
        show Leaves _ _ _ _ _ _ _
        refine leaves_cons (f := 34) (args := #[.pointer (some ⟨g2, 0, none⟩), .pointer (some ⟨g2 + 1, 0, none⟩)]) (by simp) (by simp [go_sem]) ?_
        refine (read_catch ⟨g2, 0, none⟩ ⟨g2 + 1, 0, none⟩ _ _ 75 _ [] wr p2 p3 q1 q2).mono ?_
        rintro e u' w'' ⟨rfl, rfl, rfl⟩
        have s1 := (h11.right.left.cell 0).trans (show _ = some (Value.slice none 0 0) from rfl)
        have s2 := (h11.left.cell 0).trans (show _ = some (Value.int .i64 30) from rfl)
        clear h10 h11 k1 hb11
        generalize (wr.setCell ⟨g2, 0, none⟩ (.slice none 0 0)).setCell ⟨g2 + 1, 0, none⟩ (.int .i64 30) = w12 at *
        simp [Leaves, settle, results, Try.results15, go_sem, s1, s2]
        rw [HNO.out]
        exact ⟨rfl, HR9.out, HB9.out⟩
      subst hnil
      have hsz : pl ≤ 67108864 ∧ ∀ p ∈ ps, p.code.length ≤ 67108864 ∧ Dm.sizes p.consts ≤ 67108864 := by
        refine ⟨by have := prSizes_len ps; omega, fun p hp => ?_⟩
        obtain ⟨i, hi⟩ := List.mem_iff_getElem?.1 hp
        have h1 := prSizes_take hi
        unfold Pr.size at h1
        omega
      have hRt := pack_right ps pl hpl hsz wr _ ro rc s1 hd2
      have hln : l4 = [] := List.eq_nil_of_length_eq_zero hL4
      have c9 := (s1.right.right.right.right.left.cell 0).trans (show _ = some (Value.slice ro pl rc) from rfl)
      cases hok : (okPs ps 0).isSome with
      | false =>
        rw [hok] at hRt
        have HNO := Lib.hid (show rdRead l = none by rw [hfin, if_neg]; rintro ⟨_, h⟩; rw [hok] at h; cases h)
        clear hfin hrc hos hd hd2 hpl hb8 hL4 hlen hqb hmb hok hln hsz s1
        go_wp2_with fail
        refine hRt.mono ?_
        clear hRt
        rintro e w9 ⟨rfl, h9, hb9⟩
        clear c0 c9
        go_wp2_with fail
        have k1 : sat w9 (blk (g2 + 1) (.cells #[.int .i64 0] 24 (0, 0)) * (blk g2 (.cells #[.slice ro pl rc] 22 (0, 0)) * (own 38 7 (.slice ro pl rc) pl css.flatten * (M * (blk (g2 + 1 + 1) (.cells #[.slice ao' 0 cap', .int .i64 q] 72 (0, 0)) * R))))) := (h9.perm (show _ = _ * (_ * (own 38 7 (.slice ro pl rc) pl css.flatten * (M * (blk (g2 + 1 + 1) (.cells #[.slice ao' 0 cap', .int .i64 q] 72 (0, 0)) * R)))) by ac_rfl))
        have p2 := (k1.right.left.cell 0).trans (show _ = some (Value.slice ro pl rc) from rfl)
        have p3 := k1.right.left.frozen 0
        have h10 : sat (w9.setCell ⟨g2, 0, none⟩ (.slice none 0 0)) (blk g2 (.cells #[.slice none 0 0] 22 (0, 0)) * (blk (g2 + 1) (.cells #[.int .i64 0] 24 (0, 0)) * (own 38 7 (.slice ro pl rc) pl css.flatten * (M * (blk (g2 + 1 + 1) (.cells #[.slice ao' 0 cap', .int .i64 q] 72 (0, 0)) * R))))) := (k1.perm (HP.left_comm _ _ _)).setCell (off := 0) _
        have h11 : sat ((w9.setCell ⟨g2, 0, none⟩ (.slice none 0 0)).setCell ⟨g2 + 1, 0, none⟩ (.int .i64 30)) (blk (g2 + 1) (.cells #[.int .i64 30] 24 (0, 0)) * (blk g2 (.cells #[.slice none 0 0] 22 (0, 0)) * (own 38 7 (.slice ro pl rc) pl css.flatten * (M * (blk (g2 + 1 + 1) (.cells #[.slice ao' 0 cap', .int .i64 q] 72 (0, 0)) * R))))) := (h10.perm (HP.left_comm _ _ _)).setCell (off := 0) _
        have q1 := (h10.right.left.cell 0).trans (show _ = some (Value.int .i64 0) from rfl)
        have q2 := h10.right.left.frozen 0
        have hb11 : Below 0 w ((w9.setCell ⟨g2, 0, none⟩ (.slice none 0 0)).setCell ⟨g2 + 1, 0, none⟩ (.int .i64 30)) := ((HF.out.2.2.2.2.1.trans hb9).setCell (p := ⟨g2, 0, none⟩) (Nat.zero_le _) _).setCell (p := ⟨g2 + 1, 0, none⟩) (Nat.zero_le _) _
        have HR9 := Lib.hid (show sat ((w9.setCell ⟨g2, 0, none⟩ (.slice none 0 0)).setCell ⟨g2 + 1, 0, none⟩ (.int .i64 30)) R from h11.right.right.right.right.right)
        have HB9 := Lib.hid hb11
        show Leaves _ _ _ _ _ _ _
        refine leaves_cons (f := 34) (args := #[.pointer (some ⟨g2, 0, none⟩), .pointer (some ⟨g2 + 1, 0, none⟩)]) (by simp) (by simp [go_sem]) ?_
        refine (read_catch ⟨g2, 0, none⟩ ⟨g2 + 1, 0, none⟩ _ _ 75 _ [] w9 p2 p3 q1 q2).mono ?_
        rintro e u' w'' ⟨rfl, rfl, rfl⟩
        have s1 := (h11.right.left.cell 0).trans (show _ = some (Value.slice none 0 0) from rfl)
        have s2 := (h11.left.cell 0).trans (show _ = some (Value.int .i64 30) from rfl)
        clear h10 h11 k1 hb11
        generalize (w9.setCell ⟨g2, 0, none⟩ (.slice none 0 0)).setCell ⟨g2 + 1, 0, none⟩ (.int .i64 30) = w12 at *
        simp [Leaves, settle, results, Try.results15, go_sem, s1, s2]
        rw [HNO.out]
        exact ⟨rfl, HR9.out, HB9.out⟩
      | true =>
        rw [hok] at hRt
        have HYE := Lib.hid (show rdRead l = some ps by rw [hfin, if_pos ⟨hln, hok⟩])
        clear hfin hrc hos hd hd2 hpl hb8 hL4 hlen hqb hmb hok hln hsz s1
        go_wp2_with fail
        refine hRt.mono ?_
        clear hRt
        rintro e w9 ⟨rfl, h9, hb9⟩
        clear c0 c9
        have k1 : sat w9 (blk g2 (.cells #[.slice ro pl rc] 22 (0, 0)) * (blk (g2 + 1) (.cells #[.int .i64 0] 24 (0, 0)) * (own 38 7 (.slice ro pl rc) pl css.flatten * (M * (blk (g2 + 1 + 1) (.cells #[.slice ao' 0 cap', .int .i64 q] 72 (0, 0)) * R))))) := h9.perm (by ac_rfl)
        have p2 := (k1.left.cell 0).trans (show _ = some (Value.slice ro pl rc) from rfl)
        have p3 := k1.left.frozen 0
        have k2 : sat (w9.setCell ⟨g2, 0, none⟩ (.slice ro pl rc)) (blk g2 (.cells #[.slice ro pl rc] 22 (0, 0)) * (blk (g2 + 1) (.cells #[.int .i64 0] 24 (0, 0)) * (own 38 7 (.slice ro pl rc) pl css.flatten * (M * (blk (g2 + 1 + 1) (.cells #[.slice ao' 0 cap', .int .i64 q] 72 (0, 0)) * R))))) := k1.setCell (off := 0) _
        have p4 := (k2.right.left.cell 0).trans (show _ = some (Value.int .i64 0) from rfl)
        have p5 := k2.right.left.frozen 0
        have k3 : sat ((w9.setCell ⟨g2, 0, none⟩ (.slice ro pl rc)).setCell ⟨g2 + 1, 0, none⟩ (.int .i64 0)) (blk (g2 + 1) (.cells #[.int .i64 0] 24 (0, 0)) * (blk g2 (.cells #[.slice ro pl rc] 22 (0, 0)) * (own 38 7 (.slice ro pl rc) pl css.flatten * (M * (blk (g2 + 1 + 1) (.cells #[.slice ao' 0 cap', .int .i64 q] 72 (0, 0)) * R))))) := (k2.perm (HP.left_comm _ _ _)).setCell (off := 0) _
        have hb3 : Below 0 w ((w9.setCell ⟨g2, 0, none⟩ (.slice ro pl rc)).setCell ⟨g2 + 1, 0, none⟩ (.int .i64 0)) := ((HF.out.2.2.2.2.1.trans hb9).setCell (p := ⟨g2, 0, none⟩) (Nat.zero_le _) _).setCell (p := ⟨g2 + 1, 0, none⟩) (Nat.zero_le _) _
        have HK := Lib.hid (And.intro k3 hb3)
        clear k1 k2 k3 hb3
        go_wp2_with fail
        show Leaves _ _ _ _ _ _ _
        refine leaves_cons (f := 34) (args := #[.pointer (some ⟨g2, 0, none⟩), .pointer (some ⟨g2 + 1, 0, none⟩)]) (by simp) (by simp [go_sem]) ?_
        refine (read_idle ⟨g2, 0, none⟩ ⟨g2 + 1, 0, none⟩ _).mono ?_
        rintro e u' w'' ⟨rfl, rfl, rfl⟩
        have s1 := (HK.out.1.right.left.cell 0).trans (show _ = some (Value.slice ro pl rc) from rfl)
        have s2 := (HK.out.1.left.cell 0).trans (show _ = some (Value.int .i64 0) from rfl)
        clear p2 p3 p4 p5
        generalize (w9.setCell ⟨g2, 0, none⟩ (.slice ro pl rc)).setCell ⟨g2 + 1, 0, none⟩ (.int .i64 0) = w12 at *
        simp [Leaves, settle, results, Try.results15, go_sem, s1, s2]
        rw [HYE.out]
        obtain ⟨f1, f2, f3, f4, f5, f6, f7, f8⟩ := HF.out
        refine ⟨ro, rc, css, M, by rw [f4], by rw [f4]; exact f2, f3, ?_, HK.out.2⟩
        rw [f4]
        have k5 := HK.out.1.right.right
        exact (k5.perm (show _ = blk (g2 + 1 + 1) _ * (own 38 7 (.slice ro pl rc) pl css.flatten * (M * R)) by ac_rfl)).right
    | succ m =>
      have hgt : decide (((m + 1 : Nat) : Int) > 0) = true := by rw [decide_eq_true_eq]; omega
      obtain ⟨mi, hmi⟩ : ∃ x : Int, ((m + 1 : Nat) : Int) = x := ⟨_, rfl⟩
      rw [hmi] at hgt ⊢
      have hdec2 : IntKind.i64.wrap (mi - 1) = mi - 1 := IntWalk.i64_in _ (by omega)
      have hpl := prSizes_len ps
      obtain ⟨FF, hFF⟩ : ∃ FF : HP, FF = own 38 7 (.slice ro ps.length rc) ps.length css.flatten * (M * (blk (g2 + 1) (.cells #[.int .i64 0] 24 (0, 0)) * (blk g2 (.cells #[.slice ro ps.length rc] 22 (0, 0)) * R))) := ⟨_, rfl⟩
      rw [← hFF] at h8
      have hF5 : ∀ w', sat w' FF → w'.cell? ⟨g2, 0, none⟩ = some (.slice ro ps.length rc) := fun w' h => by rw [hFF] at h; exact (h.right.right.right.left.cell 0).trans rfl
      have hC := fun (w' : World) (h : RdAt w' R FF (g2 + 1 + 1) l4 q) => rd_proto w' R FF (g2 + 1 + 1) l4 q h hqb (by omega)
      cases hr : rdProto q l4 with
      | none =>
        rw [hr] at hC
        have hno : rdRead l = none := by rw [HRE.out.1, hrd, joinM_no hr]; rfl
        have HNO := Lib.hid (And.intro hno (And.intro hFF hb8))
        have c5 := hF5 wr h8.fr
        have c5d := hF5 wr.drew h8.fr
        have HC := Lib.hid (And.intro hC (show RdAt wr.drew R FF (g2 + 1 + 1) l4 q from h8))
        clear hno hr hrd hlen h8 hb8 hFF hF5 hC hos hpl HRE
        go_wp2_with fail
        refine wp_region_held_drew (S := fun w' => w'.cell? ⟨g2, 0, none⟩ = some (.slice ro ps.length rc)) (by kernel_rfl) ?hS900 (fun hHeld => ?rest900)
        case hS900 => exact c5d
        refine wpAnyH_take (i := 0) (oi := { dst := some 21, op := _, type := _, pos := _, after := _, guard := _ }) (v := ?v901) rfl (by kernel_rfl) (by kernel_rfl) (by kernel_rfl) (fun c a w h => leaves_put (read_put a.tmps 21 _ (by decide)) a.defers (.panicking c) w h) (Or.inl ⟨by rfl, ?hy901⟩) hHeld ?rest901
        case hy901 => (intro w hSw; (try dsimp only at hSw); first | (go_simp; done) | (go_simp; with_reducible rfl))
        simp only [Act.put, List.setIfInBounds_toArray, List.set_cons_zero, List.set_cons_succ]
        refine wpAnyH_take (i := 1) (oi := { dst := some 22, op := _, type := _, pos := _, after := _, guard := _ }) (v := ?v902) rfl (by kernel_rfl) (by kernel_rfl) (by kernel_rfl) (fun c a w h => leaves_put (read_put a.tmps 22 _ (by decide)) a.defers (.panicking c) w h) (Or.inl ⟨by rfl, ?hy902⟩) hHeld ?rest902
        case hy902 => (intro w hSw; (try dsimp only at hSw); first | (go_simp; done) | (go_simp; with_reducible rfl))
        simp only [Act.put, List.setIfInBounds_toArray, List.set_cons_zero, List.set_cons_succ]
        refine wpAnyH_ready (rs := [2]) (by kernel_rfl) (by simp) ?_
        refine AllReadyH.cons (o := { dst := some 23, op := _, type := _, pos := _, after := _, guard := _ }) rfl (fun K hK => ?step950) ?more950
        case more950 => exact AllReadyH.nil
        clear hHeld
        go_simp
        go_at_call 37
        refine (HC.out.1 _ HC.out.2).mono ?_
        rintro e w9 ⟨rfl, h9, hb9⟩
        unfold cutE
        dsimp only
        rw [HNO.out.2.1] at h9
        have hb10 := HNO.out.2.2.drew.trans hb9

        have k1 : sat w9 (blk (g2 + 1) (.cells #[.int .i64 0] 24 (0, 0)) * (blk g2 (.cells #[.slice ro ps.length rc] 22 (0, 0)) * (own 38 7 (.slice ro ps.length rc) ps.length css.flatten * (M * R)))) := (h9.perm (show _ = _ * (_ * (own 38 7 (.slice ro ps.length rc) ps.length css.flatten * (M * R))) by ac_rfl))
        have p2 := (k1.right.left.cell 0).trans (show _ = some (Value.slice ro ps.length rc) from rfl)
        have p3 := k1.right.left.frozen 0
        have h10 : sat (w9.setCell ⟨g2, 0, none⟩ (.slice none 0 0)) (blk g2 (.cells #[.slice none 0 0] 22 (0, 0)) * (blk (g2 + 1) (.cells #[.int .i64 0] 24 (0, 0)) * (own 38 7 (.slice ro ps.length rc) ps.length css.flatten * (M * R)))) := (k1.perm (HP.left_comm _ _ _)).setCell (off := 0) _
        have h11 : sat ((w9.setCell ⟨g2, 0, none⟩ (.slice none 0 0)).setCell ⟨g2 + 1, 0, none⟩ (.int .i64 30)) (blk (g2 + 1) (.cells #[.int .i64 30] 24 (0, 0)) * (blk g2 (.cells #[.slice none 0 0] 22 (0, 0)) * (own 38 7 (.slice ro ps.length rc) ps.length css.flatten * (M * R)))) := (h10.perm (HP.left_comm _ _ _)).setCell (off := 0) _
        have q1 := (h10.right.left.cell 0).trans (show _ = some (Value.int .i64 0) from rfl)
        have q2 := h10.right.left.frozen 0
        have hb11 : Below 0 w ((w9.setCell ⟨g2, 0, none⟩ (.slice none 0 0)).setCell ⟨g2 + 1, 0, none⟩ (.int .i64 30)) := ((hb10).setCell (p := ⟨g2, 0, none⟩) (Nat.zero_le _) _).setCell (p := ⟨g2 + 1, 0, none⟩) (Nat.zero_le _) _
        have HR9 := Lib.hid (show sat ((w9.setCell ⟨g2, 0, none⟩ (.slice none 0 0)).setCell ⟨g2 + 1, 0, none⟩ (.int .i64 30)) R from h11.right.right.right.right)
        have HB9 := Lib.hid hb11
        show Leaves _ _ _ _ _ _ _
        refine leaves_cons (f := 34) (args := #[.pointer (some ⟨g2, 0, none⟩), .pointer (some ⟨g2 + 1, 0, none⟩)]) (by simp) (by simp [go_sem]) ?_
        refine (read_catch ⟨g2, 0, none⟩ ⟨g2 + 1, 0, none⟩ _ _ 75 _ [] w9 p2 p3 q1 q2).mono ?_
        rintro e u' w'' ⟨rfl, rfl, rfl⟩
        have s1 := (h11.right.left.cell 0).trans (show _ = some (Value.slice none 0 0) from rfl)
        have s2 := (h11.left.cell 0).trans (show _ = some (Value.int .i64 30) from rfl)
        clear h10 h11 k1 hb11
        generalize (w9.setCell ⟨g2, 0, none⟩ (.slice none 0 0)).setCell ⟨g2 + 1, 0, none⟩ (.int .i64 30) = w12 at *
        simp [Leaves, settle, results, Try.results15, go_sem, s1, s2]
        rw [HNO.out.1]
        exact ⟨rfl, HR9.out, HB9.out⟩
      | some r =>
        obtain ⟨x, q1, l5⟩ := r
        have hxb := rdProto_bd hr
        have hxz : 1 ≤ x.size := by unfold Pr.size; omega
        rw [hr] at hC
        have o1 : ∀ (w3 : World) (M2 : HP) (v0 v1 v2 v3 v4 v5 v6 : Value), RdAt w3 R (M2 * FF) (g2 + 1 + 1) l5 q1 →
            w3.cell? ⟨g2, 0, none⟩ = some (.slice ro ps.length rc) ∧ (w3.alloc (prO [v0, v1, v2, v3, v4, v5, v6])).cell? ⟨g2, 0, none⟩ = some (.slice ro ps.length rc) ∧
            (∀ (j' : Nat) u, [v0, v1, v2, v3, v4, v5, v6][j']? = some u → (w3.alloc (prO [v0, v1, v2, v3, v4, v5, v6])).cell? ((⟨w3.heap.size, 0, none⟩ : Addr).add j') = some u) ∧
            ∃ ao cap, sat (w3.alloc (prO [v0, v1, v2, v3, v4, v5, v6])) (own 38 7 (.slice ro ps.length rc) ps.length css.flatten * (blk w3.heap.size (prO [v0, v1, v2, v3, v4, v5, v6]) * (blk (g2 + 1 + 1) (.cells #[.slice ao l5.length cap, .int .i64 q1] 72 (0, 0)) * (blk g2 (.cells #[.slice ro ps.length rc] 22 (0, 0)) * ((M2 * M) * (blk (g2 + 1) (.cells #[.int .i64 0] 24 (0, 0)) * R)))))) ∧ l5.length ≤ cap ∧ (∀ w', sat w' R → CellsAt w' ao (l5.map bv)) ∧ Bytes l5 := by
          rintro w3 M2 v0 v1 v2 v3 v4 v5 v6 ⟨ao, cap, q1', q2, q3, q4, q5⟩
          have h2 := q1'.alloc (prO [v0, v1, v2, v3, v4, v5, v6])
          refine ⟨hF5 _ q1'.right.right, hF5 _ h2.right.right.right, ?_, ao, cap, h2.perm (by rw [hFF]; ac_rfl), q2, q3, q4⟩
          intro j' u hu
          rw [show ((⟨w3.heap.size, 0, none⟩ : Addr).add j') = ⟨w3.heap.size, j', none⟩ by unfold Addr.add; split <;> simp_all, h2.left.cell j', ← hu]
          simp
        have o2 : ∀ (w9 : World) (bl : Nat) (o o2 : Obj) (b7 c7 : Nat) (xs : List Value) (X : HP), sat w9 (row 38 7 b7 c7 xs * (blk bl o * (blk (g2 + 1 + 1) o2 * (blk g2 (.cells #[.slice ro ps.length rc] 22 (0, 0)) * X)))) →
            w9.cell? ⟨g2, 0, none⟩ = some (.slice ro ps.length rc) ∧ w9.frozen? ⟨g2, 0, none⟩ = false := fun w9 bl o o2 b7 c7 xs X h => ⟨(h.right.right.right.left.cell 0).trans rfl, h.right.right.right.left.frozen 0⟩
        have c5 := hF5 wr h8.fr
        have HO := Lib.hid (And.intro o1 o2)
        have HR := Lib.hid (And.intro (hrd.trans (joinM_next hr)) (And.intro hlen (And.intro hos (And.intro hb8 (And.intro hxb (And.intro hmi (And.intro hmb (And.intro hqb (And.intro hpl hxz)))))))))
        have HC := Lib.hid (And.intro hC (show RdAt wr.drew R FF (g2 + 1 + 1) l4 q from h8))
        clear o1 o2 hr hrd hlen h8 hb8 hFF hF5 hC hos hxb hmi hmb hqb hpl hxz
        go_wp2_with fail
        first | (go_region_law
          (first
            | (go_simp; go_at_call 37; refine (HC.out.1 _ HC.out.2).mono ?_; rintro e w3' ⟨cs2, M2, rfl, hdk2, h3, hb3⟩; obtain ⟨⟨v0, v1, v2, v3, v4, v5, v6, rfl⟩, hone⟩ := hdk2.seven2; obtain ⟨y1, y2, y3, ao, cap, y4, y5, y6, y7⟩ := HO.out.1 w3' M2 v0 v1 v2 v3 v4 v5 v6 h3)
            | (refine step_append_sat rfl (.tmp 21) (.tmp 24) 22 rfl 38 i0 zeroPr 7 112 Try.underlying22 HI.out.1 HI.out.2.1 HI.out.2.2.1 HI.out.2.2.2 rfl _ ps.length css.flatten (by rfl) _ y4 ⟨w3'.heap.size, 0, none⟩ 1 1 [v0, v1, v2, v3, v4, v5, v6] (by rfl) rfl y3 hone (by have := HR.out.2.1; have := HR.out.2.2.2.2.2.2.2.2.1; omega) (by have := HR.out.2.1; have := HR.out.2.2.2.2.2.2.2.2.1; unfold maxLen; omega) (by omega) ?_; intro b7 c7 w9 hs9 hc9 hb9; obtain ⟨z5, z6⟩ := HO.out.2 _ _ _ _ _ _ _ _ hs9))) | fail
        all_goals (
          have hs10 : sat w9 (blk g2 (.cells #[.slice ro ps.length rc] 22 (0, 0)) * (blk (g2 + 1 + 1) (.cells #[.slice ao l5.length cap, .int .i64 q1] 72 (0, 0)) * (row 38 7 b7 c7 (css.flatten ++ [v0, v1, v2, v3, v4, v5, v6]) * ((M2 * M) * (blk (g2 + 1) (.cells #[.int .i64 0] 24 (0, 0)) * R))))) := (show sat w9 (blk w3'.heap.size (prO [v0, v1, v2, v3, v4, v5, v6]) * _) from hs9.perm (by ac_rfl)).right
          have hs11 : sat (w9.setCell ⟨g2, 0, none⟩ (.slice (some ⟨b7, 0, none⟩) (ps.length + 1) c7)) (blk g2 (.cells #[.slice (some ⟨b7, 0, none⟩) (ps.length + 1) c7] 22 (0, 0)) * (blk (g2 + 1 + 1) (.cells #[.slice ao l5.length cap, .int .i64 q1] 72 (0, 0)) * (row 38 7 b7 c7 (css.flatten ++ [v0, v1, v2, v3, v4, v5, v6]) * ((M2 * M) * (blk (g2 + 1) (.cells #[.int .i64 0] 24 (0, 0)) * R))))) := hs10.setCell (off := 0) _
          have hb11 : Below 0 w (w9.setCell ⟨g2, 0, none⟩ (.slice (some ⟨b7, 0, none⟩) (ps.length + 1) c7)) := (((HR.out.2.2.2.1.drew.trans hb3).trans (Below.zero_alloc _ _)).trans hb9).setCell (p := ⟨g2, 0, none⟩) (Nat.zero_le _) _
          have HF := Lib.hid (And.intro hs11 (And.intro hb11 (And.intro hdk2 (And.intro hc9 (And.intro y5 (And.intro y6 y7))))))
          clear hs9 hs10 hs11 hb11 hb3 hb9 h3 y1 y2 y3 y4 y5 y6 y7 z5 z6 hdk2 hc9 hone HO HC
          go_wp2_with fail
          go_roundw
          case rel =>
            obtain ⟨g1, g2', g3, g4', g5', g6, g7⟩ := HF.out
            obtain ⟨x1, x2, x3, x4, x5, x6, x7, x8, x9, x10⟩ := HR.out
            have hln : (ps ++ [x]).length = ps.length + 1 := by simp
            have hpz : prSizes (ps ++ [x]) = prSizes ps + x.size := by unfold prSizes; simp
            refine ⟨m, ps ++ [x], q1, l5, some ⟨b7, 0, none⟩, c7, css ++ [[v0, v1, v2, v3, v4, v5, v6]], M2 * M, ?_, by omega, x1, by rw [hpz]; omega, by omega, x3.snoc g3, ?_, g2'⟩
            · congr 1; omega
            · rw [hln, List.flatten_append, List.flatten_cons, List.flatten_nil, List.append_nil]
              have hfl : (css.flatten ++ [v0, v1, v2, v3, v4, v5, v6]).length = (ps.length + 1) * 7 := by
                rw [List.length_append, flat7 x3.seven, x3.len]
                show _ + 7 = _
                omega
              have g8 := sat.shut_own (n := ps.length + 1) hfl g4' (g1.perm (show _ = row 38 7 b7 c7 _ * (blk g2 (.cells #[.slice (some ⟨b7, 0, none⟩) (ps.length + 1) c7] 22 (0, 0)) * (blk (g2 + 1 + 1) _ * ((M2 * M) * (blk (g2 + 1) (.cells #[.int .i64 0] 24 (0, 0)) * R)))) by ac_rfl))
              exact ⟨ao, cap, g8.perm (by ac_rfl), g5', g6, g7, fun w' h => h.right.right.right.right⟩
          case measure =>
            have := HR.out.2.2.2.2.2.1
            simp [intOf]; omega)
end Go.Proofs.Ytkjfplldfjmbaaa
