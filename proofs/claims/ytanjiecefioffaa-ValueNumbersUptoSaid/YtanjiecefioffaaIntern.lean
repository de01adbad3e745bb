/- value.Store: Intern. -/
import Derived.Test.YtanjiecefioffaaStoreText
import Derived.Test.YtanjiecefioffaaSep3
import Derived.Laws.IdiomStrings
namespace Go.Proofs.Ytanjiecefioffaa
open Go.RowKit

def bytesOf (s : ByteArray) : List Int := s.data.toList.map fun b => (b.toNat : Int)
theorem bytesOf_len (s : ByteArray) : (bytesOf s).length = s.size := by unfold bytesOf; rw [List.length_map, Array.length_toList]; rfl
theorem bytesOf_u (s : ByteArray) : Bytes (bytesOf s) := by
  intro x hx
  unfold bytesOf at hx
  obtain ⟨b, _, rfl⟩ := List.mem_map.1 hx
  have := b.toNat_lt
  omega
theorem bytesRow_in {R : HP} (s : ByteArray) (bo cap e : Nat) (fr : Nat × Nat) : BytesIn (blk bo (.cells (bytesRow s cap) e fr) * R) (some ⟨bo, 0, none⟩) (bytesOf s) := by
  intro w hs j x hj
  refine ⟨⟨bo, 0, none⟩, rfl, ?_⟩
  have ha : ((⟨bo, 0, none⟩ : Addr).add j) = ⟨bo, j, none⟩ := by unfold Addr.add; split <;> simp_all
  rw [ha, hs.left.cell j]
  have h1 := (List.getElem?_eq_some_iff.1 hj).1
  rw [bytesOf_len] at h1
  unfold bytesRow
  unfold bytesOf at hj
  rw [List.getElem?_map] at hj
  rw [Array.getElem?_append_left (by rw [Array.size_map]; exact h1), Array.getElem?_map]
  rw [Array.getElem?_toList] at hj
  cases hq : s.data[j]? with
  | none => rw [hq] at hj; cases hj
  | some b => rw [hq] at hj; simp at hj; simp [hj]

theorem zero_u64 (w : World) : (zeroValue 22).run Try.prog w = .ok (.int .u64 0) w := by kernel_rfl

theorem words_str {w : World} {R : HP} (hs : sat w R) (ao : Option Addr) (cap n : Nat) (b : List Int) (hx : BytesIn R ao b) (hb : Bytes b) (hl : b.length = n) (hn : n ≤ 140737488355328) :
    Calls Try.prog 55 #[.slice ao n cap] w fun e w' => ∃ bo, e = .returned (.slice (some ⟨bo, 0, none⟩) (wordsOf b).length (wordsOf b).length) ∧ sat w' (row 22 1 bo (wordsOf b).length ((wordsOf b).map Go.Proofs.Ytanjiecefioffaa.u64) * R) ∧ Below 0 w w' := by
  subst hl
  exact words_any hs ao cap b hx hb hn

/-- Is there room for a new symbol? -/
def symOk (S : HS) (b : List Int) : Bool := decide ((b.length / 8 : Nat) ≤ S.size) && decide ((1 : Int) + (wordsOf b).length + 2 ≤ (S.size : Int) - S.ws.length)
def HS.sym (S : HS) (b : List Int) : HS := (S.text b).part 4 1 0 2 [4 * (S.ws.length : Int)] 1

section
variable {w : World} {X : StV} {V : HV} {S : HS} {Y : StS} {R : HP}
set_option maxRecDepth 100000 in
set_option maxHeartbeats 1000000 in
theorem StW.Intern_old (h : StW w X V S Y R) (ht : Y.tm = S.times) (s : ByteArray) (v : Int) (hv : Y.syms.get s = some v) :
    Calls Try.prog 23 #[.pointer (some ⟨X.g, 0, none⟩), .string s] w (Says (.tuple #[.int .u64 v, .bool true]) w) := by
  have hK := h.known ht
  have hm : sat w (mapS X.mb Y.syms * (own 9 1 X.ov Y.ord.length (Y.ord.map .string) * (Go.Proofs.Ytanjiecefioffaa.blk X.g (.cells #[.pointer (some ⟨V.g, 0, none⟩), .map (some X.mb), X.ov, i64 Y.tm] 41 (0, 0)) * (isHeap V S * R)))) := by
    have h1 := h.s
    unfold isSt at h1
    exact h1.perm (by ac_rfl)
  have hlk : ∀ n, (Instr.lookup 38 (.map (some X.mb)) (.string s) true).run Try.prog (w.drewN n) = .ok (.tuple #[.int .u64 v, .bool true]) (w.drewN n) := fun n => by
    have h1 := run_lookup_str (P := Try.prog) (hm.drewN n) Try.underlying38 Try.underlying9 (zero_u64 _) s
    rw [hv] at h1
    exact h1
  clear h ht hv hm
  go_enter Try.func23, Try.ntmps23
  go_wp2_with fail
  refine hK.mono ?_
  rintro e w' ⟨rfl, j, rfl⟩
  go_wp2_with fail
  go_ret2
  exact ⟨rfl, j, rfl⟩
theorem StW.syms (h : StW w X V S Y R) : sat w (mapS X.mb Y.syms * (own 9 1 X.ov Y.ord.length (Y.ord.map .string) * (Go.Proofs.Ytanjiecefioffaa.blk X.g (.cells #[.pointer (some ⟨V.g, 0, none⟩), .map (some X.mb), X.ov, i64 Y.tm] 41 (0, 0)) * (isHeap V S * R)))) := by
  have h1 := h.s
  unfold isSt at h1
  exact h1.perm (by ac_rfl)

set_option maxRecDepth 100000 in
set_option maxHeartbeats 1000000 in
theorem StW.Intern_big (h : StW w X V S Y R) (ht : Y.tm = S.times) (s : ByteArray) (hv : Y.syms.get s = none) (hn : s.size ≤ 140737488355328) (hbig : S.size < s.size / 8) :
    Calls Try.prog 23 #[.pointer (some ⟨X.g, 0, none⟩), .string s] w (Says (.tuple #[.int .u64 0, .bool false]) w) := by
  have c0 := h.c0
  have hK := h.known ht
  have hlk : ∀ n, (Instr.lookup 38 (.map (some X.mb)) (.string s) true).run Try.prog (w.drewN n) = .ok (.tuple #[.int .u64 0, .bool false]) (w.drewN n) := fun n => by
    have h1 := run_lookup_str (P := Try.prog) (h.syms.drewN n) Try.underlying38 Try.underlying9 (zero_u64 _) s
    rw [hv] at h1
    exact h1
  have e2 : decide ((S.size : Int) < (s.size : Int) / 8) = true := by rw [decide_eq_true_eq]; omega
  have hS := fun n : Nat => (h.drewN n).hw.v.Size
  clear h ht hv hbig
  go_enter Try.func23, Try.ntmps23
  go_wp2_with fail
  refine hK.mono ?_
  rintro e w' ⟨rfl, j, rfl⟩
  go_wp2_with fail
  refine (hS j).mono ?_
  rintro e w' ⟨rfl, j2, rfl⟩
  go_wp2_with fail
  go_ret2
  exact ⟨rfl, j + j2, rfl⟩

set_option maxRecDepth 100000 in
set_option maxHeartbeats 1000000 in
theorem StW.Intern_full (h : StW w X V S Y R) (ht : Y.tm = S.times) (s : ByteArray) (hv : Y.syms.get s = none) (hn : s.size ≤ 140737488355328) (hsm : s.size / 8 ≤ S.size) (hno : symOk S (bytesOf s) = false) :
    Calls Try.prog 23 #[.pointer (some ⟨X.g, 0, none⟩), .string s] w (StLaid X V.g S Y R 0 false w) := by
  have c0 := h.c0
  have hK := h.known ht
  have hlk : ∀ n, (Instr.lookup 38 (.map (some X.mb)) (.string s) true).run Try.prog (w.drewN n) = .ok (.tuple #[.int .u64 0, .bool false]) (w.drewN n) := fun n => by
    have h1 := run_lookup_str (P := Try.prog) (h.syms.drewN n) Try.underlying38 Try.underlying9 (zero_u64 _) s
    rw [hv] at h1
    exact h1
  have hcv := fun w s => run_bytes_of_string (P := Try.prog) w 9 44 5 s Try.underlying9 Try.underlying44 Try.underlying5
  have e2 : decide ((S.size : Int) < (s.size : Int) / 8) = false := by rw [decide_eq_false_iff_not]; omega
  have hS := fun n : Nat => (h.drewN n).hw.v.Size
  have hul := h.ok.used
  have hsz := h.ok.hi
  have hlw := wordsOf_len (bytesOf s)
  rw [bytesOf_len] at hlw
  have e3 : decide ((1 : Int) + (wordsOf (bytesOf s)).length + 2 ≤ (S.size : Int) - S.ws.length) = false := by
    unfold symOk at hno
    rw [bytesOf_len, decide_eq_true hsm] at hno
    simpa using hno
  have HH := Lib.hid (And.intro h (And.intro hlw e3))
  clear h ht hv hsm hno hlw e3
  go_enter Try.func23, Try.ntmps23
  go_wp2_with fail
  refine hK.mono ?_
  rintro e w' ⟨rfl, j, rfl⟩
  go_wp2_with fail
  refine (hS j).mono ?_
  rintro e w' ⟨rfl, j2, rfl⟩
  go_wp2_with fail
  have hs1 := (HH.out.1.drewN (j + j2 + 1)).s.alloc (.cells (bytesRow s (grownCap (w.drewN (j + j2)) s.size 0 5)) 5 ((bytesRow s (grownCap (w.drewN (j + j2)) s.size 0 5)).size, (bytesRow s (grownCap (w.drewN (j + j2)) s.size 0 5)).size + 1))
  refine (words_str hs1 _ _ _ (bytesOf s) (bytesRow_in s _ _ _ _) (bytesOf_u s) (bytesOf_len s) hn).mono ?_
  rintro e w2 ⟨bo, rfl, hs2, hb2⟩
  have hb3 : Below 0 w w2 := ((drewN_below0 w (j + j2 + 1)).trans (Below.zero_alloc _ _)).trans hb2
  have h2 : StW w2 X V S Y R := StW.drop (StW.drop (Q := row 22 1 bo (wordsOf (bytesOf s)).length ((wordsOf (bytesOf s)).map Go.Proofs.Ytanjiecefioffaa.u64)) ⟨hs2.perm (by ac_rfl), HH.out.1.ok⟩)
  have hR := h2.room (1 + (wordsOf (bytesOf s)).length + 2)
  rw [HH.out.2.2] at hR
  have g1 : IntKind.i64.wrap (1 + ((wordsOf (bytesOf s)).length : Int)) = 1 + ((wordsOf (bytesOf s)).length : Int) := IntWalk.i64_in _ (by have := HH.out.2.1; omega)
  have g2 : IntKind.i64.wrap (1 + ((wordsOf (bytesOf s)).length : Int) + 2) = 1 + ((wordsOf (bytesOf s)).length : Int) + 2 := IntWalk.i64_in _ (by have := HH.out.2.1; omega)
  have HF := Lib.hid (And.intro h2 hb3)
  clear hs1 hs2 hb2 h2 hb3 hS hK hlk
  go_wp2_with fail
  refine hR.mono ?_
  rintro e w3 ⟨rfl, j3, rfl⟩
  go_wp2_with fail
  go_ret2
  exact ⟨rfl, HF.out.2.trans (drewN_below0 _ _), V, rfl, HF.out.1.drewN _⟩
end

/-- The store with a new symbol. -/
def StS.sym (Y : StS) (s : ByteArray) (p : Int) : StS := ⟨Y.syms ++ [(s, p)], Y.ord ++ [s], Y.tm⟩
def SymDone (X : StV) (g : Nat) (S' : HS) (Y' : StS) (R : HP) (p : Int) (ok : Bool) (w : World) (e : Ending) (w' : World) : Prop :=
  e = .returned (.tuple #[.int .u64 p, .bool ok]) ∧ Below 0 w w' ∧ ∃ (X' : StV) (V' : HV), X'.g = X.g ∧ X'.mb = X.mb ∧ V'.g = g ∧ StW w' X' V' S' Y' R
theorem info_string : (Try.prog.info? 9).map (fun i => (i.zero, i.size, i.bytes)) = some (some (.string ⟨#[]⟩), 1, 16) := by kernel_rfl
theorem one_word {R : HP} {bo e : Nat} {x : Int} : WordsIn (Go.Proofs.Ytanjiecefioffaa.blk bo (.cells #[.int .u64 x] e (0, 0)) * R) (some ⟨bo, 0, none⟩) [x] := by
  intro w hs j y hj
  match j, hj with
  | 0, hj =>
    simp at hj
    subst hj
    exact ⟨_, rfl, (hs.left.cell 0).trans rfl⟩
theorem text_len (S : HS) (b : List Int) : (S.text b).ws.length = S.ws.length + 1 + (wordsOf b).length ∧ (S.text b).size = S.size ∧ (S.text b).times = S.times := by
  unfold HS.text HS.part
  simp
  omega
theorem symOk_text {S : HS} {b : List Int} (h : symOk S b = true) (hi : S.size ≤ 1048576) : textOk S b = true := by
  unfold symOk at h
  rw [Bool.and_eq_true, decide_eq_true_eq, decide_eq_true_eq] at h
  unfold textOk HS.room
  simp only [Bool.and_eq_true, decide_eq_true_eq]
  omega
theorem symOk_room {S : HS} {b : List Int} (h : symOk S b = true) : (S.text b).room 4 1 0 = true := by
  unfold symOk at h
  rw [Bool.and_eq_true, decide_eq_true_eq, decide_eq_true_eq] at h
  obtain ⟨h1, h2, _⟩ := text_len S b
  unfold HS.room
  simp only [Bool.and_eq_true, decide_eq_true_eq]
  rw [h1, h2]
  omega
theorem text_may {S : HS} (hl : S.bs.length = S.ws.length) (b : List Int) : (S.text b).may (4 * (S.ws.length : Int)) = true := by
  have h := part_is hl 3 0 (wordsOf b).length 0 (wordsOf b) (wordsOf b).length
  unfold HS.may mayB
  rw [Bool.or_eq_true]
  exact .inr h
theorem symOk_size {S : HS} {b : List Int} (h : symOk S b = true) : b.length / 8 ≤ S.size := by
  unfold symOk at h
  rw [Bool.and_eq_true] at h
  exact of_decide_eq_true h.1

section
variable {w : World} {X : StV} {V : HV} {S : HS} {Y : StS} {R : HP}
set_option maxRecDepth 100000 in
set_option maxHeartbeats 1000000 in
theorem StW.Intern_new (h : StW w X V S Y R) (ht : Y.tm = S.times) (s : ByteArray) (hv : Y.syms.get s = none) (hn : s.size ≤ 140737488355328) (hok : symOk S (bytesOf s) = true) (hol : Y.ord.length ≤ 4294967296) :
    Calls Try.prog 23 #[.pointer (some ⟨X.g, 0, none⟩), .string s] w (SymDone X V.g (S.sym (bytesOf s)) (Y.sym s (4 * ((S.text (bytesOf s)).ws.length : Int))) R (4 * ((S.text (bytesOf s)).ws.length : Int)) true w) := by
  have c0 := h.c0
  have hK := h.known ht
  have hlk : ∀ n, (Instr.lookup 38 (.map (some X.mb)) (.string s) true).run Try.prog (w.drewN n) = .ok (.tuple #[.int .u64 0, .bool false]) (w.drewN n) := fun n => by
    have h1 := run_lookup_str (P := Try.prog) (h.syms.drewN n) Try.underlying38 Try.underlying9 (zero_u64 _) s
    rw [hv] at h1
    exact h1
  have hcv := fun w s => run_bytes_of_string (P := Try.prog) w 9 44 5 s Try.underlying9 Try.underlying44 Try.underlying5
  have hsm := symOk_size hok
  rw [bytesOf_len] at hsm
  have e2 : decide ((S.size : Int) < (s.size : Int) / 8) = false := by rw [decide_eq_false_iff_not]; omega
  have hS := fun n : Nat => (h.drewN n).hw.v.Size
  have hul := h.ok.used
  have hsz := h.ok.hi
  have hlw := wordsOf_len (bytesOf s)
  rw [bytesOf_len] at hlw
  have e3 : decide ((1 : Int) + (wordsOf (bytesOf s)).length + 2 ≤ (S.size : Int) - S.ws.length) = true := by
    unfold symOk at hok
    rw [Bool.and_eq_true] at hok
    exact hok.2
  have HH := Lib.hid (And.intro h (And.intro hlw (And.intro e3 (And.intro hok (And.intro hv hol)))))
  clear h ht hv hsm hok hlw e3 hol
  go_enter Try.func23, Try.ntmps23
  go_wp2_with fail
  refine hK.mono ?_
  rintro e w' ⟨rfl, j, rfl⟩
  go_wp2_with fail
  refine (hS j).mono ?_
  rintro e w' ⟨rfl, j2, rfl⟩
  go_wp2_with fail
  have hs1 := (HH.out.1.drewN (j + j2 + 1)).s.alloc (.cells (bytesRow s (grownCap (w.drewN (j + j2)) s.size 0 5)) 5 ((bytesRow s (grownCap (w.drewN (j + j2)) s.size 0 5)).size, (bytesRow s (grownCap (w.drewN (j + j2)) s.size 0 5)).size + 1))
  refine (words_str hs1 _ _ _ (bytesOf s) (bytesRow_in s _ _ _ _) (bytesOf_u s) (bytesOf_len s) hn).mono ?_
  rintro e w2 ⟨bo, rfl, hs2, hb2⟩
  have hb3 : Below 0 w w2 := ((drewN_below0 w (j + j2 + 1)).trans (Below.zero_alloc _ _)).trans hb2
  have h2 : StW w2 X V S Y R := StW.drop (StW.drop (Q := row 22 1 bo (wordsOf (bytesOf s)).length ((wordsOf (bytesOf s)).map Go.Proofs.Ytanjiecefioffaa.u64)) ⟨hs2.perm (by ac_rfl), HH.out.1.ok⟩)
  have hR := h2.room (1 + (wordsOf (bytesOf s)).length + 2)
  rw [HH.out.2.2.1] at hR
  have g1 : IntKind.i64.wrap (1 + ((wordsOf (bytesOf s)).length : Int)) = 1 + ((wordsOf (bytesOf s)).length : Int) := IntWalk.i64_in _ (by have := HH.out.2.1; omega)
  have g2 : IntKind.i64.wrap (1 + ((wordsOf (bytesOf s)).length : Int) + 2) = 1 + ((wordsOf (bytesOf s)).length : Int) + 2 := IntWalk.i64_in _ (by have := HH.out.2.1; omega)
  have HF := Lib.hid (And.intro h2 hb3)
  clear hs1 hs2 hb2 h2 hb3 hS hK hlk
  go_wp2_with fail
  refine hR.mono ?_
  rintro e w3 ⟨rfl, j3, rfl⟩
  go_wp2_with fail
  have hs4 := (HF.out.1.drewN (j3 + 1)).s.alloc (.cells (bytesRow s (grownCap (w2.drewN j3) s.size 0 5)) 5 ((bytesRow s (grownCap (w2.drewN j3) s.size 0 5)).size, (bytesRow s (grownCap (w2.drewN j3) s.size 0 5)).size + 1))
  have h4 : StW _ X V S Y _ := ⟨hs4.perm (Q := isHeap V S * (isSt X V.g Y * (_ * R))) (by ac_rfl), HF.out.1.ok⟩
  have hT := h4.Text_yes (some ⟨w2.heap.size, 0, none⟩) (grownCap (w2.drewN j3) s.size 0 5) (bytesOf s) (bytesRow_in s _ _ _ _) (bytesOf_u s) (by rw [bytesOf_len]; exact hn) (symOk_text HH.out.2.2.2.1 hsz)
  rw [bytesOf_len] at hT
  clear hs4 h4
  refine hT.mono ?_
  rintro e w5 ⟨rfl, hb5, V5, hg5, h5⟩
  have HG := Lib.hid (And.intro hg5 (And.intro h5.drop ((HF.out.2.trans (drewN_below0 w2 (j3 + 1))).trans ((Below.zero_alloc _ _).trans hb5))))
  clear hT h5 hb5 hg5
  go_wp2_with fail
  have hs6 := HG.out.2.1.s.alloc (.cells #[.int .u64 (4 * (S.ws.length : Int))] 22)
  have h6 : StW (w5.alloc (.cells #[.int .u64 (4 * (S.ws.length : Int))] 22)) X V5 (S.text (bytesOf s)) Y (Go.Proofs.Ytanjiecefioffaa.blk w5.heap.size (.cells #[.int .u64 (4 * (S.ws.length : Int))] 22 (0, 0)) * R) := ⟨hs6.perm (by ac_rfl), HG.out.2.1.ok⟩
  have hL := h6.lay_yes 4 (some ⟨w5.heap.size, 0, none⟩) 1 [4 * (S.ws.length : Int)] one_word (by intro x hx; simp at hx; subst hx; omega) (by simp [text_may HH.out.1.ok.wf.len]) (symOk_room HH.out.2.2.2.1)
  clear hs6 h6
  refine hL.mono ?_
  rintro e w7 ⟨rfl, hb7, V7, hg7, h7⟩
  clear hL
  have h7' : StW w7 X V7 (S.sym (bytesOf s)) Y R := h7.drop
  have hb8 := HG.out.2.2.trans ((Below.zero_alloc _ _).trans hb7)
  obtain ⟨w8, hr8, hs8, hb9⟩ := run_store_str (P := Try.prog) h7'.syms Try.underlying38 Try.underlying9 s (4 * ((S.text (bytesOf s)).ws.length : Int)) HH.out.2.2.2.2.1
  have c7 := h7'.c1
  have c8 := (hs8.right.right.left.cell 2).trans rfl
  have f8 := hs8.right.right.left.frozen 2
  have hg := hg7.trans HG.out.1
  have hok := h7'.ok
  have HJ := Lib.hid (And.intro hs8 (And.intro (hb8.trans hb9) (And.intro hg hok)))
  clear h7 h7' hb7 hb8 hs8 hb9 hg hok hg7
  go_wp2_with (at_builtin; refine halt ?_)
  refine goon ?_
  obtain ⟨i0, hi, hz0, hz1, hz2⟩ := info_parts info_string
  generalize hpp : 4 * ((S.text (bytesOf s)).ws.length : Int) = p at *
  have hs9 : sat (w8.alloc (.cells #[.string s] 9)) (own 9 1 X.ov Y.ord.length (Y.ord.map .string) * (Go.Proofs.Ytanjiecefioffaa.blk w8.heap.size (.cells #[.string s] 9 (0, 0)) * (mapS X.mb (Y.syms ++ [(s, p)]) * (Go.Proofs.Ytanjiecefioffaa.blk X.g (.cells #[.pointer (some ⟨V7.g, 0, none⟩), .map (some X.mb), X.ov, i64 Y.tm] 41 (0, 0)) * (isHeap V7 (S.sym (bytesOf s)) * R))))) := (HJ.out.1.alloc _).perm (by ac_rfl)
  have hb9 : Below 0 w (w8.alloc (.cells #[.string s] 9)) := HJ.out.2.1.trans (Below.zero_alloc _ _)
  have hnew : (w8.alloc (.cells #[.string s] 9)).cell? ⟨w8.heap.size, 0, none⟩ = some (.string s) := (hs9.right.left.cell 0).trans rfl
  have hol := HH.out.2.2.2.2.2
  generalize w8.alloc (.cells #[.string s] 9) = w9 at *
  refine wpList_append_one rfl (.tmp 65) (.tmp 67) 39 rfl 9 i0 (.string ⟨#[]⟩) 16 Try.underlying39 hi hz0 hz1 hz2 rfl X.ov Y.ord.length (Y.ord.map .string) rfl _ w8.heap.size (.string s) rfl ?_ hs9 hnew rfl (by omega) (by unfold maxLen; omega)
  intro v' w10 hs10 hb10
  obtain ⟨bo', co', rfl, hco, hlo, hro⟩ := hs10.own_some (by omega)
  have f10 := hs10.right.right.right.left.frozen 2
  have c10 := (hs10.right.right.right.left.cell 2).trans rfl
  have hs11 := (show sat w10 (Go.Proofs.Ytanjiecefioffaa.blk X.g (.cells #[.pointer (some ⟨V7.g, 0, none⟩), .map (some X.mb), X.ov, i64 Y.tm] 41 (0, 0)) * (own 9 1 (.slice (some ⟨bo', 0, none⟩) (Y.ord.length + 1) co') (Y.ord.length + 1) (Y.ord.map .string ++ [.string s]) * (Go.Proofs.Ytanjiecefioffaa.blk w8.heap.size (.cells #[.string s] 9 (0, 0)) * (mapS X.mb (Y.syms ++ [(s, p)]) * (isHeap V7 (S.sym (bytesOf s)) * R))))) from hs10.perm (by ac_rfl)).setCell (off := 2) (.slice (some ⟨bo', 0, none⟩) (Y.ord.length + 1) co')
  have hb11 := (hb9.trans hb10).setCell (p := ⟨X.g, 2, none⟩) (Nat.zero_le _) (.slice (some ⟨bo', 0, none⟩) (Y.ord.length + 1) co')
  have HK := Lib.hid (And.intro hs11 hb11)
  clear hs9 hnew hro hlo hco hs10 hs11 hb11 hb9 hb10 hi hz0 hz1 hz2 hol c8 f8 c7 hr8
  go_wp2_with fail
  go_ret2
  refine ⟨rfl, HK.out.2, ⟨X.g, X.mb, .slice (some ⟨bo', 0, none⟩) (Y.ord.length + 1) co'⟩, V7, rfl, rfl, HJ.out.2.2.1, ⟨?_, HJ.out.2.2.2⟩⟩
  have h12 := HK.out.1
  unfold isSt StS.sym
  simp only [List.map_append, List.map_cons, List.map_nil, List.length_append, List.length_cons, List.length_nil, Nat.zero_add]
  have h13 : sat _ (Go.Proofs.Ytanjiecefioffaa.blk w8.heap.size (.cells #[.string s] 9 (0, 0)) * (isHeap V7 (S.sym (bytesOf s)) * (Go.Proofs.Ytanjiecefioffaa.blk X.g (.cells #[.pointer (some ⟨V7.g, 0, none⟩), .map (some X.mb), .slice (some ⟨bo', 0, none⟩) (Y.ord.length + 1) co', i64 Y.tm] 41 (0, 0)) * (mapS X.mb (Y.syms ++ [(s, p)]) * own 9 1 (.slice (some ⟨bo', 0, none⟩) (Y.ord.length + 1) co') (Y.ord.length + 1) (Y.ord.map .string ++ [.string s])) * R))) := h12.perm (by
    simp only [List.setIfInBounds_toArray, List.set_cons_succ, List.set_cons_zero]
    ac_rfl)
  exact h13.right
end
end Go.Proofs.Ytanjiecefioffaa
