/- Bytes that came in; CopyBytes. -/
import Derived.Test.YtkjfplldfjmbaaaProtoOpen
import Derived.Test.YtkjfplldfjmbaaaAwake10
import Derived.Test.YtkjfplldfjmbaaaBytesLaw
namespace Go.Proofs.Ytkjfplldfjmbaaa
open Go.RowKit Go.ChangeShapes Go.WideShapes
/-- Bytes that can be read wherever R holds. -/
def BytesAt (R : HP) (b : List Int) (ao : Option Addr) : Prop := (∀ w, sat w R → CellsAt w ao (b.map bv)) ∧ Bytes b
section
variable {H : Type} {enc : TypeId × Value → H} {W : World} {base : Nat} {spare : Nat → Bool} {held : Bool}
def BytC (x : Int) (cs : List Value) : Prop := cs = [bv x] ∧ 0 ≤ x ∧ x < 256
theorem byte_trod {fuel : Nat} (cs : List Value) (y : DataW H × List MemPlace) (h : DataW.trod enc Try.prog W base spare held fuel 5 cs = some y) : ∃ x, BytC x cs ∧ 1 ≤ Rows.uptoBulk y.1 := by
  obtain ⟨k, e0, rfl, w0⟩ := DataW.trod_int Try.underlying5 h
  refine ⟨k, ⟨e0, ?_⟩, dm_bulk_one _⟩
  simp [Lit.wf] at w0
  have h0 : IntKind.u8.min = 0 := rfl
  have h1 : IntKind.u8.max = 255 := rfl
  omega
set_option maxRecDepth 100000 in
theorem open_bytesB {r : Reach} {b0 : Nat} {v : Value} {d : DataW H} {p : List MemPlace} (hv : Value.okWide Try.prog W r b0 23 v) (h : DataW.Trod enc Try.prog W base spare held 23 v d p) (hb : Rows.uptoBulk d ≤ 1048576) :
    ∃ (b : List Int) (ao : Option Addr) (c : Nat), v = .slice ao b.length c ∧ (BytesAt (whole W) b ao ∧ b.length + 1 ≤ 1048576 ∧ b.length ≤ c) := by
  obtain ⟨ao, n, c, rfl⟩ := okWide_slice Try.underlying23 hv
  obtain ⟨fuel, hf⟩ := h
  obtain ⟨ao', c', b, e, hle, hr, hz⟩ := slice_any BytC (fun _ => 1) Try.underlying23 (sz := 1) (by kernel_rfl) (by omega) (fun n' _ cs y hh => byte_trod cs y hh) hf
  have hz2 : (b.map fun _ => 1).sum = b.length := by
    clear hr hz e hle
    induction b with
    | nil => rfl
    | cons _ l ih => rw [List.map_cons, List.sum_cons, ih, List.length_cons]; omega
  have hz3 : (b.map fun _ => 1).sum + 1 ≤ Rows.uptoBulk d := hz
  rw [hz2] at hz3
  refine ⟨b, ao', c', e, ⟨⟨?_, ?_⟩, by omega, hle⟩⟩
  · intro w hw j u hj
    rw [List.getElem?_map] at hj
    cases hx : b[j]? with
    | none => rw [hx] at hj; cases hj
    | some x =>
      rw [hx] at hj
      cases hj
      obtain ⟨bb, off, cs, e1, e2, e3, _⟩ := hr j x hx
      refine ⟨_, e1, ?_⟩
      rw [show ((⟨bb, off, none⟩ : Addr).add j) = ⟨bb, off + j, none⟩ by unfold Addr.add; split <;> simp_all]
      have := e2 w hw 0 (bv x) (by rw [e3]; rfl)
      rw [show off + (0 + j) * 1 + 0 = off + j by omega] at this
      exact this
  · intro x hx
    obtain ⟨i, hi⟩ := List.mem_iff_getElem?.1 hx
    obtain ⟨_, _, _, _, _, _, h⟩ := hr i x hi
    exact h
end
theorem BytesAt.mono {R Q : HP} {b : List Int} {ao : Option Addr} (h : BytesAt R b ao) (e : ∀ w, sat w Q → sat w R) : BytesAt Q b ao := ⟨fun w hw => h.1 w (e w hw), h.2⟩
theorem own_bytesAt {R : HP} {b : List Int} {ao : Option Addr} {n c : Nat} (hu : Bytes b) : BytesAt (own 5 1 (.slice ao n c) n (b.map bv) * R) b ao := ⟨fun _ hw => own_cellsAt hw rfl, hu⟩
set_option maxRecDepth 100000 in
theorem copy_bytes (w : World) (R : HP) (ao : Option Addr) (n cap : Nat) (b : List Int) (hn : b.length = n) (hs : sat w R) (hb : BytesAt R b ao) (hl : n ≤ 140737488351232) :
    Calls Try.prog 16 #[.slice ao n cap] w fun e w' => ∃ ro rc, e = .returned (.slice ro n rc) ∧ n ≤ rc ∧ sat w' (own 5 1 (.slice ro n rc) n (b.map bv) * R) ∧ Below 0 w w' := by
  obtain ⟨i0, hi, hz0, hz1, hz2⟩ := info_parts info_b8
  have H1 := Lib.hid (And.intro hi (And.intro hz0 (And.intro hz1 hz2)))
  have H0 := Lib.hid (And.intro hs (And.intro hb (And.intro hn hl)))
  clear hi hz0 hz1 hz2 hs hb hn hl
  go_enter Try.func16, Try.ntmps16
  go_wp2_with (at_builtin; refine halt ?_)
  refine goon ?_
  obtain ⟨hi, hz0, hz1, hz2⟩ := H1.out
  refine wpList_append_opt rfl (.const (.slice none 0 0)) (.tmp 3) 23 rfl 5 i0 (.int .u8 0) 1 1 Try.underlying23 hi hz0 hz1 hz2 rfl (by decide) (.slice none 0 0) 0 [] rfl R ao n cap (b.map bv) rfl ?_ H0.out.1.nil_own (by rw [List.length_map, H0.out.2.2.1]; omega) (H0.out.2.1.1 _ H0.out.1) (fun u hu => by obtain ⟨y, _, rfl⟩ := List.mem_map.1 hu; rfl) (by have := H0.out.2.2.2; omega) (by have := H0.out.2.2.2; unfold maxLen; omega)
  clear hi hz0 hz1 hz2
  intro v3 w3 h3 hb3
  rw [Nat.zero_add, List.nil_append] at h3
  obtain ⟨ro, rc, rfl, hrc⟩ := slice_val h3
  have H3 := Lib.hid (And.intro h3 hb3)
  clear h3 hb3
  go_wp2_with fail
  go_ret
  exact ⟨ro, rc, rfl, hrc, H3.out.1, H3.out.2⟩
theorem szs_ofD {ps : List Pr} {n : Nat} (h : prSizes ps ≤ n) : ps.length ≤ n ∧ ∀ p ∈ ps, p.code.length ≤ n ∧ Dm.sizes p.consts ≤ n ∧ p.names.length ≤ n := by
  have h0 := prSizes_len ps
  refine ⟨by omega, fun p hp => ?_⟩
  obtain ⟨i, hi⟩ := List.mem_iff_getElem?.1 hp
  have h1 := prSizes_take hi
  have h2 : p.size = 1 + p.name.size + p.code.length + Dm.sizes p.consts + namesZ p.names := rfl
  have h3 := namesZ_len p.names
  omega
theorem below_wholeD {W w' : World} (h : sat w' (whole W)) (hb : Below 0 W w') : Below W.heap.size W w' := ⟨hb.os, hb.tape, hb.output, hb.size, fun k hk => h.whole_get k hk⟩
end Go.Proofs.Ytkjfplldfjmbaaa
