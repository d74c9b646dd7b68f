/- How an argument that is a struct, a slice, or a slice of structs, reads as the Lean values of the printed functions. -/
import Derived.Test.YtcgeflbifbaecaaPFekx0
import Derived.WalkKit
import Derived.ProofKit
import Derived.OpenShut
import Derived.ShutString
import Derived.ChangeOld
import Derived.SizedLaws
namespace Go.Proofs.Ytcgeflbifbaecaa.Opn
open Go.ChangeShapes Go.WideShapes Go.ChangeAt Go.RowKit Go.Proofs.YtcgeflbifbaecaaW.PrintWords Go.Proofs.YtcgeflbifbaecaaW.PrintLast Go.Proofs.YtcgeflbifbaecaaW.PrintMore Go.Proofs.Ytcgeflbifbaecaa.PFek

section
variable {H : Type} {enc : TypeId × Value → H} {P : Program} {w : World} {base : Nat} {spare : Nat → Bool} {held : Bool}

/-- What reads as a datum at type t is one of d's values, of which Q is known. -/
def Opens {H : Type} (enc : TypeId × Value → H) (P : Program) (w : World) (base : Nat) (spare : Nat → Bool) (held : Bool) (t : TypeId) {α : Type} (d : Kd α) (Q : α → Prop) : Prop :=
  ∀ (n : Nat) (cs : List Value) (y : DataW H × List MemPlace), DataW.trod enc P w base spare held n t cs = some y → ∃ x, d.K w x cs ∧ Q x

theorem opens_int {t : TypeId} {k : IntKind} (ht : P.underlying t = some (.int k)) : Opens enc P w base spare held t (Kd.int k) (fun n => (Lit.int k n).wf = true) := by
  intro n cs y h
  obtain ⟨m, rfl, _, hw⟩ := DataW.trod_int ht h
  exact ⟨m, rfl, hw⟩
theorem opens_bool {t : TypeId} (ht : P.underlying t = some .bool) : Opens enc P w base spare held t Kd.bool (fun _ => True) := by
  intro n cs y h
  obtain ⟨b, rfl, _⟩ := DataW.trod_bool ht h
  exact ⟨b, rfl, trivial⟩

theorem opens_rows {α : Type} {d : Kd α} {e : TypeId} {Q : α → Prop} (he : Opens enc P w base spare held e d Q) (hsz : P.cellsOf e = d.sz) (a : Addr) (n : Nat) (elems : List (DataW H × List MemPlace)) :
    ∀ m : Nat, m ≤ elems.length → (∀ i, i < elems.length → (w.cells? base (a.add (i * P.cellsOf e)) (P.cellsOf e)).bind (DataW.trod enc P w base spare held n e) = elems[i]?) →
    ∃ xs : List α, xs.length = m ∧ (∀ x ∈ xs, Q x) ∧ ∀ j p, xs[j]? = some p → ∃ c : List Value, c.length = d.sz ∧ d.K w p c ∧ ∀ i u, c[i]? = some u → w.cell? (a.add (j * d.sz + i)) = some u
  | 0, _, _ => ⟨[], rfl, by simp, by simp⟩
  | m + 1, hm, hel => by
    obtain ⟨xs, hl, hq, hx⟩ := opens_rows he hsz a n elems m (by omega) hel
    have h := hel m (by omega)
    rw [List.getElem?_eq_getElem (show m < elems.length by omega), Option.bind_eq_some_iff] at h
    obtain ⟨c, hc, hy⟩ := h
    obtain ⟨x, hk, hqx⟩ := he _ _ _ hy
    obtain ⟨_, hcl, hcell⟩ := World.cells?_some hc
    refine ⟨xs ++ [x], by simp [hl], ?_, ?_⟩
    · intro z hz
      rcases List.mem_append.1 hz with hz | hz
      · exact hq z hz
      · rw [List.mem_singleton.1 hz]; exact hqx
    · intro j p hp
      rcases Nat.lt_or_ge j xs.length with hj | hj
      · rw [List.getElem?_append_left hj] at hp
        exact hx j p hp
      · have hj' : j = m := by
          have := (List.getElem?_eq_some_iff.1 hp).1
          simp at this
          omega
        subst hj'
        rw [List.getElem?_append_right (by omega), hl, Nat.sub_self] at hp
        obtain rfl : x = p := by simpa using hp
        refine ⟨c, by rw [hcl, hsz], hk, ?_⟩
        intro i u hu
        have hi : i < P.cellsOf e := by rw [← hcl]; exact (List.getElem?_eq_some_iff.1 hu).1
        have h2 := hcell i hi
        rw [hu, addr_add_add] at h2
        rw [← hsz]
        exact h2
where
  addr_add_add {a : Addr} {i j : Nat} : (a.add i).add j = a.add (i + j) := by
    unfold Addr.add
    by_cases h1 : i = 0 <;> by_cases h2 : j = 0 <;> simp [h1, h2, Nat.add_assoc]

theorem opens_slice {α : Type} {d : Kd α} {t e : TypeId} {Q : α → Prop} (ht : P.underlying t = some (.slice e)) (he : Opens enc P w base spare held e d Q) (hsz : P.cellsOf e = d.sz) :
    Opens enc P w base spare held t (Kd.slice e d) (fun xs => xs.length ≤ maxLen ∧ ∀ x ∈ xs, Q x) := by
  intro n cs y h
  rcases DataW.trod_slice ht h with ⟨rfl, _⟩ | ⟨a, len, cap, elems, rest, m, _, rfl, _, _, hl, hc, hlen, hel, _⟩
  · exact ⟨[], ⟨none, 0, rfl, Nat.le_refl _, Kd.C_nil _ _⟩, by simp, by simp⟩
  · subst hlen
    obtain ⟨xs, hxl, hq, hx⟩ := opens_rows he hsz a m elems elems.length (Nat.le_refl _) hel
    have hm : elems.length ≤ 9223372036854775807 := by unfold maxLen at hc; omega
    refine ⟨xs, ⟨some a, cap, by rw [hxl], by omega, hxl ▸ rfl, by rw [hxl]; exact hm, fun _ => ⟨a, rfl, hx⟩⟩, by omega, hq⟩

theorem list2 {α : Type} {l : List α} (h : l.length = 2) : ∃ a b, l = [a, b] := by
  match l, h with | [a, b], _ => exact ⟨a, b, rfl⟩
theorem list3 {α : Type} {l : List α} (h : l.length = 3) : ∃ a b c, l = [a, b, c] := by
  match l, h with | [a, b, c], _ => exact ⟨a, b, c, rfl⟩
theorem list4 {α : Type} {l : List α} (h : l.length = 4) : ∃ a b c d, l = [a, b, c, d] := by
  match l, h with | [a, b, c, d], _ => exact ⟨a, b, c, d, rfl⟩
theorem list5 {α : Type} {l : List α} (h : l.length = 5) : ∃ a b c d e, l = [a, b, c, d, e] := by
  match l, h with | [a, b, c, d, e], _ => exact ⟨a, b, c, d, e, rfl⟩

theorem opens_32 : Opens enc Try.prog w base spare held 32 k32 (fun x => ((Lit.int .i64 x.f0).wf = true) ∧ ((Lit.int .i64 x.f1).wf = true) ∧ ((Lit.int .i64 x.f2).wf = true)) := by
  intro n cs y h
  obtain ⟨xs, m, _, _, hl, hlen, hf⟩ := DataW.trod_struct Try.underlying32 h
  have hl3 : cs.length = 5 := hl.trans (by kernel_rfl)
  obtain ⟨c0, c1, c2, c3, c4, rfl⟩ := list5 hl3
  have h0 : DataW.trod enc Try.prog w base spare held m 3 (List.take (Try.prog.cellsOf 3) (List.drop 0 [c0, c1, c2, c3, c4])) = xs[0]? := hf 0 _ rfl
  obtain ⟨y0, hy0⟩ : ∃ y, xs[0]? = some y := ⟨_, List.getElem?_eq_getElem (by rw [hlen]; decide)⟩
  rw [hy0, show (Try.prog.cellsOf 3) = 1 by kernel_rfl] at h0
  obtain ⟨x0, k0, q0⟩ := opens_int Try.underlying3 _ _ _ h0
  have h1 : DataW.trod enc Try.prog w base spare held m 3 (List.take (Try.prog.cellsOf 3) (List.drop 1 [c0, c1, c2, c3, c4])) = xs[1]? := hf 1 _ rfl
  obtain ⟨y1, hy1⟩ : ∃ y, xs[1]? = some y := ⟨_, List.getElem?_eq_getElem (by rw [hlen]; decide)⟩
  rw [hy1, show (Try.prog.cellsOf 3) = 1 by kernel_rfl] at h1
  obtain ⟨x1, k1, q1⟩ := opens_int Try.underlying3 _ _ _ h1
  have h2 : DataW.trod enc Try.prog w base spare held m 3 (List.take (Try.prog.cellsOf 3) (List.drop 2 [c0, c1, c2, c3, c4])) = xs[2]? := hf 2 _ rfl
  obtain ⟨y2, hy2⟩ : ∃ y, xs[2]? = some y := ⟨_, List.getElem?_eq_getElem (by rw [hlen]; decide)⟩
  rw [hy2, show (Try.prog.cellsOf 3) = 1 by kernel_rfl] at h2
  obtain ⟨x2, k2, q2⟩ := opens_int Try.underlying3 _ _ _ h2
  have h3 : DataW.trod enc Try.prog w base spare held m 4 (List.take (Try.prog.cellsOf 4) (List.drop 3 [c0, c1, c2, c3, c4])) = xs[3]? := hf 3 _ rfl
  obtain ⟨y3, hy3⟩ : ∃ y, xs[3]? = some y := ⟨_, List.getElem?_eq_getElem (by rw [hlen]; decide)⟩
  rw [hy3, show (Try.prog.cellsOf 4) = 1 by kernel_rfl] at h3
  obtain ⟨x3, k3, q3⟩ := opens_bool Try.underlying4 _ _ _ h3
  have h4 : DataW.trod enc Try.prog w base spare held m 4 (List.take (Try.prog.cellsOf 4) (List.drop 4 [c0, c1, c2, c3, c4])) = xs[4]? := hf 4 _ rfl
  obtain ⟨y4, hy4⟩ : ∃ y, xs[4]? = some y := ⟨_, List.getElem?_eq_getElem (by rw [hlen]; decide)⟩
  rw [hy4, show (Try.prog.cellsOf 4) = 1 by kernel_rfl] at h4
  obtain ⟨x4, k4, q4⟩ := opens_bool Try.underlying4 _ _ _ h4
  exact ⟨⟨x0, x1, x2, x3, x4⟩, ⟨[c0], [c1, c2, c3, c4], rfl, k0, ⟨[c1], [c2, c3, c4], rfl, k1, ⟨[c2], [c3, c4], rfl, k2, ⟨[c3], [c4], rfl, k3, k4⟩⟩⟩⟩, q0, q1, q2⟩

theorem top_28 : ∀ (n : Nat) (cs : List Value) (y : DataW H × List MemPlace), DataW.trod enc Try.prog w base spare held n 28 cs = some y → ∃ c0 c1 c2 x0 x1 x2, cs = [c0, c1, c2] ∧ (Kd.slice 32 k32).K w x0 [c0] ∧ (x0.length ≤ maxLen ∧ ∀ x_ ∈ x0, ((Lit.int .i64 x_.f0).wf = true) ∧ ((Lit.int .i64 x_.f1).wf = true) ∧ ((Lit.int .i64 x_.f2).wf = true)) ∧ (Kd.slice 3 (Kd.int .i64)).K w x1 [c1] ∧ (x1.length ≤ maxLen ∧ ∀ x_ ∈ x1, (Lit.int .i64 x_).wf = true) ∧ (Kd.int .i64).K w x2 [c2] ∧ ((Lit.int .i64 x2).wf = true) := by
  intro n cs y h
  obtain ⟨xs, m, _, _, hl, hlen, hf⟩ := DataW.trod_struct Try.underlying28 h
  have hl3 : cs.length = 3 := hl.trans (by kernel_rfl)
  obtain ⟨c0, c1, c2, rfl⟩ := list3 hl3
  have h0 : DataW.trod enc Try.prog w base spare held m 25 (List.take (Try.prog.cellsOf 25) (List.drop 0 [c0, c1, c2])) = xs[0]? := hf 0 _ rfl
  obtain ⟨y0, hy0⟩ : ∃ y, xs[0]? = some y := ⟨_, List.getElem?_eq_getElem (by rw [hlen]; decide)⟩
  rw [hy0, show (Try.prog.cellsOf 25) = 1 by kernel_rfl] at h0
  obtain ⟨x0, k0, q0⟩ := (opens_slice Try.underlying25 opens_32 (by kernel_rfl)) _ _ _ h0
  have h1 : DataW.trod enc Try.prog w base spare held m 26 (List.take (Try.prog.cellsOf 26) (List.drop 1 [c0, c1, c2])) = xs[1]? := hf 1 _ rfl
  obtain ⟨y1, hy1⟩ : ∃ y, xs[1]? = some y := ⟨_, List.getElem?_eq_getElem (by rw [hlen]; decide)⟩
  rw [hy1, show (Try.prog.cellsOf 26) = 1 by kernel_rfl] at h1
  obtain ⟨x1, k1, q1⟩ := (opens_slice Try.underlying26 (opens_int Try.underlying3) (by kernel_rfl)) _ _ _ h1
  have h2 : DataW.trod enc Try.prog w base spare held m 3 (List.take (Try.prog.cellsOf 3) (List.drop 2 [c0, c1, c2])) = xs[2]? := hf 2 _ rfl
  obtain ⟨y2, hy2⟩ : ∃ y, xs[2]? = some y := ⟨_, List.getElem?_eq_getElem (by rw [hlen]; decide)⟩
  rw [hy2, show (Try.prog.cellsOf 3) = 1 by kernel_rfl] at h2
  obtain ⟨x2, k2, q2⟩ := opens_int Try.underlying3 _ _ _ h2
  exact ⟨c0, c1, c2, x0, x1, x2, rfl, k0, q0, k1, q1, k2, q2⟩

end
end Go.Proofs.Ytcgeflbifbaecaa.Opn
