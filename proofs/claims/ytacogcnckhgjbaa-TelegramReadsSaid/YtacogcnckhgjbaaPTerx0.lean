/- Functions of the given program as Lean functions, and proofs that its calls come to what these say. Written by a program of this seat (wip/mkprint.py); Lean checks it all. -/
import Derived.Test.YtacogcnckhgjbaaProg
import Derived.Below
import Derived.Deep.Draws
import Derived.Deep.AppendLies
import Derived.Maps.AppendAt
import Derived.OwnWalk
import Derived.Laws.BytesArg
import Derived.Laws.MakeOwn
import Derived.Laws.OwnMore
import Derived.Deep.OwnRows
import Derived.Tactics
import Derived.Lib.ConvBytes
import Derived.Laws.Slices
import Derived.WalkKit
import Derived.KernelRfl
import Derived.RowKit3
import Derived.Deep.LoopGhost
import Derived.Deep.QuietTactic
import Derived.BigQuiet
import Derived.WideLaws
import Derived.Deep.DeepCutAuto
import Derived.Deep.CutBlock
import Derived.Deep.RegionHeld3
import Derived.Laws.Rows
import Derived.Lib.AppendStr
import Derived.ArgAppend
import Derived.Laws.IdiomCopy
import Derived.OrdersHeld
import Derived.Laws.BitsLemmas
import Derived.RowKit
import Derived.Lib.SlBytesConst
import Derived.Test.YtacogcnckhgjbaaWWords
import Derived.Test.YtacogcnckhgjbaaWLast
import Derived.Test.YtacogcnckhgjbaaWTab
import Derived.Test.YtacogcnckhgjbaaWQPut
import Derived.Test.YtacogcnckhgjbaaWApart
import Derived.Test.YtacogcnckhgjbaaWArr
import Derived.Test.YtacogcnckhgjbaaWZeros
import Derived.Test.YtacogcnckhgjbaaWFoot
import Derived.Test.YtacogcnckhgjbaaWKept
import Derived.Test.YtacogcnckhgjbaaWShare
import Derived.Test.YtacogcnckhgjbaaWN
import Derived.Test.YtacogcnckhgjbaaWRepsOne
import Derived.Test.YtacogcnckhgjbaaWGuard
import Derived.Test.YtacogcnckhgjbaaWNEv
import Derived.Test.YtacogcnckhgjbaaWMore
namespace Go.Proofs.Ytacogcnckhgjbaa.PTer
open Go.RowKit Go.Proofs.YtacogcnckhgjbaaW.PrintWords Go.Proofs.YtacogcnckhgjbaaW.PrintLast Go.Proofs.YtacogcnckhgjbaaW.PrintMore
attribute [local go_sem] max2_int min2_int max_two min_two max_three min_three max_four min_four   -- for this text's walks alone
set_option linter.unusedVariables false
set_option linter.unusedSimpArgs false



def errW : Option Int → Value
 | none => .nilIface
 | some c => .iface 0 (.int .i64 c)
theorem errW_none : errW none = .nilIface := rfl
theorem errW_some (c : Int) : errW (some c) = .iface 0 (.int .i64 c) := rfl

section
variable {P : Program} {ops : Array Oper} {rest : List Oper} {o : Oper} {a : Act} {Q : Exit → Act → World → Prop}
/-- '[]byte("..")' of a constant: behind the literal's row a conversion to its own type, which marks it: told as a row that is only read. -/
theorem mark_conv {W : World} (xs : List Int) (inner : List Value) (t e : TypeId) (hin : nums .u8 xs = inner) (ht : P.underlying t = some (.slice e)) (he : P.underlying e = some (.int .u8)) (hgd : o.guard = none) (x : Operand) (ho : o.op = .convert t t x) (hm : xs.length ≤ 9223372036854775807)
  (hx : a.eval x = .slice (some ⟨W.heap.size, 0, none⟩) xs.length xs.length)
  (h : ∀ v1 w1, Kd.V (Kd.int .u8) e w1 W.heap.size (fun _ => True) v1 xs → Below W.heap.size W w1 → wpList P ops Q rest (a.put o.dst v1) w1) :
  wpList P ops Q (o :: rest) a (W.alloc (.cells inner.toArray e)) := by
 subst hin
 have hrun : (execOp a.eval o).run P (W.alloc (.cells (nums .u8 xs).toArray e)) = .ok (.value (.slice (some ⟨W.heap.size, 0, none⟩) xs.length xs.length)) (W.alloc (.cells (nums .u8 xs).toArray e ((nums .u8 xs).toArray.size, (nums .u8 xs).toArray.size + 1))) := by
  unfold execOp
  rw [ho]
  simp only [hx]
  have hc := Lib.run_convert_bytes_const (P := P) W t e (nums .u8 xs).toArray xs.length xs.length ht he
  simp [hc, Result.andThen]
 refine Kd.event_run hgd hrun (h _ _ (Kd.V_mono (Kd.V_mk (Nat.le_refl _) (Kd.C_F (Kd.heap_int .u8) ?_)) (fun _ _ => trivial)) (below_alloc (Below.refl _ _) _))
 refine ⟨rfl, hm, fun _ => ⟨_, rfl, fun j p hp => ⟨[.int .u8 p], rfl, rfl, fun i u hu => ?_⟩⟩⟩
 have hi : i = 0 := by
  have := (List.getElem?_eq_some_iff.1 hu).1
  simp at this
  exact this
 subst hi
 obtain rfl : Value.int .u8 p = u := by simpa using hu
 show (W.alloc _).cell? _ = _
 rw [add_plain]
 simp only [World.cell?, World.alloc]
 have : (W.heap.push (.cells (nums .u8 xs).toArray e ((nums .u8 xs).toArray.size, (nums .u8 xs).toArray.size + 1)))[W.heap.size]? = some (.cells (nums .u8 xs).toArray e ((nums .u8 xs).toArray.size, (nums .u8 xs).toArray.size + 1)) := by simp
 rw [this]
 simp [nums, Kd.int, Kd.scalar, hp]
end
/-- A row's block doesn't hang on its length. -/
theorem ne_len {k n n' c c' : Nat} {A : Option Addr} (h : some k ≠ (Value.slice A n c).ownBlock) : some k ≠ (Value.slice A n' c').ownBlock := by
 cases A <;> exact h

theorem info5 : (Try.prog.info? 5).map (fun i => (i.zero, i.size, i.bytes)) = some (some (.int .u8 0), 1, 1) := by kernel_rfl
theorem info22 : (Try.prog.info? 22).map (fun i => (i.zero, i.size, i.bytes)) = some (some (.slice none 0 0), 1, 24) := by kernel_rfl
theorem info24 : (Try.prog.info? 24).map (fun i => (i.zero, i.size, i.bytes)) = some (some (.agg #[(.int .i64 0), (.int .i64 0), (.slice none 0 0)]), 3, 40) := by kernel_rfl
-- the values' own types
def rd_L2 (xs : List (List Int)) (i : Int) : (List Int) := xs.getD i.toNat ([] : List Int)
theorem at_L2 {w : World} {A : Option Addr} {n : Nat} {xs : List (List Int)} (h : Kd.C (Kd.slice 5 (Kd.int .u8)) w A n xs) (i : Int) (h0 : 0 ≤ i) (h1 : i < n) : ∃ ad A0 c0, A = some ad ∧ w.cell? (ad.add i.toNat) = some (.slice A0 (rd_L2 xs i).length c0) ∧ (rd_L2 xs i).length ≤ c0 ∧ (Kd.int .u8).C w A0 (rd_L2 xs i).length (rd_L2 xs i) := by
 obtain ⟨ad, c, e, _, hK, hc0⟩ := Kd.C_get h ([] : List Int) i h0 h1
 have hc : ∀ j u, c[j]? = some u → w.cell? (ad.add (i.toNat * 1 + j)) = some u := hc0
 obtain ⟨A0, c0, rfl, l0, g0⟩ := hK
 exact ⟨ad, A0, c0, e, by have hq := hc 0 _ rfl; rwa [Nat.mul_one, Nat.add_zero] at hq, l0, g0⟩

/-! #### struct type 24 -/
structure S24 where
 f0 : Int
 f1 : Int
 f2 : (List Int)
def z24 : S24 := ⟨(0 : Int), (0 : Int), ([] : List Int)⟩
def k24 : Kd S24 := Kd.iso (Kd.pair (Kd.int .i64) (Kd.pair (Kd.int .i64) (Kd.slice 5 (Kd.int .u8)))) (fun x : S24 => (x.f0, x.f1, x.f2))
theorem k24_heap : Kd.Heap k24 := Kd.heap_iso _ (Kd.heap_pair (Kd.heap_int .i64) (Kd.heap_pair (Kd.heap_int .i64) (Kd.heap_slice 5 (Kd.heap_int .u8))))
theorem k24_open {w : World} {x : S24} {cs : List Value} (h : k24.K w x cs) : ∃ A2 c2, cs = [.int .i64 x.f0, .int .i64 x.f1, .slice A2 x.f2.length c2] ∧ x.f2.length ≤ c2 ∧ (Kd.int .u8).C w A2 x.f2.length x.f2 := by
 obtain ⟨_, _, rfl, rfl, ⟨_, _, rfl, rfl, ⟨A2, c2, rfl, l2, g2⟩⟩⟩ := h
 exact ⟨A2, c2, rfl, l2, g2⟩
theorem k24_openM {w : World} {base : Nat} {ok : Nat → Prop} {x : S24} {cs : List Value} (h : k24.M w base ok x cs) : ∃ v2, cs = [.int .i64 x.f0, .int .i64 x.f1, v2] ∧ (Kd.int .u8).R 5 w base ok v2 x.f2 := by
 obtain ⟨_, _, rfl, rfl, ⟨_, _, rfl, rfl, ⟨v2, rfl, g2⟩⟩⟩ := h
 exact ⟨v2, rfl, g2⟩
theorem k24_mk (w : World) (x : S24) {A2 : Option Addr} {c2 : Nat} (l2 : x.f2.length ≤ c2) (g2 : (Kd.int .u8).C w A2 x.f2.length x.f2) : k24.K w x [.int .i64 x.f0, .int .i64 x.f1, .slice A2 x.f2.length c2] := ⟨[.int .i64 x.f0], [.int .i64 x.f1, .slice A2 x.f2.length c2], rfl, rfl, ⟨[.int .i64 x.f1], [.slice A2 x.f2.length c2], rfl, rfl, ⟨A2, c2, rfl, l2, g2⟩⟩⟩
theorem k24_mkM (w : World) (base : Nat) (ok : Nat → Prop) (x : S24) {v2 : Value} (g2 : (Kd.int .u8).R 5 w base ok v2 x.f2) : k24.M w base ok x [.int .i64 x.f0, .int .i64 x.f1, v2] := ⟨[.int .i64 x.f0], [.int .i64 x.f1, v2], rfl, rfl, ⟨[.int .i64 x.f1], [v2], rfl, rfl, ⟨v2, rfl, g2⟩⟩⟩
theorem k24_openF {W : World} {ok : Nat → Prop} {x : S24} {cs : List Value} (h : Kd.FK k24 W ok x cs) : ∃ A2 c2, cs = [.int .i64 x.f0, .int .i64 x.f1, .slice A2 x.f2.length c2] ∧ x.f2.length ≤ c2 ∧ Kd.F (Kd.int .u8) W ok A2 x.f2.length x.f2 := by
 obtain ⟨A2, c2, rfl, l2, _⟩ := k24_open (Kd.FK_now h)
 exact ⟨A2, c2, rfl, l2, (fun W' hW => by obtain ⟨A2_, c2_, he, l2_, g2_⟩ := k24_open (h W' hW); injection (Option.some.inj (show some (Value.slice A2 x.f2.length c2) = some (Value.slice A2_ x.f2.length c2_) from congrArg (fun l => l[2]?) he)) with ha_ _ _; rw [ha_]; exact g2_)⟩
theorem k24_mkF (W : World) (ok : Nat → Prop) (x : S24) {A2 : Option Addr} {c2 : Nat} (l2 : x.f2.length ≤ c2) (g2 : Kd.F (Kd.int .u8) W ok A2 x.f2.length x.f2) : Kd.FK k24 W ok x [.int .i64 x.f0, .int .i64 x.f1, .slice A2 x.f2.length c2] := fun W2 hW => k24_mk W2 x l2 (g2 W2 hW)
def rd_T24 (xs : List S24) (i : Int) : S24 := xs.getD i.toNat z24
theorem at_T24 {w : World} {A : Option Addr} {n : Nat} {xs : List S24} (h : Kd.C k24 w A n xs) (i : Int) (h0 : 0 ≤ i) (h1 : i < n) : ∃ ad A2 c2, A = some ad ∧ w.cell? (ad.add (i.toNat * 3)) = some (.int .i64 (rd_T24 xs i).f0) ∧ w.cell? ⟨(ad.add (i.toNat * 3)).block, (ad.add (i.toNat * 3)).off + 1, none⟩ = some (.int .i64 (rd_T24 xs i).f1) ∧ w.cell? ⟨(ad.add (i.toNat * 3)).block, (ad.add (i.toNat * 3)).off + 2, none⟩ = some (.slice A2 (rd_T24 xs i).f2.length c2) ∧ (rd_T24 xs i).f2.length ≤ c2 ∧ (Kd.int .u8).C w A2 (rd_T24 xs i).f2.length (rd_T24 xs i).f2 := by
 obtain ⟨ad, c, e, _, hK, hc0⟩ := Kd.C_get h z24 i h0 h1
 have hc : ∀ j u, c[j]? = some u → w.cell? (ad.add (i.toNat * 3 + j)) = some u := hc0
 obtain ⟨A2, c2, rfl, l2, g2⟩ := k24_open hK
 exact ⟨ad, A2, c2, e, hc 0 _ rfl, by rw [← add_field _ _ 1 (by omega)]; exact hc 1 _ rfl, by rw [← add_field _ _ 2 (by omega)]; exact hc 2 _ rfl, l2, g2⟩

end Go.Proofs.Ytacogcnckhgjbaa.PTer
