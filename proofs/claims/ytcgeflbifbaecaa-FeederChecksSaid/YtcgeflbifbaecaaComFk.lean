/- A network as the statements make it: it comes to some network. -/
import Derived.Test.YtcgeflbifbaecaaComBk
import Derived.Test.YtcgeflbifbaecaaPFekx1
import Derived.Test.YtcgeflbifbaecaaPFekx10
namespace Go.Proofs.Ytcgeflbifbaecaa.Com
open Go.RowKit Go.Proofs.Ytcgeflbifbaecaa.PFek Go.Proofs.YtcgeflbifbaecaaW.PrintWords Go.Proofs.YtcgeflbifbaecaaW.PrintLast Go.Proofs.YtcgeflbifbaecaaW.PrintMore

theorem made_ev {l0 : List Int} (hb : ∀ x ∈ l0, (Lit.int .u8 x).wf = true) (at_ by_ : Int) : ∃ ss zs rp, Ev (fun k => minecontrollaw18_made.f k l0 at_ by_) (ss, zs, rp) := by
  obtain ⟨l, hn, hc⟩ := new_ev hb
  obtain ⟨v, a', ⟨K1, e1⟩, c1, v0, v1, -⟩ := next_ev hc 4 (by omega)
  have v1 := v1 (by omega)
  obtain ⟨z, rfl⟩ : ∃ z : Nat, v = (z : Int) := ⟨v.toNat, by omega⟩
  obtain ⟨ss, zs, rp, a'', ⟨K2, e2⟩, c2, N⟩ := feeder_ev c1 z (by omega)
  have hfew := N.few; have hpos := N.pos; have hzl := N.zl
  obtain ⟨s, hs, s0, s1⟩ := mod_in at_ (ss.length : Int) (by omega) (by omega)
  obtain ⟨u, a3, ⟨K3, e3⟩, c3, u0, u1, -⟩ := next_ev c2 12 (by omega)
  obtain ⟨q, hq, -, -⟩ := mod_in by_ 6 (by omega) (by omega)
  have key : ∃ r : List S32 × List Int × Int, (if u = 1 then (some ((ss.set (s : Int).toNat (⟨by_, (rd_T32 ss s).f1, (rd_T32 ss s).f2, (rd_T32 ss s).f3, (rd_T32 ss s).f4⟩ : S32)), zs, rp)) else (if u = 2 then (some ((ss.set (s : Int).toNat (⟨(rd_T32 ss s).f0, by_, (rd_T32 ss s).f2, (rd_T32 ss s).f3, (rd_T32 ss s).f4⟩ : S32)), zs, rp)) else (if u = 3 then (some ((ss.set (s : Int).toNat (⟨(rd_T32 ss s).f0, (rd_T32 ss s).f1, by_, (rd_T32 ss s).f3, (rd_T32 ss s).f4⟩ : S32)), zs, rp)) else (if u = 4 then (some ((ss.set (s : Int).toNat (⟨(rd_T32 ss s).f0, (rd_T32 ss s).f1, (rd_T32 ss s).f2, (rd_T32 ss s).f3, true⟩ : S32)), zs, rp)) else (if u = 5 then (some (ss, zs, by_)) else (if u = 6 then ((minecontroldraw_Mod.f by_ 6).bind fun t296 => (if zs.length < 17592186044416 then (some (ss, (zs ++ [t296]), rp)) else (none))) else (some (ss, zs, rp)))))))) = some r := by
    rw [hq]
    simp only [Option.bind_some, if_pos (show zs.length < 17592186044416 by omega)]
    split
    · exact ⟨_, rfl⟩
    split
    · exact ⟨_, rfl⟩
    split
    · exact ⟨_, rfl⟩
    split
    · exact ⟨_, rfl⟩
    split
    · exact ⟨_, rfl⟩
    split
    · exact ⟨_, rfl⟩
    · exact ⟨_, rfl⟩
  obtain ⟨⟨r1, r2, r3⟩, hr⟩ := key
  refine ⟨r1, r2, r3, K1 + K2 + K3, fun k hk => ?_⟩
  have f1 := e1 k (by omega); have f2 := e2 k (by omega); have f3 := e3 k (by omega)
  dsimp only at f1 f2 f3
  show minecontrollaw18_made.f k l0 at_ by_ = _
  unfold minecontrollaw18_made.f
  rw [hn]; simp only [Option.bind_some]
  rw [f1]; simp only [Option.bind_some]
  rw [f2]; simp only [Option.bind_some]
  rw [hs]; simp only [Option.bind_some]
  rw [if_pos s0, if_pos s1, f3]; simp only [Option.bind_some]
  exact hr

end Go.Proofs.Ytcgeflbifbaecaa.Com
