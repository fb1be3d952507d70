/- A clash of a proof is small. No statement of the seat is proved here. -/
import Derived.Test.YteoledjllpgcbaaGreatDoorTerm8
namespace Go.Proofs.YteoledjllpgcbaaGreatDoor
set_option maxRecDepth 100000
set_option maxHeartbeats 64000000
set_option linter.unusedVariables false
open Go.RowKit
theorem Dc.clash_small {L : List EnD} {s : List UInt8} {p : Hd.Pf} (hL : Dc.right L = true) (hd : p.docs.length ≤ 100000) : CSmall (Dc.clash L s p) := fun r h => by
 have hg := Dc.good_of hL
 unfold Dc.clash at h
 split at h
 ·
  rename_i hc
  obtain ⟨ck, hck⟩ := Option.isSome_iff_exists.1 hc.2.2
  cases hlf : Dc.lfL (Dc.links L) p with
  | some x =>
   rw [hlf] at h
   simp only [Option.some.injEq] at h
   subst h
   have hfit := Dc.check_fit hck
   have hlf2 : Cl.lf p.link.bytes (Tree.sides p.at_.toNat (Dc.links L).length) (Dc.links L) p.path = some x := by
    unfold Dc.lfL at hlf
    split at hlf
    · exact hlf
    · cases hlf
   refine ⟨Cl.lf_some _ _ _ _ _ hlf2, ?_⟩
   have hb := Hd.Lk.bytes_le (Dc.check_may hck)
   exact lf_len p.link.bytes (by omega) _ _ _ x (Dc.links_small hg) (all32_of (Dc.fit_iff.1 hfit).2.2.1) hlf2
  | none =>
   rw [hlf] at h
   simp only at h
   split at h
   ·
    refine btw_small (a := 2 :: p.docs) (b := 2 :: Post.write (Dc.docs L s)) ?_ ?_ r h
    · rw [List.length_cons]; omega
    · rw [List.length_cons]; have := Post.write_len (Dc.docs_right hg s); omega
   · cases h
 · cases h
theorem Dc.clash_right {L : List EnD} {s : List UInt8} {p : Hd.Pf} {r : List UInt8 × List UInt8} (h : Dc.clash L s p = some r) : Dc.right L = true := by
 unfold Dc.clash at h
 split at h
 · rename_i hc; exact hc.1
 · cases h
theorem Dc.clash_small' {L : List EnD} {s : List UInt8} {p : Hd.Pf} (hd : p.docs.length ≤ 100000) : CSmall (Dc.clash L s p) := fun r h => Dc.clash_small (Dc.clash_right h) hd r h
end Go.Proofs.YteoledjllpgcbaaGreatDoor
