/- Facts5. Texts joined by program (asm.py): RemJf5 RemJf5b. -/
import Derived.Test.YtngnkeejmlhdaaaGreatRows
import Derived.ProofKit
namespace Go.Proofs.YtngnkeejmlhdaaaGreat
open Go.ChangeShapes Go.WideShapes Go.ChangeAt Go.RowKit
theorem jf_clientPauses_0 : (Rows.clientPausesRow.wf (OpenSpec.ofChange Rows.clientPausesSpec)) = true := by kernel_rfl
theorem jf_clientPauses_1 : (laidOutB Tryz.prog) = true := by kernel_rfl
theorem jf_clientPauses_2 : (mapsRowed Tryz.prog) = true := by kernel_rfl
theorem jf_clientPauses_3 : (Tryz.f5.params.all (Tryz.prog.readableRec ·)) = true := by kernel_rfl
theorem jf_clientPauses_4 : (namedTie Tryz.prog Rows.clientPausesRow.named Rows.clientPausesSpec.vars) = true := by kernel_rfl
theorem jf_clientPauses_5 : ((Rows.clientPausesRow.stops == [])) = true := by kernel_rfl
theorem jf_clientPauses_6 : ((Tryz.prog.stops == [])) = true := by kernel_rfl
theorem jf_clientPauses_7 : ((Rows.clientPausesRow.knobs == [])) = true := by kernel_rfl
theorem jf_clientPauses_8 : ((Tryz.prog.stopKnobs == [])) = true := by kernel_rfl
theorem jf_clientPauses_9 : ((Rows.clientPausesRow.inPlace == Tryz.prog.inPlace 5)) = true := by kernel_rfl
theorem jf_clientPauses_10 : ((Rows.clientPausesRow.unfollowed == Tryz.prog.unfollowed 5)) = true := by kernel_rfl
theorem jf_clientPauses_11 : ((Rows.clientPausesRow.recurses == Tryz.prog.recurses 5)) = true := by kernel_rfl
theorem jf_clientPauses_12 : ((Rows.clientPausesRow.named == Tryz.prog.varsNamed 5)) = true := by kernel_rfl
theorem jf_clientPauses_13 : ((Rows.clientPausesRow.maps == (Tryz.f5.params.toList ++ Rows.clientPausesSpec.plain.varTypes Tryz.prog).any (Tryz.prog.mapsRec ·))) = true := by kernel_rfl
theorem jf_clientPauses_14 : ((Rows.clientPausesRow.ifaces == (Tryz.f5.params.toList ++ Rows.clientPausesSpec.plain.varTypes Tryz.prog).any (Tryz.prog.ifacesRec ·))) = true := by kernel_rfl
theorem jf_clientPauses_15 : ((Rows.clientPausesRow.mapsOut == Tryz.prog.mapsAmong Tryz.f5.resultTypes.toList)) = true := by kernel_rfl
theorem jf_clientPauses_16 : ((Rows.clientPausesRow.loops == (Tryz.f5.params.toList ++ Rows.clientPausesSpec.plain.varTypes Tryz.prog).any (Tryz.prog.loopsFrom ·))) = true := by kernel_rfl
theorem jf_clientPauses_17 : ((Rows.clientPausesRow.wideKeys == (Tryz.f5.params.toList ++ Rows.clientPausesSpec.plain.varTypes Tryz.prog ++ Tryz.f5.resultTypes.toList).any (Tryz.prog.wideKeysFrom ·))) = true := by kernel_rfl
theorem jf_clientPauses_18 : (Rows.clientPausesSpec.vars.all (Tryz.prog.varReadable ·)) = true := by kernel_rfl
theorem jf_clientPauses_19 : (Tryz.f5.resultTypes.all (fun t => Tryz.prog.readableRec t && decide (t < Tryz.prog.types.size))) = true := by kernel_rfl
theorem jf_clientPauses_20 : ((Rows.clientPausesRow.ifacesOut == Tryz.f5.resultTypes.toList.any (Tryz.prog.ifacesRec ·))) = true := by kernel_rfl
theorem jf_clientPauses_21 : ((Rows.clientPausesRow.loopsOut == Tryz.f5.resultTypes.toList.any (Tryz.prog.loopsFrom ·))) = true := by kernel_rfl
theorem jf_clientPauses_22 : ((Rows.clientPausesRow.plainKeys == Tryz.prog.plainKeys)) = true := by kernel_rfl
theorem jf_clientPauses_23 : (Rows.clientPausesRow.shortTexts.isNone) = true := by kernel_rfl
theorem jf_clientPauses_24 : (Tryz.prog.stopsHeard) = true := by kernel_rfl
theorem jf_clientPauses_25 : (Tryz.prog.mayEnter) = true := by kernel_rfl
theorem jf_clientPauses_26 : ((Rows.clientPausesRow.lifted == Tryz.prog.liftsFinal)) = true := by kernel_rfl
theorem jf_clientPauses_27 : ((Tryz.prog.make == some Rows.clientPausesRow.make)) = true := by kernel_rfl
theorem jf_clientPauses_28 : ((Rows.clientPausesRow.kinds == (if Rows.clientPausesRow.domain.isEmpty then [] else Tryz.f5.params.toList.map fun t => match Tryz.prog.underlying t with | some (.int k) => some k | _ => none))) = true := by kernel_rfl
theorem jf_clientPauses_29 : ((Rows.clientPausesRow.pinned == Rows.clientPausesRow.pinnedBy)) = true := by kernel_rfl
theorem jf_clientPauses_30 : ((Rows.clientPausesRow.veiled == (Tryz.f5.params.toList ++ Rows.clientPausesSpec.plain.varTypes Tryz.prog ++ Tryz.f5.resultTypes.toList).any (Tryz.prog.veiledRec ·))) = true := by kernel_rfl
theorem jf_clientPauses_31 : (Rows.clientPausesRow.veiledFits Tryz.prog Tryz.f5.params.toList (Tryz.f5.params.toList ++ Rows.clientPausesSpec.plain.varTypes Tryz.prog ++ Tryz.f5.resultTypes.toList)) = true := by kernel_rfl
end Go.Proofs.YtngnkeejmlhdaaaGreat
namespace Go.Proofs.YtngnkeejmlhdaaaGreat
open Go.ChangeShapes Go.WideShapes Go.ChangeAt Go.RowKit
theorem bt {a b : Bool} (h : a = true) (h' : b = true) : (a && b) = true := by rw [h, h']; rfl
set_option maxRecDepth 100000 in
theorem jf_clientPauses : joinedFacts Tryz.prog 5 Tryz.f5 Rows.clientPausesSpec Rows.clientPausesRow = true := by
  unfold joinedFacts
  exact (bt (bt (bt (bt (bt (bt (bt (bt (bt (bt (bt (bt (bt (bt (bt (bt (bt (bt (bt (bt (bt (bt (bt (bt (bt (bt (bt (bt (bt (bt (bt jf_clientPauses_0 jf_clientPauses_1) jf_clientPauses_2) jf_clientPauses_3) jf_clientPauses_4) jf_clientPauses_5) jf_clientPauses_6) jf_clientPauses_7) jf_clientPauses_8) jf_clientPauses_9) jf_clientPauses_10) jf_clientPauses_11) jf_clientPauses_12) jf_clientPauses_13) jf_clientPauses_14) jf_clientPauses_15) jf_clientPauses_16) jf_clientPauses_17) jf_clientPauses_18) jf_clientPauses_19) jf_clientPauses_20) jf_clientPauses_21) jf_clientPauses_22) jf_clientPauses_23) jf_clientPauses_24) jf_clientPauses_25) jf_clientPauses_26) jf_clientPauses_27) jf_clientPauses_28) jf_clientPauses_29) jf_clientPauses_30) jf_clientPauses_31)
end Go.Proofs.YtngnkeejmlhdaaaGreat
