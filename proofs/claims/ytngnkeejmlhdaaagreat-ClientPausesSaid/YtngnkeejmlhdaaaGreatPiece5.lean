/- Piece5. Texts joined by program (asm.py): RemSE. -/
import Derived.Test.YtngnkeejmlhdaaaGreatLayer30
import Derived.Test.YtngnkeejmlhdaaaGreatPiece1
import Derived.Test.YtngnkeejmlhdaaaGreatPiece2
import Derived.Test.YtngnkeejmlhdaaaGreatPiece3
import Derived.Test.YtngnkeejmlhdaaaGreatPiece4
set_option linter.all false
namespace Go.Rem.RemS
open Go.Proofs
theorem pE : table Ty.types.get (onlyL 4465697122076957762099006473740081833814962763052004713214335820841217697604231748002161064446926764010147078827239353577405479947280258432 fl31) .nil (fun t => memoB2 (callE ⟨t, RemS.o17⟩ 10000 200) 31 [] [] 0 (.bool true) [] 9725) = true := by kernel_rfl
theorem oE_ok : SoundC Tryz.prog (orC none0 31 (memoO2 [] [] 0 (.bool true) [] 9725)) := piece_ok RemS.o17_ok SoundC.none pE
end Go.Rem.RemS
