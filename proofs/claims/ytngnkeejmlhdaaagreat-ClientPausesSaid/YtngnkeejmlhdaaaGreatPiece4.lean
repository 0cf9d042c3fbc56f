/- Piece4. Texts joined by program (asm.py): RemS14 RemS15 RemS16 RemS17. -/
import Derived.Test.YtngnkeejmlhdaaaGreatLayer30
import Derived.Test.YtngnkeejmlhdaaaGreatPiece3
set_option linter.all false
/- ni : 8716 -/
namespace Go.Rem.RemS
open Go.Proofs
noncomputable def a14 : List Value := [.pointer (some ⟨4, 0, none⟩), .agg #[.int .i64 (.ofNat 3), .int .i64 (.ofNat 0), .int .i64 (.ofNat 0), .int .i64 (.ofNat 0), .slice none 0 0]]
noncomputable def i14 : List (Nat × ABlk) := [
  (2, .map []),
  (3, .cells [.int .i64 (.ofNat 2), .map (some 2), .slice (some ⟨8185, 0, none⟩) 3 9] 261 false),
  (4, .cells [.pointer (some ⟨3, 0, none⟩), .int .i64 (.ofNat 2), .int .i64 (.ofNat 2), .int .i64 (.ofNat 10000), .slice (some ⟨634, 0, none⟩) 2 5, .int .i64 (.ofNat 13), .slice (some ⟨1265, 0, none⟩) 1 3] 146 false),
  (5, .cells [.bool false, .bool false, .int .i64 (.negSucc 92), .string (mkStr [0, 9, 2, 0, 0, 0, 0, 0, 0, 0, 1, 54, 130, 99, 206, 0, 70, 5, 0, 0, 0, 0, 0, 0, 0, 1, 0, 0, 0, 0, 0, 0, 0, 1, 0, 0, 0, 0, 0, 0, 0, 1, 0, 1, 0, 0, 0, 0, 0, 0, 0, 1, 0, 0, 0, 0, 0, 0, 0, 0, 0, 0, 0, 0, 0, 0, 0, 0, 1, 0, 0, 0, 0, 0, 0, 0, 4, 0, 1, 0, 0, 0, 0, 0, 0, 0, 2, 218, 92, 22, 61]), .int .i64 (.ofNat 91), .int .i64 (.ofNat 10000)] 89 false),
  (6, .cells [.pointer (some ⟨176, 0, none⟩), .pointer (some ⟨5, 0, none⟩)] 149 false),
  (52, .cells [.pointer (some ⟨5, 0, none⟩), .bool false] 278 false),
  (62, .cells [.pointer (some ⟨52, 0, none⟩), .int .i64 (.ofNat 1), .int .i64 (.ofNat 2), .int .i64 (.ofNat 2), .int .i64 (.ofNat 1), .slice (some ⟨5447, 0, none⟩) 2 5, .slice none 0 0, .slice none 0 0, .slice (some ⟨5558, 0, none⟩) 1 3, .pointer (some ⟨5, 0, none⟩)] 170 false),
  (173, .map []),
  (174, .map [(.agg #[.int .i64 (.ofNat 1), .int .i64 (.ofNat 1), .int .i64 (.ofNat 1)], .slice (some ⟨6026, 0, none⟩) 1 3)]),
  (176, .cells [.pointer (some ⟨62, 0, none⟩), .pointer (some ⟨232, 0, none⟩), .int .i64 (.ofNat 1), .int .i64 (.ofNat 2), .int .i64 (.ofNat 2), .int .i64 (.ofNat 1), .pointer (some ⟨309, 0, none⟩), .pointer (some ⟨178, 0, none⟩), .pointer (some ⟨310, 0, none⟩), .pointer (some ⟨312, 0, none⟩), .int .i64 (.ofNat 1), .slice (some ⟨851, 0, none⟩) 0 3, .map (some 173), .map (some 174), .slice (some ⟨209, 0, none⟩) 2 5, .slice none 0 0, .slice none 0 0] 111 false),
  (178, .cells [.int .i64 (.ofNat 1), .slice (some ⟨1359, 0, none⟩) 1 3] 181 false),
  (209, .cells [.int .i64 (.ofNat 1), .slice none 0 0, .slice none 0 0, .bool false, .int .i64 (.ofNat 0), .int .i64 (.ofNat 2), .slice none 0 0, .slice none 0 0, .bool false, .int .i64 (.ofNat 0)] 118 true),
  (232, .cells [.slice (some ⟨282, 0, none⟩) 2 5] 291 false),
  (282, .cells [.int .i64 (.ofNat 1), .int .i64 (.ofNat 2), .int .i64 (.ofNat 1), .int .i64 (.ofNat 1), .int .i64 (.ofNat 2), .int .i64 (.ofNat 2)] 293 true),
  (308, .cells [.int .i64 (.ofNat 0), .int .u64 (.ofNat 0), .int .i64 (.ofNat 0), .int .i64 (.ofNat 1), .slice none 0 0, .int .i64 (.ofNat 3), .int .u64 (.ofNat 7), .int .i64 (.ofNat 1), .int .i64 (.ofNat 4), .slice (some ⟨3259, 0, none⟩) 1 5] 222 false),
  (309, .cells [.int .i64 (.ofNat 1), .int .i64 (.ofNat 1), .slice (some ⟨308, 0, none⟩) 2 4] 226 false),
  (310, .cells [.int .i64 (.ofNat 8), .slice (some ⟨2512, 0, none⟩) 0 3] 299 false),
  (311, .cells [.int .i64 (.ofNat 0), .int .i64 (.ofNat 0), .int .i64 (.ofNat 0), .int .i64 (.ofNat 0), .bool false, .int .i64 (.ofNat 0), .int .i64 (.ofNat 0), .int .i64 (.ofNat 0), .int .i64 (.ofNat 0), .bool false] 372 false),
  (312, .cells [.slice (some ⟨311, 0, none⟩) 2 4] 302 false),
  (318, .cells [.bool false, .bool false, .int .i64 (.negSucc 125), .string (mkStr [0, 9, 2, 0, 0, 0, 0, 0, 0, 0, 1, 54, 130, 99, 206, 0, 70, 4, 0, 0, 0, 0, 0, 0, 0, 1, 0, 0, 0, 0, 0, 0, 0, 1, 0, 0, 0, 0, 0, 0, 0, 1, 0, 1, 0, 0, 0, 0, 0, 0, 0, 1, 0, 0, 0, 0, 0, 0, 0, 0, 0, 0, 0, 0, 0, 0, 0, 0, 1, 0, 0, 0, 0, 0, 0, 0, 4, 0, 1, 0, 0, 0, 0, 0, 0, 0, 2, 177, 100, 112, 100, 0, 26, 6, 0, 0, 0, 0, 0, 0, 0, 1, 0, 0, 0, 0, 0, 0, 0, 1, 0, 0, 0, 0, 0, 0, 0, 1, 1, 13, 61, 204, 144]), .int .i64 (.ofNat 123), .int .i64 (.ofNat 10000)] 89 false),
  (319, .cells [.pointer (some ⟨489, 0, none⟩), .pointer (some ⟨318, 0, none⟩)] 149 false),
  (365, .cells [.pointer (some ⟨318, 0, none⟩), .bool false] 278 false),
  (375, .cells [.pointer (some ⟨365, 0, none⟩), .int .i64 (.ofNat 2), .int .i64 (.ofNat 2), .int .i64 (.ofNat 2), .int .i64 (.ofNat 1), .slice (some ⟨6969, 0, none⟩) 2 5, .slice (some ⟨6971, 0, none⟩) 0 3, .slice (some ⟨7105, 0, none⟩) 1 3, .slice none 0 0, .pointer (some ⟨318, 0, none⟩)] 170 false),
  (486, .map []),
  (487, .map []),
  (489, .cells [.pointer (some ⟨375, 0, none⟩), .pointer (some ⟨545, 0, none⟩), .int .i64 (.ofNat 2), .int .i64 (.ofNat 2), .int .i64 (.ofNat 2), .int .i64 (.ofNat 1), .pointer (some ⟨626, 0, none⟩), .pointer (some ⟨491, 0, none⟩), .pointer (some ⟨627, 0, none⟩), .pointer (some ⟨629, 0, none⟩), .int .i64 (.ofNat 0), .slice none 0 0, .map (some 486), .map (some 487), .slice (some ⟨522, 0, none⟩) 2 5, .slice none 0 0, .slice none 0 0] 111 false),
  (491, .cells [.int .i64 (.ofNat 1), .slice (some ⟨4574, 0, none⟩) 0 3] 181 false),
  (522, .cells [.int .i64 (.ofNat 1), .slice none 0 0, .slice none 0 0, .bool false, .int .i64 (.ofNat 0), .int .i64 (.ofNat 2), .slice none 0 0, .slice none 0 0, .bool false, .int .i64 (.ofNat 0)] 118 true),
  (545, .cells [.slice (some ⟨599, 0, none⟩) 2 5] 291 false),
  (599, .cells [.int .i64 (.ofNat 2), .int .i64 (.ofNat 2), .int .i64 (.ofNat 1), .int .i64 (.ofNat 2), .int .i64 (.ofNat 2), .int .i64 (.ofNat 2)] 293 true),
  (625, .cells [.int .i64 (.ofNat 3), .int .u64 (.ofNat 7), .int .i64 (.ofNat 1), .int .i64 (.ofNat 5), .slice (some ⟨7785, 0, none⟩) 2 7, .int .i64 (.ofNat 0), .int .u64 (.ofNat 0), .int .i64 (.ofNat 0), .int .i64 (.ofNat 1), .slice none 0 0] 222 false),
  (626, .cells [.int .i64 (.ofNat 2), .int .i64 (.ofNat 1), .slice (some ⟨625, 0, none⟩) 2 4] 226 false),
  (627, .cells [.int .i64 (.ofNat 8), .slice none 0 0] 299 false),
  (628, .cells [.int .i64 (.ofNat 0), .int .i64 (.ofNat 0), .int .i64 (.ofNat 0), .int .i64 (.ofNat 0), .bool false, .int .i64 (.ofNat 0), .int .i64 (.ofNat 0), .int .i64 (.ofNat 0), .int .i64 (.ofNat 0), .bool false] 372 false),
  (629, .cells [.slice (some ⟨628, 0, none⟩) 2 4] 302 false),
  (634, .cells [.pointer (some ⟨6, 0, none⟩), .pointer (some ⟨319, 0, none⟩)] 147 true),
  (851, .cells [.pointer none] 204 true),
  (1264, .cells [.int .i64 (.ofNat 3), .int .i64 (.ofNat 0), .int .i64 (.ofNat 0), .int .i64 (.ofNat 0), .int .i64 (.ofNat 4), .int .i64 (.ofNat 2), .int .i64 (.ofNat 1), .int .i64 (.ofNat 0), .int .i64 (.ofNat 0), .int .i64 (.ofNat 0)] 80 true),
  (1265, .cells [.int .i64 (.ofNat 1), .int .i64 (.ofNat 1), .int .i64 (.ofNat 1), .slice (some ⟨1264, 0, none⟩) 2 5, .int .i64 (.ofNat 1), .bool true, .int .i64 (.ofNat 1), .int .i64 (.ofNat 1), .int .i64 (.ofNat 1), .bool true, .int .i64 (.ofNat 0), .int .i64 (.ofNat 4), .int .i64 (.ofNat 0), .int .i64 (.ofNat 0), .int .i64 (.ofNat 0), .int .i64 (.ofNat 0), .int .i64 (.ofNat 0), .int .i64 (.ofNat 0), .int .i64 (.ofNat 0), .int .i64 (.ofNat 9)] 140 true),
  (1359, .cells [.int .i64 (.ofNat 3), .int .i64 (.ofNat 0), .int .i64 (.ofNat 0), .int .i64 (.ofNat 1), .int .i64 (.ofNat 1), .int .i64 (.ofNat 1), .int .i64 (.ofNat 9)] 246 true),
  (2512, .cells [.int .i64 (.ofNat 0), .int .i64 (.ofNat 0), .int .i64 (.ofNat 0), .int .i64 (.ofNat 0)] 422 true),
  (3259, .cells [.int .i64 (.ofNat 3), .string (mkStr [11, 0, 0, 0, 0, 0, 0, 0, 1, 0, 0, 0, 0, 0, 0, 0, 1, 0, 0, 0, 0, 0, 0, 0, 1, 1]), .int .i64 (.ofNat 4), .int .i64 (.ofNat 8), .int .i64 (.ofNat 0), .string (mkStr []), .int .i64 (.ofNat 0), .int .i64 (.ofNat 0)] 232 true),
  (4574, .cells [.int .i64 (.ofNat 0), .int .i64 (.ofNat 0), .int .i64 (.ofNat 0), .int .i64 (.ofNat 0), .int .i64 (.ofNat 0), .int .i64 (.ofNat 0), .int .i64 (.ofNat 0)] 246 true),
  (5447, .cells [.int .i64 (.ofNat 1), .int .i64 (.ofNat 0), .int .i64 (.ofNat 0), .int .i64 (.ofNat 0), .int .i64 (.ofNat 0), .int .i64 (.ofNat 0), .int .i64 (.ofNat 0), .int .i64 (.ofNat 0), .int .i64 (.ofNat 0), .int .i64 (.ofNat 0)] 85 true),
  (5555, .cells [.int .i64 (.ofNat 1), .int .i64 (.ofNat 0), .int .i64 (.ofNat 0), .bool true, .int .i64 (.ofNat 4)] 391 true),
  (5557, .cells [.int .i64 (.ofNat 2)] 3 true),
  (5558, .cells [.int .i64 (.ofNat 1), .int .i64 (.ofNat 1), .int .i64 (.ofNat 1), .slice (some ⟨5555, 0, none⟩) 1 3, .slice (some ⟨5557, 0, none⟩) 1 3, .bool false] 116 true),
  (6026, .cells [.int .i64 (.ofNat 2)] 3 true),
  (6969, .cells [.int .i64 (.ofNat 0), .int .i64 (.ofNat 0), .int .i64 (.ofNat 0), .int .i64 (.ofNat 0), .int .i64 (.ofNat 0), .int .i64 (.ofNat 1), .int .i64 (.ofNat 0), .int .i64 (.ofNat 0), .int .i64 (.ofNat 1), .int .i64 (.ofNat 4)] 85 true),
  (6971, .cells [.int .i64 (.ofNat 0), .int .i64 (.ofNat 0), .int .i64 (.ofNat 0), .slice none 0 0, .slice none 0 0] 194 true),
  (7105, .cells [.int .i64 (.ofNat 1), .int .i64 (.ofNat 1), .int .i64 (.ofNat 1), .bool true] 394 true),
  (7785, .cells [.int .i64 (.ofNat 3), .string (mkStr [15, 0, 0, 0, 0, 0, 0, 0, 1, 0, 0, 0, 0, 0, 0, 0, 1]), .int .i64 (.ofNat 4), .int .i64 (.ofNat 8), .int .i64 (.ofNat 4), .string (mkStr [12, 0, 0, 0, 0, 0, 0, 0, 1, 0, 0, 0, 0, 0, 0, 0, 1, 0, 0, 0, 0, 0, 0, 0, 1]), .int .i64 (.ofNat 4), .int .i64 (.ofNat 8), .int .i64 (.ofNat 0), .string (mkStr []), .int .i64 (.ofNat 0), .int .i64 (.ofNat 0)] 232 true),
  (8185, .cells [.int .i64 (.ofNat 2), .int .i64 (.ofNat 1), .string (mkStr [0, 52, 1, 0, 0, 0, 0, 0, 0, 0, 1, 0, 0, 0, 0, 0, 0, 0, 1, 0, 0, 0, 0, 0, 0, 0, 4, 0, 25, 12, 0, 0, 0, 0, 0, 0, 0, 1, 0, 0, 0, 0, 0, 0, 0, 1, 0, 0, 0, 0, 0, 0, 0, 1, 194, 137, 89, 182]), .bool false, .int .i64 (.ofNat 2), .int .i64 (.ofNat 1), .string (mkStr [0, 25, 2, 0, 0, 0, 0, 0, 0, 0, 1, 0, 0, 0, 0, 0, 0, 0, 1, 0, 0, 0, 0, 0, 0, 0, 3, 7, 42, 174, 155]), .bool false, .int .i64 (.ofNat 1), .int .i64 (.ofNat 2), .string (mkStr [0, 25, 2, 0, 0, 0, 0, 0, 0, 0, 1, 0, 0, 0, 0, 0, 0, 0, 1, 0, 0, 0, 0, 0, 0, 0, 3, 7, 42, 174, 155]), .bool false, .int .i64 (.ofNat 0), .int .i64 (.ofNat 0), .string (mkStr []), .bool false] 239 true)]
noncomputable def o14_ : List (Nat × ABlk) := [
  (4, .cells [.pointer (some ⟨3, 0, none⟩), .int .i64 (.ofNat 2), .int .i64 (.ofNat 2), .int .i64 (.ofNat 10000), .slice (some ⟨634, 0, none⟩) 2 5, .int .i64 (.ofNat 14), .slice (some ⟨1265, 0, none⟩) 1 3] 146 false),
  (5, .cells [.bool false, .bool false, .int .i64 (.negSucc 123), .string (mkStr [0, 9, 2, 0, 0, 0, 0, 0, 0, 0, 1, 54, 130, 99, 206, 0, 70, 5, 0, 0, 0, 0, 0, 0, 0, 1, 0, 0, 0, 0, 0, 0, 0, 1, 0, 0, 0, 0, 0, 0, 0, 1, 0, 1, 0, 0, 0, 0, 0, 0, 0, 1, 0, 0, 0, 0, 0, 0, 0, 0, 0, 0, 0, 0, 0, 0, 0, 0, 1, 0, 0, 0, 0, 0, 0, 0, 4, 0, 1, 0, 0, 0, 0, 0, 0, 0, 2, 218, 92, 22, 61, 0, 25, 7, 0, 0, 0, 0, 0, 0, 0, 1, 0, 0, 0, 0, 0, 0, 0, 1, 0, 0, 0, 0, 0, 0, 0, 1, 222, 145, 150, 43]), .int .i64 (.ofNat 91), .int .i64 (.ofNat 10000)] 89 false),
  (62, .cells [.pointer (some ⟨52, 0, none⟩), .int .i64 (.ofNat 1), .int .i64 (.ofNat 2), .int .i64 (.ofNat 2), .int .i64 (.ofNat 1), .slice (some ⟨8975, 0, none⟩) 2 5, .slice none 0 0, .slice none 0 0, .slice (some ⟨8977, 0, none⟩) 1 3, .pointer (some ⟨5, 0, none⟩)] 170 false),
  (174, .map []),
  (178, .cells [.int .i64 (.ofNat 1), .slice (some ⟨1359, 0, none⟩) 0 3] 181 false),
  (308, .cells [.int .i64 (.ofNat 0), .int .u64 (.ofNat 0), .int .i64 (.ofNat 0), .int .i64 (.ofNat 1), .slice none 0 0, .int .i64 (.ofNat 4), .int .u64 (.ofNat 15), .int .i64 (.ofNat 1), .int .i64 (.ofNat 4), .slice (some ⟨3259, 0, none⟩) 1 5] 222 false),
  (1359, .cells [.int .i64 (.ofNat 0), .int .i64 (.ofNat 0), .int .i64 (.ofNat 0), .int .i64 (.ofNat 0), .int .i64 (.ofNat 0), .int .i64 (.ofNat 0), .int .i64 (.ofNat 0)] 246 true),
  (8185, .cells [.int .i64 (.ofNat 2), .int .i64 (.ofNat 1), .string (mkStr [0, 25, 2, 0, 0, 0, 0, 0, 0, 0, 1, 0, 0, 0, 0, 0, 0, 0, 1, 0, 0, 0, 0, 0, 0, 0, 3, 7, 42, 174, 155]), .bool false, .int .i64 (.ofNat 1), .int .i64 (.ofNat 2), .string (mkStr [0, 25, 2, 0, 0, 0, 0, 0, 0, 0, 1, 0, 0, 0, 0, 0, 0, 0, 1, 0, 0, 0, 0, 0, 0, 0, 3, 7, 42, 174, 155]), .bool false, .int .i64 (.ofNat 1), .int .i64 (.ofNat 2), .string (mkStr [0, 25, 2, 0, 0, 0, 0, 0, 0, 0, 1, 0, 0, 0, 0, 0, 0, 0, 1, 0, 0, 0, 0, 0, 0, 0, 4, 164, 191, 202, 5]), .bool false, .int .i64 (.ofNat 0), .int .i64 (.ofNat 0), .string (mkStr []), .bool false] 239 true),
  (8975, .cells [.int .i64 (.ofNat 1), .int .i64 (.ofNat 0), .int .i64 (.ofNat 0), .int .i64 (.ofNat 0), .int .i64 (.ofNat 0), .int .i64 (.ofNat 0), .int .i64 (.ofNat 0), .int .i64 (.ofNat 0), .int .i64 (.ofNat 0), .int .i64 (.ofNat 0)] 85 true),
  (8977, .cells [.int .i64 (.ofNat 1), .int .i64 (.ofNat 1), .int .i64 (.ofNat 1), .slice (some ⟨8998, 0, none⟩) 1 3, .slice (some ⟨9000, 0, none⟩) 1 3, .bool true] 116 true),
  (8998, .cells [.int .i64 (.ofNat 1), .int .i64 (.ofNat 0), .int .i64 (.ofNat 0), .bool true, .int .i64 (.ofNat 4)] 391 true),
  (9000, .cells [.int .i64 (.ofNat 2)] 3 true)]
noncomputable def v14 : Value := .int .i64 (.ofNat 0)
theorem p14 : table Ty.types.get (onlyL 21154174304004233843326189914268554520180366963836287410938057481299864000937832797375024561761819020358334717774768011169792 fl31) .nil (fun t => memoB2 (callE ⟨t, orc1⟩ 10000 200) 22 a14 i14 8716 v14 o14_ 9347) = true := by kernel_rfl
noncomputable def o14 : CallT := orC RemS.o13 22 (memoO2 a14 i14 8716 v14 o14_ 9347)
theorem o14_ok : SoundC Tryz.prog o14 := piece_ok orc1_ok RemS.o13_ok p14
end Go.Rem.RemS
/- ni : 9349 -/
namespace Go.Rem.RemS
open Go.Proofs
noncomputable def a15 : List Value := [.pointer (some ⟨4, 0, none⟩), .agg #[.int .i64 (.ofNat 3), .int .i64 (.ofNat 0), .int .i64 (.ofNat 0), .int .i64 (.ofNat 0), .slice none 0 0]]
noncomputable def i15 : List (Nat × ABlk) := [
  (2, .map []),
  (3, .cells [.int .i64 (.ofNat 2), .map (some 2), .slice (some ⟨8185, 0, none⟩) 3 9] 261 false),
  (4, .cells [.pointer (some ⟨3, 0, none⟩), .int .i64 (.ofNat 2), .int .i64 (.ofNat 2), .int .i64 (.ofNat 10000), .slice (some ⟨634, 0, none⟩) 2 5, .int .i64 (.ofNat 14), .slice (some ⟨1265, 0, none⟩) 1 3] 146 false),
  (5, .cells [.bool false, .bool false, .int .i64 (.negSucc 123), .string (mkStr [0, 9, 2, 0, 0, 0, 0, 0, 0, 0, 1, 54, 130, 99, 206, 0, 70, 5, 0, 0, 0, 0, 0, 0, 0, 1, 0, 0, 0, 0, 0, 0, 0, 1, 0, 0, 0, 0, 0, 0, 0, 1, 0, 1, 0, 0, 0, 0, 0, 0, 0, 1, 0, 0, 0, 0, 0, 0, 0, 0, 0, 0, 0, 0, 0, 0, 0, 0, 1, 0, 0, 0, 0, 0, 0, 0, 4, 0, 1, 0, 0, 0, 0, 0, 0, 0, 2, 218, 92, 22, 61, 0, 25, 7, 0, 0, 0, 0, 0, 0, 0, 1, 0, 0, 0, 0, 0, 0, 0, 1, 0, 0, 0, 0, 0, 0, 0, 1, 222, 145, 150, 43]), .int .i64 (.ofNat 91), .int .i64 (.ofNat 10000)] 89 false),
  (6, .cells [.pointer (some ⟨176, 0, none⟩), .pointer (some ⟨5, 0, none⟩)] 149 false),
  (52, .cells [.pointer (some ⟨5, 0, none⟩), .bool false] 278 false),
  (62, .cells [.pointer (some ⟨52, 0, none⟩), .int .i64 (.ofNat 1), .int .i64 (.ofNat 2), .int .i64 (.ofNat 2), .int .i64 (.ofNat 1), .slice (some ⟨8975, 0, none⟩) 2 5, .slice none 0 0, .slice none 0 0, .slice (some ⟨8977, 0, none⟩) 1 3, .pointer (some ⟨5, 0, none⟩)] 170 false),
  (173, .map []),
  (174, .map []),
  (176, .cells [.pointer (some ⟨62, 0, none⟩), .pointer (some ⟨232, 0, none⟩), .int .i64 (.ofNat 1), .int .i64 (.ofNat 2), .int .i64 (.ofNat 2), .int .i64 (.ofNat 1), .pointer (some ⟨309, 0, none⟩), .pointer (some ⟨178, 0, none⟩), .pointer (some ⟨310, 0, none⟩), .pointer (some ⟨312, 0, none⟩), .int .i64 (.ofNat 1), .slice (some ⟨851, 0, none⟩) 0 3, .map (some 173), .map (some 174), .slice (some ⟨209, 0, none⟩) 2 5, .slice none 0 0, .slice none 0 0] 111 false),
  (178, .cells [.int .i64 (.ofNat 1), .slice (some ⟨1359, 0, none⟩) 0 3] 181 false),
  (209, .cells [.int .i64 (.ofNat 1), .slice none 0 0, .slice none 0 0, .bool false, .int .i64 (.ofNat 0), .int .i64 (.ofNat 2), .slice none 0 0, .slice none 0 0, .bool false, .int .i64 (.ofNat 0)] 118 true),
  (232, .cells [.slice (some ⟨282, 0, none⟩) 2 5] 291 false),
  (282, .cells [.int .i64 (.ofNat 1), .int .i64 (.ofNat 2), .int .i64 (.ofNat 1), .int .i64 (.ofNat 1), .int .i64 (.ofNat 2), .int .i64 (.ofNat 2)] 293 true),
  (308, .cells [.int .i64 (.ofNat 0), .int .u64 (.ofNat 0), .int .i64 (.ofNat 0), .int .i64 (.ofNat 1), .slice none 0 0, .int .i64 (.ofNat 4), .int .u64 (.ofNat 15), .int .i64 (.ofNat 1), .int .i64 (.ofNat 4), .slice (some ⟨3259, 0, none⟩) 1 5] 222 false),
  (309, .cells [.int .i64 (.ofNat 1), .int .i64 (.ofNat 1), .slice (some ⟨308, 0, none⟩) 2 4] 226 false),
  (310, .cells [.int .i64 (.ofNat 8), .slice (some ⟨2512, 0, none⟩) 0 3] 299 false),
  (311, .cells [.int .i64 (.ofNat 0), .int .i64 (.ofNat 0), .int .i64 (.ofNat 0), .int .i64 (.ofNat 0), .bool false, .int .i64 (.ofNat 0), .int .i64 (.ofNat 0), .int .i64 (.ofNat 0), .int .i64 (.ofNat 0), .bool false] 372 false),
  (312, .cells [.slice (some ⟨311, 0, none⟩) 2 4] 302 false),
  (318, .cells [.bool false, .bool false, .int .i64 (.negSucc 125), .string (mkStr [0, 9, 2, 0, 0, 0, 0, 0, 0, 0, 1, 54, 130, 99, 206, 0, 70, 4, 0, 0, 0, 0, 0, 0, 0, 1, 0, 0, 0, 0, 0, 0, 0, 1, 0, 0, 0, 0, 0, 0, 0, 1, 0, 1, 0, 0, 0, 0, 0, 0, 0, 1, 0, 0, 0, 0, 0, 0, 0, 0, 0, 0, 0, 0, 0, 0, 0, 0, 1, 0, 0, 0, 0, 0, 0, 0, 4, 0, 1, 0, 0, 0, 0, 0, 0, 0, 2, 177, 100, 112, 100, 0, 26, 6, 0, 0, 0, 0, 0, 0, 0, 1, 0, 0, 0, 0, 0, 0, 0, 1, 0, 0, 0, 0, 0, 0, 0, 1, 1, 13, 61, 204, 144]), .int .i64 (.ofNat 123), .int .i64 (.ofNat 10000)] 89 false),
  (319, .cells [.pointer (some ⟨489, 0, none⟩), .pointer (some ⟨318, 0, none⟩)] 149 false),
  (365, .cells [.pointer (some ⟨318, 0, none⟩), .bool false] 278 false),
  (375, .cells [.pointer (some ⟨365, 0, none⟩), .int .i64 (.ofNat 2), .int .i64 (.ofNat 2), .int .i64 (.ofNat 2), .int .i64 (.ofNat 1), .slice (some ⟨6969, 0, none⟩) 2 5, .slice (some ⟨6971, 0, none⟩) 0 3, .slice (some ⟨7105, 0, none⟩) 1 3, .slice none 0 0, .pointer (some ⟨318, 0, none⟩)] 170 false),
  (486, .map []),
  (487, .map []),
  (489, .cells [.pointer (some ⟨375, 0, none⟩), .pointer (some ⟨545, 0, none⟩), .int .i64 (.ofNat 2), .int .i64 (.ofNat 2), .int .i64 (.ofNat 2), .int .i64 (.ofNat 1), .pointer (some ⟨626, 0, none⟩), .pointer (some ⟨491, 0, none⟩), .pointer (some ⟨627, 0, none⟩), .pointer (some ⟨629, 0, none⟩), .int .i64 (.ofNat 0), .slice none 0 0, .map (some 486), .map (some 487), .slice (some ⟨522, 0, none⟩) 2 5, .slice none 0 0, .slice none 0 0] 111 false),
  (491, .cells [.int .i64 (.ofNat 1), .slice (some ⟨4574, 0, none⟩) 0 3] 181 false),
  (522, .cells [.int .i64 (.ofNat 1), .slice none 0 0, .slice none 0 0, .bool false, .int .i64 (.ofNat 0), .int .i64 (.ofNat 2), .slice none 0 0, .slice none 0 0, .bool false, .int .i64 (.ofNat 0)] 118 true),
  (545, .cells [.slice (some ⟨599, 0, none⟩) 2 5] 291 false),
  (599, .cells [.int .i64 (.ofNat 2), .int .i64 (.ofNat 2), .int .i64 (.ofNat 1), .int .i64 (.ofNat 2), .int .i64 (.ofNat 2), .int .i64 (.ofNat 2)] 293 true),
  (625, .cells [.int .i64 (.ofNat 3), .int .u64 (.ofNat 7), .int .i64 (.ofNat 1), .int .i64 (.ofNat 5), .slice (some ⟨7785, 0, none⟩) 2 7, .int .i64 (.ofNat 0), .int .u64 (.ofNat 0), .int .i64 (.ofNat 0), .int .i64 (.ofNat 1), .slice none 0 0] 222 false),
  (626, .cells [.int .i64 (.ofNat 2), .int .i64 (.ofNat 1), .slice (some ⟨625, 0, none⟩) 2 4] 226 false),
  (627, .cells [.int .i64 (.ofNat 8), .slice none 0 0] 299 false),
  (628, .cells [.int .i64 (.ofNat 0), .int .i64 (.ofNat 0), .int .i64 (.ofNat 0), .int .i64 (.ofNat 0), .bool false, .int .i64 (.ofNat 0), .int .i64 (.ofNat 0), .int .i64 (.ofNat 0), .int .i64 (.ofNat 0), .bool false] 372 false),
  (629, .cells [.slice (some ⟨628, 0, none⟩) 2 4] 302 false),
  (634, .cells [.pointer (some ⟨6, 0, none⟩), .pointer (some ⟨319, 0, none⟩)] 147 true),
  (851, .cells [.pointer none] 204 true),
  (1264, .cells [.int .i64 (.ofNat 3), .int .i64 (.ofNat 0), .int .i64 (.ofNat 0), .int .i64 (.ofNat 0), .int .i64 (.ofNat 4), .int .i64 (.ofNat 2), .int .i64 (.ofNat 1), .int .i64 (.ofNat 0), .int .i64 (.ofNat 0), .int .i64 (.ofNat 0)] 80 true),
  (1265, .cells [.int .i64 (.ofNat 1), .int .i64 (.ofNat 1), .int .i64 (.ofNat 1), .slice (some ⟨1264, 0, none⟩) 2 5, .int .i64 (.ofNat 1), .bool true, .int .i64 (.ofNat 1), .int .i64 (.ofNat 1), .int .i64 (.ofNat 1), .bool true, .int .i64 (.ofNat 0), .int .i64 (.ofNat 4), .int .i64 (.ofNat 0), .int .i64 (.ofNat 0), .int .i64 (.ofNat 0), .int .i64 (.ofNat 0), .int .i64 (.ofNat 0), .int .i64 (.ofNat 0), .int .i64 (.ofNat 0), .int .i64 (.ofNat 9)] 140 true),
  (1359, .cells [.int .i64 (.ofNat 0), .int .i64 (.ofNat 0), .int .i64 (.ofNat 0), .int .i64 (.ofNat 0), .int .i64 (.ofNat 0), .int .i64 (.ofNat 0), .int .i64 (.ofNat 0)] 246 true),
  (2512, .cells [.int .i64 (.ofNat 0), .int .i64 (.ofNat 0), .int .i64 (.ofNat 0), .int .i64 (.ofNat 0)] 422 true),
  (3259, .cells [.int .i64 (.ofNat 3), .string (mkStr [11, 0, 0, 0, 0, 0, 0, 0, 1, 0, 0, 0, 0, 0, 0, 0, 1, 0, 0, 0, 0, 0, 0, 0, 1, 1]), .int .i64 (.ofNat 4), .int .i64 (.ofNat 8), .int .i64 (.ofNat 0), .string (mkStr []), .int .i64 (.ofNat 0), .int .i64 (.ofNat 0)] 232 true),
  (4574, .cells [.int .i64 (.ofNat 0), .int .i64 (.ofNat 0), .int .i64 (.ofNat 0), .int .i64 (.ofNat 0), .int .i64 (.ofNat 0), .int .i64 (.ofNat 0), .int .i64 (.ofNat 0)] 246 true),
  (6969, .cells [.int .i64 (.ofNat 0), .int .i64 (.ofNat 0), .int .i64 (.ofNat 0), .int .i64 (.ofNat 0), .int .i64 (.ofNat 0), .int .i64 (.ofNat 1), .int .i64 (.ofNat 0), .int .i64 (.ofNat 0), .int .i64 (.ofNat 1), .int .i64 (.ofNat 4)] 85 true),
  (6971, .cells [.int .i64 (.ofNat 0), .int .i64 (.ofNat 0), .int .i64 (.ofNat 0), .slice none 0 0, .slice none 0 0] 194 true),
  (7105, .cells [.int .i64 (.ofNat 1), .int .i64 (.ofNat 1), .int .i64 (.ofNat 1), .bool true] 394 true),
  (7785, .cells [.int .i64 (.ofNat 3), .string (mkStr [15, 0, 0, 0, 0, 0, 0, 0, 1, 0, 0, 0, 0, 0, 0, 0, 1]), .int .i64 (.ofNat 4), .int .i64 (.ofNat 8), .int .i64 (.ofNat 4), .string (mkStr [12, 0, 0, 0, 0, 0, 0, 0, 1, 0, 0, 0, 0, 0, 0, 0, 1, 0, 0, 0, 0, 0, 0, 0, 1]), .int .i64 (.ofNat 4), .int .i64 (.ofNat 8), .int .i64 (.ofNat 0), .string (mkStr []), .int .i64 (.ofNat 0), .int .i64 (.ofNat 0)] 232 true),
  (8185, .cells [.int .i64 (.ofNat 2), .int .i64 (.ofNat 1), .string (mkStr [0, 25, 2, 0, 0, 0, 0, 0, 0, 0, 1, 0, 0, 0, 0, 0, 0, 0, 1, 0, 0, 0, 0, 0, 0, 0, 3, 7, 42, 174, 155]), .bool false, .int .i64 (.ofNat 1), .int .i64 (.ofNat 2), .string (mkStr [0, 25, 2, 0, 0, 0, 0, 0, 0, 0, 1, 0, 0, 0, 0, 0, 0, 0, 1, 0, 0, 0, 0, 0, 0, 0, 3, 7, 42, 174, 155]), .bool false, .int .i64 (.ofNat 1), .int .i64 (.ofNat 2), .string (mkStr [0, 25, 2, 0, 0, 0, 0, 0, 0, 0, 1, 0, 0, 0, 0, 0, 0, 0, 1, 0, 0, 0, 0, 0, 0, 0, 4, 164, 191, 202, 5]), .bool false, .int .i64 (.ofNat 0), .int .i64 (.ofNat 0), .string (mkStr []), .bool false] 239 true),
  (8975, .cells [.int .i64 (.ofNat 1), .int .i64 (.ofNat 0), .int .i64 (.ofNat 0), .int .i64 (.ofNat 0), .int .i64 (.ofNat 0), .int .i64 (.ofNat 0), .int .i64 (.ofNat 0), .int .i64 (.ofNat 0), .int .i64 (.ofNat 0), .int .i64 (.ofNat 0)] 85 true),
  (8977, .cells [.int .i64 (.ofNat 1), .int .i64 (.ofNat 1), .int .i64 (.ofNat 1), .slice (some ⟨8998, 0, none⟩) 1 3, .slice (some ⟨9000, 0, none⟩) 1 3, .bool true] 116 true),
  (8998, .cells [.int .i64 (.ofNat 1), .int .i64 (.ofNat 0), .int .i64 (.ofNat 0), .bool true, .int .i64 (.ofNat 4)] 391 true),
  (9000, .cells [.int .i64 (.ofNat 2)] 3 true)]
noncomputable def o15_ : List (Nat × ABlk) := [
  (3, .cells [.int .i64 (.ofNat 2), .map (some 2), .slice (some ⟨8185, 0, none⟩) 2 9] 261 false),
  (4, .cells [.pointer (some ⟨3, 0, none⟩), .int .i64 (.ofNat 2), .int .i64 (.ofNat 2), .int .i64 (.ofNat 10000), .slice (some ⟨634, 0, none⟩) 2 5, .int .i64 (.ofNat 15), .slice (some ⟨1265, 0, none⟩) 1 3] 146 false),
  (308, .cells [.int .i64 (.ofNat 0), .int .u64 (.ofNat 0), .int .i64 (.ofNat 0), .int .i64 (.ofNat 1), .slice none 0 0, .int .i64 (.ofNat 4), .int .u64 (.ofNat 15), .int .i64 (.ofNat 1), .int .i64 (.ofNat 4), .slice (some ⟨3259, 0, none⟩) 0 5] 222 false),
  (3259, .cells [.int .i64 (.ofNat 0), .string (mkStr []), .int .i64 (.ofNat 0), .int .i64 (.ofNat 0), .int .i64 (.ofNat 0), .string (mkStr []), .int .i64 (.ofNat 0), .int .i64 (.ofNat 0)] 232 true),
  (8185, .cells [.int .i64 (.ofNat 1), .int .i64 (.ofNat 2), .string (mkStr [0, 25, 2, 0, 0, 0, 0, 0, 0, 0, 1, 0, 0, 0, 0, 0, 0, 0, 1, 0, 0, 0, 0, 0, 0, 0, 3, 7, 42, 174, 155]), .bool false, .int .i64 (.ofNat 1), .int .i64 (.ofNat 2), .string (mkStr [0, 25, 2, 0, 0, 0, 0, 0, 0, 0, 1, 0, 0, 0, 0, 0, 0, 0, 1, 0, 0, 0, 0, 0, 0, 0, 4, 164, 191, 202, 5]), .bool false, .int .i64 (.ofNat 0), .int .i64 (.ofNat 0), .string (mkStr []), .bool false, .int .i64 (.ofNat 0), .int .i64 (.ofNat 0), .string (mkStr []), .bool false] 239 true)]
noncomputable def v15 : Value := .int .i64 (.ofNat 0)
theorem p15 : table Ty.types.get (onlyL 124330809102446661832923002059963121965346506813400747071532028033769472873146186158080 fl31) .nil (fun t => memoB2 (callE ⟨t, orc1⟩ 10000 200) 22 a15 i15 9349 v15 o15_ 9466) = true := by kernel_rfl
noncomputable def o15 : CallT := orC RemS.o14 22 (memoO2 a15 i15 9349 v15 o15_ 9466)
theorem o15_ok : SoundC Tryz.prog o15 := piece_ok orc1_ok RemS.o14_ok p15
end Go.Rem.RemS
/- ni : 9468 -/
namespace Go.Rem.RemS
open Go.Proofs
noncomputable def a16 : List Value := [.pointer (some ⟨4, 0, none⟩), .agg #[.int .i64 (.ofNat 3), .int .i64 (.ofNat 0), .int .i64 (.ofNat 0), .int .i64 (.ofNat 0), .slice none 0 0]]
noncomputable def i16 : List (Nat × ABlk) := [
  (2, .map []),
  (3, .cells [.int .i64 (.ofNat 2), .map (some 2), .slice (some ⟨8185, 0, none⟩) 2 9] 261 false),
  (4, .cells [.pointer (some ⟨3, 0, none⟩), .int .i64 (.ofNat 2), .int .i64 (.ofNat 2), .int .i64 (.ofNat 10000), .slice (some ⟨634, 0, none⟩) 2 5, .int .i64 (.ofNat 15), .slice (some ⟨1265, 0, none⟩) 1 3] 146 false),
  (5, .cells [.bool false, .bool false, .int .i64 (.negSucc 123), .string (mkStr [0, 9, 2, 0, 0, 0, 0, 0, 0, 0, 1, 54, 130, 99, 206, 0, 70, 5, 0, 0, 0, 0, 0, 0, 0, 1, 0, 0, 0, 0, 0, 0, 0, 1, 0, 0, 0, 0, 0, 0, 0, 1, 0, 1, 0, 0, 0, 0, 0, 0, 0, 1, 0, 0, 0, 0, 0, 0, 0, 0, 0, 0, 0, 0, 0, 0, 0, 0, 1, 0, 0, 0, 0, 0, 0, 0, 4, 0, 1, 0, 0, 0, 0, 0, 0, 0, 2, 218, 92, 22, 61, 0, 25, 7, 0, 0, 0, 0, 0, 0, 0, 1, 0, 0, 0, 0, 0, 0, 0, 1, 0, 0, 0, 0, 0, 0, 0, 1, 222, 145, 150, 43]), .int .i64 (.ofNat 91), .int .i64 (.ofNat 10000)] 89 false),
  (6, .cells [.pointer (some ⟨176, 0, none⟩), .pointer (some ⟨5, 0, none⟩)] 149 false),
  (52, .cells [.pointer (some ⟨5, 0, none⟩), .bool false] 278 false),
  (62, .cells [.pointer (some ⟨52, 0, none⟩), .int .i64 (.ofNat 1), .int .i64 (.ofNat 2), .int .i64 (.ofNat 2), .int .i64 (.ofNat 1), .slice (some ⟨8975, 0, none⟩) 2 5, .slice none 0 0, .slice none 0 0, .slice (some ⟨8977, 0, none⟩) 1 3, .pointer (some ⟨5, 0, none⟩)] 170 false),
  (173, .map []),
  (174, .map []),
  (176, .cells [.pointer (some ⟨62, 0, none⟩), .pointer (some ⟨232, 0, none⟩), .int .i64 (.ofNat 1), .int .i64 (.ofNat 2), .int .i64 (.ofNat 2), .int .i64 (.ofNat 1), .pointer (some ⟨309, 0, none⟩), .pointer (some ⟨178, 0, none⟩), .pointer (some ⟨310, 0, none⟩), .pointer (some ⟨312, 0, none⟩), .int .i64 (.ofNat 1), .slice (some ⟨851, 0, none⟩) 0 3, .map (some 173), .map (some 174), .slice (some ⟨209, 0, none⟩) 2 5, .slice none 0 0, .slice none 0 0] 111 false),
  (178, .cells [.int .i64 (.ofNat 1), .slice (some ⟨1359, 0, none⟩) 0 3] 181 false),
  (209, .cells [.int .i64 (.ofNat 1), .slice none 0 0, .slice none 0 0, .bool false, .int .i64 (.ofNat 0), .int .i64 (.ofNat 2), .slice none 0 0, .slice none 0 0, .bool false, .int .i64 (.ofNat 0)] 118 true),
  (232, .cells [.slice (some ⟨282, 0, none⟩) 2 5] 291 false),
  (282, .cells [.int .i64 (.ofNat 1), .int .i64 (.ofNat 2), .int .i64 (.ofNat 1), .int .i64 (.ofNat 1), .int .i64 (.ofNat 2), .int .i64 (.ofNat 2)] 293 true),
  (308, .cells [.int .i64 (.ofNat 0), .int .u64 (.ofNat 0), .int .i64 (.ofNat 0), .int .i64 (.ofNat 1), .slice none 0 0, .int .i64 (.ofNat 4), .int .u64 (.ofNat 15), .int .i64 (.ofNat 1), .int .i64 (.ofNat 4), .slice (some ⟨3259, 0, none⟩) 0 5] 222 false),
  (309, .cells [.int .i64 (.ofNat 1), .int .i64 (.ofNat 1), .slice (some ⟨308, 0, none⟩) 2 4] 226 false),
  (310, .cells [.int .i64 (.ofNat 8), .slice (some ⟨2512, 0, none⟩) 0 3] 299 false),
  (311, .cells [.int .i64 (.ofNat 0), .int .i64 (.ofNat 0), .int .i64 (.ofNat 0), .int .i64 (.ofNat 0), .bool false, .int .i64 (.ofNat 0), .int .i64 (.ofNat 0), .int .i64 (.ofNat 0), .int .i64 (.ofNat 0), .bool false] 372 false),
  (312, .cells [.slice (some ⟨311, 0, none⟩) 2 4] 302 false),
  (318, .cells [.bool false, .bool false, .int .i64 (.negSucc 125), .string (mkStr [0, 9, 2, 0, 0, 0, 0, 0, 0, 0, 1, 54, 130, 99, 206, 0, 70, 4, 0, 0, 0, 0, 0, 0, 0, 1, 0, 0, 0, 0, 0, 0, 0, 1, 0, 0, 0, 0, 0, 0, 0, 1, 0, 1, 0, 0, 0, 0, 0, 0, 0, 1, 0, 0, 0, 0, 0, 0, 0, 0, 0, 0, 0, 0, 0, 0, 0, 0, 1, 0, 0, 0, 0, 0, 0, 0, 4, 0, 1, 0, 0, 0, 0, 0, 0, 0, 2, 177, 100, 112, 100, 0, 26, 6, 0, 0, 0, 0, 0, 0, 0, 1, 0, 0, 0, 0, 0, 0, 0, 1, 0, 0, 0, 0, 0, 0, 0, 1, 1, 13, 61, 204, 144]), .int .i64 (.ofNat 123), .int .i64 (.ofNat 10000)] 89 false),
  (319, .cells [.pointer (some ⟨489, 0, none⟩), .pointer (some ⟨318, 0, none⟩)] 149 false),
  (365, .cells [.pointer (some ⟨318, 0, none⟩), .bool false] 278 false),
  (375, .cells [.pointer (some ⟨365, 0, none⟩), .int .i64 (.ofNat 2), .int .i64 (.ofNat 2), .int .i64 (.ofNat 2), .int .i64 (.ofNat 1), .slice (some ⟨6969, 0, none⟩) 2 5, .slice (some ⟨6971, 0, none⟩) 0 3, .slice (some ⟨7105, 0, none⟩) 1 3, .slice none 0 0, .pointer (some ⟨318, 0, none⟩)] 170 false),
  (486, .map []),
  (487, .map []),
  (489, .cells [.pointer (some ⟨375, 0, none⟩), .pointer (some ⟨545, 0, none⟩), .int .i64 (.ofNat 2), .int .i64 (.ofNat 2), .int .i64 (.ofNat 2), .int .i64 (.ofNat 1), .pointer (some ⟨626, 0, none⟩), .pointer (some ⟨491, 0, none⟩), .pointer (some ⟨627, 0, none⟩), .pointer (some ⟨629, 0, none⟩), .int .i64 (.ofNat 0), .slice none 0 0, .map (some 486), .map (some 487), .slice (some ⟨522, 0, none⟩) 2 5, .slice none 0 0, .slice none 0 0] 111 false),
  (491, .cells [.int .i64 (.ofNat 1), .slice (some ⟨4574, 0, none⟩) 0 3] 181 false),
  (522, .cells [.int .i64 (.ofNat 1), .slice none 0 0, .slice none 0 0, .bool false, .int .i64 (.ofNat 0), .int .i64 (.ofNat 2), .slice none 0 0, .slice none 0 0, .bool false, .int .i64 (.ofNat 0)] 118 true),
  (545, .cells [.slice (some ⟨599, 0, none⟩) 2 5] 291 false),
  (599, .cells [.int .i64 (.ofNat 2), .int .i64 (.ofNat 2), .int .i64 (.ofNat 1), .int .i64 (.ofNat 2), .int .i64 (.ofNat 2), .int .i64 (.ofNat 2)] 293 true),
  (625, .cells [.int .i64 (.ofNat 3), .int .u64 (.ofNat 7), .int .i64 (.ofNat 1), .int .i64 (.ofNat 5), .slice (some ⟨7785, 0, none⟩) 2 7, .int .i64 (.ofNat 0), .int .u64 (.ofNat 0), .int .i64 (.ofNat 0), .int .i64 (.ofNat 1), .slice none 0 0] 222 false),
  (626, .cells [.int .i64 (.ofNat 2), .int .i64 (.ofNat 1), .slice (some ⟨625, 0, none⟩) 2 4] 226 false),
  (627, .cells [.int .i64 (.ofNat 8), .slice none 0 0] 299 false),
  (628, .cells [.int .i64 (.ofNat 0), .int .i64 (.ofNat 0), .int .i64 (.ofNat 0), .int .i64 (.ofNat 0), .bool false, .int .i64 (.ofNat 0), .int .i64 (.ofNat 0), .int .i64 (.ofNat 0), .int .i64 (.ofNat 0), .bool false] 372 false),
  (629, .cells [.slice (some ⟨628, 0, none⟩) 2 4] 302 false),
  (634, .cells [.pointer (some ⟨6, 0, none⟩), .pointer (some ⟨319, 0, none⟩)] 147 true),
  (851, .cells [.pointer none] 204 true),
  (1264, .cells [.int .i64 (.ofNat 3), .int .i64 (.ofNat 0), .int .i64 (.ofNat 0), .int .i64 (.ofNat 0), .int .i64 (.ofNat 4), .int .i64 (.ofNat 2), .int .i64 (.ofNat 1), .int .i64 (.ofNat 0), .int .i64 (.ofNat 0), .int .i64 (.ofNat 0)] 80 true),
  (1265, .cells [.int .i64 (.ofNat 1), .int .i64 (.ofNat 1), .int .i64 (.ofNat 1), .slice (some ⟨1264, 0, none⟩) 2 5, .int .i64 (.ofNat 1), .bool true, .int .i64 (.ofNat 1), .int .i64 (.ofNat 1), .int .i64 (.ofNat 1), .bool true, .int .i64 (.ofNat 0), .int .i64 (.ofNat 4), .int .i64 (.ofNat 0), .int .i64 (.ofNat 0), .int .i64 (.ofNat 0), .int .i64 (.ofNat 0), .int .i64 (.ofNat 0), .int .i64 (.ofNat 0), .int .i64 (.ofNat 0), .int .i64 (.ofNat 9)] 140 true),
  (1359, .cells [.int .i64 (.ofNat 0), .int .i64 (.ofNat 0), .int .i64 (.ofNat 0), .int .i64 (.ofNat 0), .int .i64 (.ofNat 0), .int .i64 (.ofNat 0), .int .i64 (.ofNat 0)] 246 true),
  (2512, .cells [.int .i64 (.ofNat 0), .int .i64 (.ofNat 0), .int .i64 (.ofNat 0), .int .i64 (.ofNat 0)] 422 true),
  (3259, .cells [.int .i64 (.ofNat 0), .string (mkStr []), .int .i64 (.ofNat 0), .int .i64 (.ofNat 0), .int .i64 (.ofNat 0), .string (mkStr []), .int .i64 (.ofNat 0), .int .i64 (.ofNat 0)] 232 true),
  (4574, .cells [.int .i64 (.ofNat 0), .int .i64 (.ofNat 0), .int .i64 (.ofNat 0), .int .i64 (.ofNat 0), .int .i64 (.ofNat 0), .int .i64 (.ofNat 0), .int .i64 (.ofNat 0)] 246 true),
  (6969, .cells [.int .i64 (.ofNat 0), .int .i64 (.ofNat 0), .int .i64 (.ofNat 0), .int .i64 (.ofNat 0), .int .i64 (.ofNat 0), .int .i64 (.ofNat 1), .int .i64 (.ofNat 0), .int .i64 (.ofNat 0), .int .i64 (.ofNat 1), .int .i64 (.ofNat 4)] 85 true),
  (6971, .cells [.int .i64 (.ofNat 0), .int .i64 (.ofNat 0), .int .i64 (.ofNat 0), .slice none 0 0, .slice none 0 0] 194 true),
  (7105, .cells [.int .i64 (.ofNat 1), .int .i64 (.ofNat 1), .int .i64 (.ofNat 1), .bool true] 394 true),
  (7785, .cells [.int .i64 (.ofNat 3), .string (mkStr [15, 0, 0, 0, 0, 0, 0, 0, 1, 0, 0, 0, 0, 0, 0, 0, 1]), .int .i64 (.ofNat 4), .int .i64 (.ofNat 8), .int .i64 (.ofNat 4), .string (mkStr [12, 0, 0, 0, 0, 0, 0, 0, 1, 0, 0, 0, 0, 0, 0, 0, 1, 0, 0, 0, 0, 0, 0, 0, 1]), .int .i64 (.ofNat 4), .int .i64 (.ofNat 8), .int .i64 (.ofNat 0), .string (mkStr []), .int .i64 (.ofNat 0), .int .i64 (.ofNat 0)] 232 true),
  (8185, .cells [.int .i64 (.ofNat 1), .int .i64 (.ofNat 2), .string (mkStr [0, 25, 2, 0, 0, 0, 0, 0, 0, 0, 1, 0, 0, 0, 0, 0, 0, 0, 1, 0, 0, 0, 0, 0, 0, 0, 3, 7, 42, 174, 155]), .bool false, .int .i64 (.ofNat 1), .int .i64 (.ofNat 2), .string (mkStr [0, 25, 2, 0, 0, 0, 0, 0, 0, 0, 1, 0, 0, 0, 0, 0, 0, 0, 1, 0, 0, 0, 0, 0, 0, 0, 4, 164, 191, 202, 5]), .bool false, .int .i64 (.ofNat 0), .int .i64 (.ofNat 0), .string (mkStr []), .bool false, .int .i64 (.ofNat 0), .int .i64 (.ofNat 0), .string (mkStr []), .bool false] 239 true),
  (8975, .cells [.int .i64 (.ofNat 1), .int .i64 (.ofNat 0), .int .i64 (.ofNat 0), .int .i64 (.ofNat 0), .int .i64 (.ofNat 0), .int .i64 (.ofNat 0), .int .i64 (.ofNat 0), .int .i64 (.ofNat 0), .int .i64 (.ofNat 0), .int .i64 (.ofNat 0)] 85 true),
  (8977, .cells [.int .i64 (.ofNat 1), .int .i64 (.ofNat 1), .int .i64 (.ofNat 1), .slice (some ⟨8998, 0, none⟩) 1 3, .slice (some ⟨9000, 0, none⟩) 1 3, .bool true] 116 true),
  (8998, .cells [.int .i64 (.ofNat 1), .int .i64 (.ofNat 0), .int .i64 (.ofNat 0), .bool true, .int .i64 (.ofNat 4)] 391 true),
  (9000, .cells [.int .i64 (.ofNat 2)] 3 true)]
noncomputable def o16_ : List (Nat × ABlk) := [
  (3, .cells [.int .i64 (.ofNat 2), .map (some 2), .slice (some ⟨8185, 0, none⟩) 1 9] 261 false),
  (4, .cells [.pointer (some ⟨3, 0, none⟩), .int .i64 (.ofNat 2), .int .i64 (.ofNat 2), .int .i64 (.ofNat 10000), .slice (some ⟨634, 0, none⟩) 2 5, .int .i64 (.ofNat 16), .slice (some ⟨1265, 0, none⟩) 1 3] 146 false),
  (625, .cells [.int .i64 (.ofNat 3), .int .u64 (.ofNat 7), .int .i64 (.ofNat 1), .int .i64 (.ofNat 5), .slice (some ⟨7785, 0, none⟩) 1 7, .int .i64 (.ofNat 0), .int .u64 (.ofNat 0), .int .i64 (.ofNat 0), .int .i64 (.ofNat 1), .slice none 0 0] 222 false),
  (7785, .cells [.int .i64 (.ofNat 4), .string (mkStr [12, 0, 0, 0, 0, 0, 0, 0, 1, 0, 0, 0, 0, 0, 0, 0, 1, 0, 0, 0, 0, 0, 0, 0, 1]), .int .i64 (.ofNat 4), .int .i64 (.ofNat 8), .int .i64 (.ofNat 0), .string (mkStr []), .int .i64 (.ofNat 0), .int .i64 (.ofNat 0), .int .i64 (.ofNat 0), .string (mkStr []), .int .i64 (.ofNat 0), .int .i64 (.ofNat 0)] 232 true),
  (8185, .cells [.int .i64 (.ofNat 1), .int .i64 (.ofNat 2), .string (mkStr [0, 25, 2, 0, 0, 0, 0, 0, 0, 0, 1, 0, 0, 0, 0, 0, 0, 0, 1, 0, 0, 0, 0, 0, 0, 0, 4, 164, 191, 202, 5]), .bool false, .int .i64 (.ofNat 0), .int .i64 (.ofNat 0), .string (mkStr []), .bool false, .int .i64 (.ofNat 0), .int .i64 (.ofNat 0), .string (mkStr []), .bool false, .int .i64 (.ofNat 0), .int .i64 (.ofNat 0), .string (mkStr []), .bool false] 239 true)]
noncomputable def v16 : Value := .int .i64 (.ofNat 0)
theorem p16 : table Ty.types.get (onlyL 124330809102446661832923002059963121965346506813400747071532028033769472873146186158080 fl31) .nil (fun t => memoB2 (callE ⟨t, orc1⟩ 10000 200) 22 a16 i16 9468 v16 o16_ 9587) = true := by kernel_rfl
noncomputable def o16 : CallT := orC RemS.o15 22 (memoO2 a16 i16 9468 v16 o16_ 9587)
theorem o16_ok : SoundC Tryz.prog o16 := piece_ok orc1_ok RemS.o15_ok p16
end Go.Rem.RemS
/- ni : 9589 -/
namespace Go.Rem.RemS
open Go.Proofs
noncomputable def a17 : List Value := [.pointer (some ⟨4, 0, none⟩), .agg #[.int .i64 (.ofNat 3), .int .i64 (.ofNat 0), .int .i64 (.ofNat 0), .int .i64 (.ofNat 0), .slice none 0 0]]
noncomputable def i17 : List (Nat × ABlk) := [
  (2, .map []),
  (3, .cells [.int .i64 (.ofNat 2), .map (some 2), .slice (some ⟨8185, 0, none⟩) 1 9] 261 false),
  (4, .cells [.pointer (some ⟨3, 0, none⟩), .int .i64 (.ofNat 2), .int .i64 (.ofNat 2), .int .i64 (.ofNat 10000), .slice (some ⟨634, 0, none⟩) 2 5, .int .i64 (.ofNat 16), .slice (some ⟨1265, 0, none⟩) 1 3] 146 false),
  (5, .cells [.bool false, .bool false, .int .i64 (.negSucc 123), .string (mkStr [0, 9, 2, 0, 0, 0, 0, 0, 0, 0, 1, 54, 130, 99, 206, 0, 70, 5, 0, 0, 0, 0, 0, 0, 0, 1, 0, 0, 0, 0, 0, 0, 0, 1, 0, 0, 0, 0, 0, 0, 0, 1, 0, 1, 0, 0, 0, 0, 0, 0, 0, 1, 0, 0, 0, 0, 0, 0, 0, 0, 0, 0, 0, 0, 0, 0, 0, 0, 1, 0, 0, 0, 0, 0, 0, 0, 4, 0, 1, 0, 0, 0, 0, 0, 0, 0, 2, 218, 92, 22, 61, 0, 25, 7, 0, 0, 0, 0, 0, 0, 0, 1, 0, 0, 0, 0, 0, 0, 0, 1, 0, 0, 0, 0, 0, 0, 0, 1, 222, 145, 150, 43]), .int .i64 (.ofNat 91), .int .i64 (.ofNat 10000)] 89 false),
  (6, .cells [.pointer (some ⟨176, 0, none⟩), .pointer (some ⟨5, 0, none⟩)] 149 false),
  (52, .cells [.pointer (some ⟨5, 0, none⟩), .bool false] 278 false),
  (62, .cells [.pointer (some ⟨52, 0, none⟩), .int .i64 (.ofNat 1), .int .i64 (.ofNat 2), .int .i64 (.ofNat 2), .int .i64 (.ofNat 1), .slice (some ⟨8975, 0, none⟩) 2 5, .slice none 0 0, .slice none 0 0, .slice (some ⟨8977, 0, none⟩) 1 3, .pointer (some ⟨5, 0, none⟩)] 170 false),
  (173, .map []),
  (174, .map []),
  (176, .cells [.pointer (some ⟨62, 0, none⟩), .pointer (some ⟨232, 0, none⟩), .int .i64 (.ofNat 1), .int .i64 (.ofNat 2), .int .i64 (.ofNat 2), .int .i64 (.ofNat 1), .pointer (some ⟨309, 0, none⟩), .pointer (some ⟨178, 0, none⟩), .pointer (some ⟨310, 0, none⟩), .pointer (some ⟨312, 0, none⟩), .int .i64 (.ofNat 1), .slice (some ⟨851, 0, none⟩) 0 3, .map (some 173), .map (some 174), .slice (some ⟨209, 0, none⟩) 2 5, .slice none 0 0, .slice none 0 0] 111 false),
  (178, .cells [.int .i64 (.ofNat 1), .slice (some ⟨1359, 0, none⟩) 0 3] 181 false),
  (209, .cells [.int .i64 (.ofNat 1), .slice none 0 0, .slice none 0 0, .bool false, .int .i64 (.ofNat 0), .int .i64 (.ofNat 2), .slice none 0 0, .slice none 0 0, .bool false, .int .i64 (.ofNat 0)] 118 true),
  (232, .cells [.slice (some ⟨282, 0, none⟩) 2 5] 291 false),
  (282, .cells [.int .i64 (.ofNat 1), .int .i64 (.ofNat 2), .int .i64 (.ofNat 1), .int .i64 (.ofNat 1), .int .i64 (.ofNat 2), .int .i64 (.ofNat 2)] 293 true),
  (308, .cells [.int .i64 (.ofNat 0), .int .u64 (.ofNat 0), .int .i64 (.ofNat 0), .int .i64 (.ofNat 1), .slice none 0 0, .int .i64 (.ofNat 4), .int .u64 (.ofNat 15), .int .i64 (.ofNat 1), .int .i64 (.ofNat 4), .slice (some ⟨3259, 0, none⟩) 0 5] 222 false),
  (309, .cells [.int .i64 (.ofNat 1), .int .i64 (.ofNat 1), .slice (some ⟨308, 0, none⟩) 2 4] 226 false),
  (310, .cells [.int .i64 (.ofNat 8), .slice (some ⟨2512, 0, none⟩) 0 3] 299 false),
  (311, .cells [.int .i64 (.ofNat 0), .int .i64 (.ofNat 0), .int .i64 (.ofNat 0), .int .i64 (.ofNat 0), .bool false, .int .i64 (.ofNat 0), .int .i64 (.ofNat 0), .int .i64 (.ofNat 0), .int .i64 (.ofNat 0), .bool false] 372 false),
  (312, .cells [.slice (some ⟨311, 0, none⟩) 2 4] 302 false),
  (318, .cells [.bool false, .bool false, .int .i64 (.negSucc 125), .string (mkStr [0, 9, 2, 0, 0, 0, 0, 0, 0, 0, 1, 54, 130, 99, 206, 0, 70, 4, 0, 0, 0, 0, 0, 0, 0, 1, 0, 0, 0, 0, 0, 0, 0, 1, 0, 0, 0, 0, 0, 0, 0, 1, 0, 1, 0, 0, 0, 0, 0, 0, 0, 1, 0, 0, 0, 0, 0, 0, 0, 0, 0, 0, 0, 0, 0, 0, 0, 0, 1, 0, 0, 0, 0, 0, 0, 0, 4, 0, 1, 0, 0, 0, 0, 0, 0, 0, 2, 177, 100, 112, 100, 0, 26, 6, 0, 0, 0, 0, 0, 0, 0, 1, 0, 0, 0, 0, 0, 0, 0, 1, 0, 0, 0, 0, 0, 0, 0, 1, 1, 13, 61, 204, 144]), .int .i64 (.ofNat 123), .int .i64 (.ofNat 10000)] 89 false),
  (319, .cells [.pointer (some ⟨489, 0, none⟩), .pointer (some ⟨318, 0, none⟩)] 149 false),
  (365, .cells [.pointer (some ⟨318, 0, none⟩), .bool false] 278 false),
  (375, .cells [.pointer (some ⟨365, 0, none⟩), .int .i64 (.ofNat 2), .int .i64 (.ofNat 2), .int .i64 (.ofNat 2), .int .i64 (.ofNat 1), .slice (some ⟨6969, 0, none⟩) 2 5, .slice (some ⟨6971, 0, none⟩) 0 3, .slice (some ⟨7105, 0, none⟩) 1 3, .slice none 0 0, .pointer (some ⟨318, 0, none⟩)] 170 false),
  (486, .map []),
  (487, .map []),
  (489, .cells [.pointer (some ⟨375, 0, none⟩), .pointer (some ⟨545, 0, none⟩), .int .i64 (.ofNat 2), .int .i64 (.ofNat 2), .int .i64 (.ofNat 2), .int .i64 (.ofNat 1), .pointer (some ⟨626, 0, none⟩), .pointer (some ⟨491, 0, none⟩), .pointer (some ⟨627, 0, none⟩), .pointer (some ⟨629, 0, none⟩), .int .i64 (.ofNat 0), .slice none 0 0, .map (some 486), .map (some 487), .slice (some ⟨522, 0, none⟩) 2 5, .slice none 0 0, .slice none 0 0] 111 false),
  (491, .cells [.int .i64 (.ofNat 1), .slice (some ⟨4574, 0, none⟩) 0 3] 181 false),
  (522, .cells [.int .i64 (.ofNat 1), .slice none 0 0, .slice none 0 0, .bool false, .int .i64 (.ofNat 0), .int .i64 (.ofNat 2), .slice none 0 0, .slice none 0 0, .bool false, .int .i64 (.ofNat 0)] 118 true),
  (545, .cells [.slice (some ⟨599, 0, none⟩) 2 5] 291 false),
  (599, .cells [.int .i64 (.ofNat 2), .int .i64 (.ofNat 2), .int .i64 (.ofNat 1), .int .i64 (.ofNat 2), .int .i64 (.ofNat 2), .int .i64 (.ofNat 2)] 293 true),
  (625, .cells [.int .i64 (.ofNat 3), .int .u64 (.ofNat 7), .int .i64 (.ofNat 1), .int .i64 (.ofNat 5), .slice (some ⟨7785, 0, none⟩) 1 7, .int .i64 (.ofNat 0), .int .u64 (.ofNat 0), .int .i64 (.ofNat 0), .int .i64 (.ofNat 1), .slice none 0 0] 222 false),
  (626, .cells [.int .i64 (.ofNat 2), .int .i64 (.ofNat 1), .slice (some ⟨625, 0, none⟩) 2 4] 226 false),
  (627, .cells [.int .i64 (.ofNat 8), .slice none 0 0] 299 false),
  (628, .cells [.int .i64 (.ofNat 0), .int .i64 (.ofNat 0), .int .i64 (.ofNat 0), .int .i64 (.ofNat 0), .bool false, .int .i64 (.ofNat 0), .int .i64 (.ofNat 0), .int .i64 (.ofNat 0), .int .i64 (.ofNat 0), .bool false] 372 false),
  (629, .cells [.slice (some ⟨628, 0, none⟩) 2 4] 302 false),
  (634, .cells [.pointer (some ⟨6, 0, none⟩), .pointer (some ⟨319, 0, none⟩)] 147 true),
  (851, .cells [.pointer none] 204 true),
  (1264, .cells [.int .i64 (.ofNat 3), .int .i64 (.ofNat 0), .int .i64 (.ofNat 0), .int .i64 (.ofNat 0), .int .i64 (.ofNat 4), .int .i64 (.ofNat 2), .int .i64 (.ofNat 1), .int .i64 (.ofNat 0), .int .i64 (.ofNat 0), .int .i64 (.ofNat 0)] 80 true),
  (1265, .cells [.int .i64 (.ofNat 1), .int .i64 (.ofNat 1), .int .i64 (.ofNat 1), .slice (some ⟨1264, 0, none⟩) 2 5, .int .i64 (.ofNat 1), .bool true, .int .i64 (.ofNat 1), .int .i64 (.ofNat 1), .int .i64 (.ofNat 1), .bool true, .int .i64 (.ofNat 0), .int .i64 (.ofNat 4), .int .i64 (.ofNat 0), .int .i64 (.ofNat 0), .int .i64 (.ofNat 0), .int .i64 (.ofNat 0), .int .i64 (.ofNat 0), .int .i64 (.ofNat 0), .int .i64 (.ofNat 0), .int .i64 (.ofNat 9)] 140 true),
  (1359, .cells [.int .i64 (.ofNat 0), .int .i64 (.ofNat 0), .int .i64 (.ofNat 0), .int .i64 (.ofNat 0), .int .i64 (.ofNat 0), .int .i64 (.ofNat 0), .int .i64 (.ofNat 0)] 246 true),
  (2512, .cells [.int .i64 (.ofNat 0), .int .i64 (.ofNat 0), .int .i64 (.ofNat 0), .int .i64 (.ofNat 0)] 422 true),
  (3259, .cells [.int .i64 (.ofNat 0), .string (mkStr []), .int .i64 (.ofNat 0), .int .i64 (.ofNat 0), .int .i64 (.ofNat 0), .string (mkStr []), .int .i64 (.ofNat 0), .int .i64 (.ofNat 0)] 232 true),
  (4574, .cells [.int .i64 (.ofNat 0), .int .i64 (.ofNat 0), .int .i64 (.ofNat 0), .int .i64 (.ofNat 0), .int .i64 (.ofNat 0), .int .i64 (.ofNat 0), .int .i64 (.ofNat 0)] 246 true),
  (6969, .cells [.int .i64 (.ofNat 0), .int .i64 (.ofNat 0), .int .i64 (.ofNat 0), .int .i64 (.ofNat 0), .int .i64 (.ofNat 0), .int .i64 (.ofNat 1), .int .i64 (.ofNat 0), .int .i64 (.ofNat 0), .int .i64 (.ofNat 1), .int .i64 (.ofNat 4)] 85 true),
  (6971, .cells [.int .i64 (.ofNat 0), .int .i64 (.ofNat 0), .int .i64 (.ofNat 0), .slice none 0 0, .slice none 0 0] 194 true),
  (7105, .cells [.int .i64 (.ofNat 1), .int .i64 (.ofNat 1), .int .i64 (.ofNat 1), .bool true] 394 true),
  (7785, .cells [.int .i64 (.ofNat 4), .string (mkStr [12, 0, 0, 0, 0, 0, 0, 0, 1, 0, 0, 0, 0, 0, 0, 0, 1, 0, 0, 0, 0, 0, 0, 0, 1]), .int .i64 (.ofNat 4), .int .i64 (.ofNat 8), .int .i64 (.ofNat 0), .string (mkStr []), .int .i64 (.ofNat 0), .int .i64 (.ofNat 0), .int .i64 (.ofNat 0), .string (mkStr []), .int .i64 (.ofNat 0), .int .i64 (.ofNat 0)] 232 true),
  (8185, .cells [.int .i64 (.ofNat 1), .int .i64 (.ofNat 2), .string (mkStr [0, 25, 2, 0, 0, 0, 0, 0, 0, 0, 1, 0, 0, 0, 0, 0, 0, 0, 1, 0, 0, 0, 0, 0, 0, 0, 4, 164, 191, 202, 5]), .bool false, .int .i64 (.ofNat 0), .int .i64 (.ofNat 0), .string (mkStr []), .bool false, .int .i64 (.ofNat 0), .int .i64 (.ofNat 0), .string (mkStr []), .bool false, .int .i64 (.ofNat 0), .int .i64 (.ofNat 0), .string (mkStr []), .bool false] 239 true),
  (8975, .cells [.int .i64 (.ofNat 1), .int .i64 (.ofNat 0), .int .i64 (.ofNat 0), .int .i64 (.ofNat 0), .int .i64 (.ofNat 0), .int .i64 (.ofNat 0), .int .i64 (.ofNat 0), .int .i64 (.ofNat 0), .int .i64 (.ofNat 0), .int .i64 (.ofNat 0)] 85 true),
  (8977, .cells [.int .i64 (.ofNat 1), .int .i64 (.ofNat 1), .int .i64 (.ofNat 1), .slice (some ⟨8998, 0, none⟩) 1 3, .slice (some ⟨9000, 0, none⟩) 1 3, .bool true] 116 true),
  (8998, .cells [.int .i64 (.ofNat 1), .int .i64 (.ofNat 0), .int .i64 (.ofNat 0), .bool true, .int .i64 (.ofNat 4)] 391 true),
  (9000, .cells [.int .i64 (.ofNat 2)] 3 true)]
noncomputable def o17_ : List (Nat × ABlk) := [
  (3, .cells [.int .i64 (.ofNat 2), .map (some 2), .slice (some ⟨8185, 0, none⟩) 0 9] 261 false),
  (4, .cells [.pointer (some ⟨3, 0, none⟩), .int .i64 (.ofNat 2), .int .i64 (.ofNat 2), .int .i64 (.ofNat 10000), .slice (some ⟨634, 0, none⟩) 2 5, .int .i64 (.ofNat 17), .slice (some ⟨1265, 0, none⟩) 1 3] 146 false),
  (625, .cells [.int .i64 (.ofNat 3), .int .u64 (.ofNat 7), .int .i64 (.ofNat 1), .int .i64 (.ofNat 5), .slice (some ⟨7785, 0, none⟩) 0 7, .int .i64 (.ofNat 0), .int .u64 (.ofNat 0), .int .i64 (.ofNat 0), .int .i64 (.ofNat 1), .slice none 0 0] 222 false),
  (7785, .cells [.int .i64 (.ofNat 0), .string (mkStr []), .int .i64 (.ofNat 0), .int .i64 (.ofNat 0), .int .i64 (.ofNat 0), .string (mkStr []), .int .i64 (.ofNat 0), .int .i64 (.ofNat 0), .int .i64 (.ofNat 0), .string (mkStr []), .int .i64 (.ofNat 0), .int .i64 (.ofNat 0)] 232 true),
  (8185, .cells [.int .i64 (.ofNat 0), .int .i64 (.ofNat 0), .string (mkStr []), .bool false, .int .i64 (.ofNat 0), .int .i64 (.ofNat 0), .string (mkStr []), .bool false, .int .i64 (.ofNat 0), .int .i64 (.ofNat 0), .string (mkStr []), .bool false, .int .i64 (.ofNat 0), .int .i64 (.ofNat 0), .string (mkStr []), .bool false] 239 true)]
noncomputable def v17 : Value := .int .i64 (.ofNat 0)
theorem p17 : table Ty.types.get (onlyL 124330809102446661832923002059963121965346506813400747071532028033769472873146186158080 fl31) .nil (fun t => memoB2 (callE ⟨t, orc1⟩ 10000 200) 22 a17 i17 9589 v17 o17_ 9706) = true := by kernel_rfl
noncomputable def o17 : CallT := orC RemS.o16 22 (memoO2 a17 i17 9589 v17 o17_ 9706)
theorem o17_ok : SoundC Tryz.prog o17 := piece_ok orc1_ok RemS.o16_ok p17
end Go.Rem.RemS
