/- TopJoins' run in pieces: what each piece leaves, by the case. -/
import Derived.Test.YthcalfeoejdcgaaGreatDoorZ19
namespace Go.Proofs.YthcalfeoejdcgaaGreatDoor
open Go.RowKit Go.RowKit
set_option linter.unusedSimpArgs false
set_option linter.unusedVariables false

def jL0 : Lit := ⟨208, 72, [(1, .chan (some 600)), (4, .bool false), (5, .slice (some ⟨71,0,none⟩) 3 3)], []⟩
def jLA0 : Lit := ⟨208, 237, [(5, .slice (some ⟨71, 0, none⟩) 3 3), (6, .slice (some ⟨73, 0, none⟩) 1 1), (7, .slice (some ⟨75, 0, none⟩) 1 1), (9, .int .i64 0), (10, .slice (some ⟨236, 0, none⟩) 4 4)], gBlks ++ [(69, (56, 3, [.string ⟨⟨[105, 100]⟩⟩, .int .i64 2, .bool false, .string ⟨⟨[99]⟩⟩, .int .i64 3, .bool false, .string ⟨⟨[97, 116]⟩⟩, .int .i64 4, .bool false, .string ⟨⟨[118]⟩⟩, .int .i64 2, .bool true])),
  (70, (56, 3, [.string ⟨⟨[99]⟩⟩, .int .i64 3, .bool false, .string ⟨⟨[97, 116]⟩⟩, .int .i64 4, .bool false, .string ⟨⟨[114]⟩⟩, .int .i64 3, .bool true, .string ⟨⟨[107]⟩⟩, .int .i64 2, .bool false])),
  (71, (31, 4, [.string ⟨⟨[111, 114, 100, 101, 114, 115]⟩⟩, .slice (some ⟨69, 0, none⟩) 4 4, .slice none 0 0, .chan (some 67584), .string ⟨⟨[99, 117, 115, 116, 111, 109, 101, 114, 115]⟩⟩, .slice (some ⟨70, 0, none⟩) 4 4, .slice none 0 0, .chan (some 68609), .string ⟨⟨[114, 101, 116, 117, 114, 110, 115]⟩⟩, .slice (some ⟨69, 0, none⟩) 4 4, .slice none 0 0, .chan (some 69634)])),
  (73, (9, 1, [.string ⟨⟨[99]⟩⟩])),
  (75, (9, 1, [.string ⟨⟨[99]⟩⟩])),
  (225, (56, 3, [.string ⟨⟨[99]⟩⟩, .int .i64 3, .bool false])),
  (236, (31, 4, [.string ⟨⟨[111, 114, 100, 101, 114, 115]⟩⟩, .slice (some ⟨69, 0, none⟩) 4 4, .slice none 0 0, .chan (some 67584), .string ⟨⟨[99, 117, 115, 116, 111, 109, 101, 114, 115]⟩⟩, .slice (some ⟨70, 0, none⟩) 4 4, .slice none 0 0, .chan (some 68609), .string ⟨⟨[114, 101, 116, 117, 114, 110, 115]⟩⟩, .slice (some ⟨69, 0, none⟩) 4 4, .slice none 0 0, .chan (some 69634), .string ⟨⟨[107, 101, 121, 115]⟩⟩, .slice (some ⟨225, 0, none⟩) 1 1, .slice none 0 0, .chan (some 234500)]))]⟩
def jLB0 : Lit := ⟨208, 823, [(5, .slice (some ⟨71, 0, none⟩) 3 3), (6, .slice (some ⟨73, 0, none⟩) 1 1), (7, .slice (some ⟨75, 0, none⟩) 1 1), (15, .pointer (some ⟨821, 0, none⟩))], gBlks ++ [(69, (56, 3, [.string ⟨⟨[105, 100]⟩⟩, .int .i64 2, .bool false, .string ⟨⟨[99]⟩⟩, .int .i64 3, .bool false, .string ⟨⟨[97, 116]⟩⟩, .int .i64 4, .bool false, .string ⟨⟨[118]⟩⟩, .int .i64 2, .bool true])),
  (70, (56, 3, [.string ⟨⟨[99]⟩⟩, .int .i64 3, .bool false, .string ⟨⟨[97, 116]⟩⟩, .int .i64 4, .bool false, .string ⟨⟨[114]⟩⟩, .int .i64 3, .bool true, .string ⟨⟨[107]⟩⟩, .int .i64 2, .bool false])),
  (71, (31, 4, [.string ⟨⟨[111, 114, 100, 101, 114, 115]⟩⟩, .slice (some ⟨69, 0, none⟩) 4 4, .slice none 0 0, .chan (some 67584), .string ⟨⟨[99, 117, 115, 116, 111, 109, 101, 114, 115]⟩⟩, .slice (some ⟨70, 0, none⟩) 4 4, .slice none 0 0, .chan (some 68609), .string ⟨⟨[114, 101, 116, 117, 114, 110, 115]⟩⟩, .slice (some ⟨69, 0, none⟩) 4 4, .slice none 0 0, .chan (some 69634)])),
  (73, (9, 1, [.string ⟨⟨[99]⟩⟩])),
  (75, (9, 1, [.string ⟨⟨[99]⟩⟩])),
  (802, (56, 3, [.string ⟨⟨[105, 100]⟩⟩, .int .i64 2, .bool false, .string ⟨⟨[99]⟩⟩, .int .i64 3, .bool false, .string ⟨⟨[97, 116]⟩⟩, .int .i64 4, .bool false, .string ⟨⟨[118]⟩⟩, .int .i64 2, .bool true])),
  (821, (31, 1, [.string ⟨⟨[]⟩⟩, .slice (some ⟨802, 0, none⟩) 4 4, .slice none 0 0, .chan (some 835591)]))]⟩
def jLA1 : Lit := ⟨208, 240, [(5, .slice (some ⟨71, 0, none⟩) 3 3), (6, .slice (some ⟨73, 0, none⟩) 1 1), (7, .slice (some ⟨75, 0, none⟩) 1 1), (9, .int .i64 0), (10, .slice (some ⟨239, 0, none⟩) 4 4)], gBlks ++ [(69, (56, 3, [.string ⟨⟨[105, 100]⟩⟩, .int .i64 2, .bool false, .string ⟨⟨[99]⟩⟩, .int .i64 3, .bool false, .string ⟨⟨[97, 116]⟩⟩, .int .i64 4, .bool false, .string ⟨⟨[118]⟩⟩, .int .i64 2, .bool true])),
  (70, (56, 3, [.string ⟨⟨[99]⟩⟩, .int .i64 3, .bool false, .string ⟨⟨[97, 116]⟩⟩, .int .i64 4, .bool false, .string ⟨⟨[114]⟩⟩, .int .i64 3, .bool true, .string ⟨⟨[107]⟩⟩, .int .i64 2, .bool false])),
  (71, (31, 4, [.string ⟨⟨[111, 114, 100, 101, 114, 115]⟩⟩, .slice (some ⟨69, 0, none⟩) 4 4, .slice none 0 0, .chan (some 67584), .string ⟨⟨[99, 117, 115, 116, 111, 109, 101, 114, 115]⟩⟩, .slice (some ⟨70, 0, none⟩) 4 4, .slice none 0 0, .chan (some 68609), .string ⟨⟨[114, 101, 116, 117, 114, 110, 115]⟩⟩, .slice (some ⟨69, 0, none⟩) 4 4, .slice none 0 0, .chan (some 69634)])),
  (73, (9, 1, [.string ⟨⟨[97, 116]⟩⟩])),
  (75, (9, 1, [.string ⟨⟨[97, 116]⟩⟩])),
  (228, (56, 3, [.string ⟨⟨[97, 116]⟩⟩, .int .i64 4, .bool false])),
  (239, (31, 4, [.string ⟨⟨[111, 114, 100, 101, 114, 115]⟩⟩, .slice (some ⟨69, 0, none⟩) 4 4, .slice none 0 0, .chan (some 67584), .string ⟨⟨[99, 117, 115, 116, 111, 109, 101, 114, 115]⟩⟩, .slice (some ⟨70, 0, none⟩) 4 4, .slice none 0 0, .chan (some 68609), .string ⟨⟨[114, 101, 116, 117, 114, 110, 115]⟩⟩, .slice (some ⟨69, 0, none⟩) 4 4, .slice none 0 0, .chan (some 69634), .string ⟨⟨[107, 101, 121, 115]⟩⟩, .slice (some ⟨228, 0, none⟩) 1 1, .slice none 0 0, .chan (some 237572)]))]⟩
def jLB1 : Lit := ⟨208, 836, [(5, .slice (some ⟨71, 0, none⟩) 3 3), (6, .slice (some ⟨73, 0, none⟩) 1 1), (7, .slice (some ⟨75, 0, none⟩) 1 1), (15, .pointer (some ⟨834, 0, none⟩))], gBlks ++ [(69, (56, 3, [.string ⟨⟨[105, 100]⟩⟩, .int .i64 2, .bool false, .string ⟨⟨[99]⟩⟩, .int .i64 3, .bool false, .string ⟨⟨[97, 116]⟩⟩, .int .i64 4, .bool false, .string ⟨⟨[118]⟩⟩, .int .i64 2, .bool true])),
  (70, (56, 3, [.string ⟨⟨[99]⟩⟩, .int .i64 3, .bool false, .string ⟨⟨[97, 116]⟩⟩, .int .i64 4, .bool false, .string ⟨⟨[114]⟩⟩, .int .i64 3, .bool true, .string ⟨⟨[107]⟩⟩, .int .i64 2, .bool false])),
  (71, (31, 4, [.string ⟨⟨[111, 114, 100, 101, 114, 115]⟩⟩, .slice (some ⟨69, 0, none⟩) 4 4, .slice none 0 0, .chan (some 67584), .string ⟨⟨[99, 117, 115, 116, 111, 109, 101, 114, 115]⟩⟩, .slice (some ⟨70, 0, none⟩) 4 4, .slice none 0 0, .chan (some 68609), .string ⟨⟨[114, 101, 116, 117, 114, 110, 115]⟩⟩, .slice (some ⟨69, 0, none⟩) 4 4, .slice none 0 0, .chan (some 69634)])),
  (73, (9, 1, [.string ⟨⟨[97, 116]⟩⟩])),
  (75, (9, 1, [.string ⟨⟨[97, 116]⟩⟩])),
  (813, (56, 3, [.string ⟨⟨[105, 100]⟩⟩, .int .i64 2, .bool false, .string ⟨⟨[99]⟩⟩, .int .i64 3, .bool false, .string ⟨⟨[97, 116]⟩⟩, .int .i64 4, .bool false, .string ⟨⟨[118]⟩⟩, .int .i64 2, .bool true])),
  (834, (31, 1, [.string ⟨⟨[]⟩⟩, .slice (some ⟨813, 0, none⟩) 4 4, .slice none 0 0, .chan (some 848903)]))]⟩
def jLA2 : Lit := ⟨208, 246, [(5, .slice (some ⟨71, 0, none⟩) 3 3), (6, .slice (some ⟨73, 0, none⟩) 1 1), (7, .slice (some ⟨75, 0, none⟩) 1 1), (9, .int .i64 0), (10, .slice (some ⟨245, 0, none⟩) 4 4)], gBlks ++ [(69, (56, 3, [.string ⟨⟨[105, 100]⟩⟩, .int .i64 2, .bool false, .string ⟨⟨[99]⟩⟩, .int .i64 3, .bool false, .string ⟨⟨[97, 116]⟩⟩, .int .i64 4, .bool false, .string ⟨⟨[118]⟩⟩, .int .i64 2, .bool true])),
  (70, (56, 3, [.string ⟨⟨[99]⟩⟩, .int .i64 3, .bool false, .string ⟨⟨[97, 116]⟩⟩, .int .i64 4, .bool false, .string ⟨⟨[114]⟩⟩, .int .i64 3, .bool true, .string ⟨⟨[107]⟩⟩, .int .i64 2, .bool false])),
  (71, (31, 4, [.string ⟨⟨[111, 114, 100, 101, 114, 115]⟩⟩, .slice (some ⟨69, 0, none⟩) 4 4, .slice none 0 0, .chan (some 67584), .string ⟨⟨[99, 117, 115, 116, 111, 109, 101, 114, 115]⟩⟩, .slice (some ⟨70, 0, none⟩) 4 4, .slice none 0 0, .chan (some 68609), .string ⟨⟨[114, 101, 116, 117, 114, 110, 115]⟩⟩, .slice (some ⟨69, 0, none⟩) 4 4, .slice none 0 0, .chan (some 69634)])),
  (73, (9, 1, [.string ⟨⟨[118]⟩⟩])),
  (75, (9, 1, [.string ⟨⟨[107]⟩⟩])),
  (234, (56, 3, [.string ⟨⟨[107]⟩⟩, .int .i64 2, .bool false])),
  (245, (31, 4, [.string ⟨⟨[111, 114, 100, 101, 114, 115]⟩⟩, .slice (some ⟨69, 0, none⟩) 4 4, .slice none 0 0, .chan (some 67584), .string ⟨⟨[99, 117, 115, 116, 111, 109, 101, 114, 115]⟩⟩, .slice (some ⟨70, 0, none⟩) 4 4, .slice none 0 0, .chan (some 68609), .string ⟨⟨[114, 101, 116, 117, 114, 110, 115]⟩⟩, .slice (some ⟨69, 0, none⟩) 4 4, .slice none 0 0, .chan (some 69634), .string ⟨⟨[107, 101, 121, 115]⟩⟩, .slice (some ⟨234, 0, none⟩) 1 1, .slice none 0 0, .chan (some 243716)]))]⟩
def jLB2 : Lit := ⟨208, 856, [(5, .slice (some ⟨71, 0, none⟩) 3 3), (6, .slice (some ⟨73, 0, none⟩) 1 1), (7, .slice (some ⟨75, 0, none⟩) 1 1), (15, .pointer (some ⟨854, 0, none⟩))], gBlks ++ [(69, (56, 3, [.string ⟨⟨[105, 100]⟩⟩, .int .i64 2, .bool false, .string ⟨⟨[99]⟩⟩, .int .i64 3, .bool false, .string ⟨⟨[97, 116]⟩⟩, .int .i64 4, .bool false, .string ⟨⟨[118]⟩⟩, .int .i64 2, .bool true])),
  (70, (56, 3, [.string ⟨⟨[99]⟩⟩, .int .i64 3, .bool false, .string ⟨⟨[97, 116]⟩⟩, .int .i64 4, .bool false, .string ⟨⟨[114]⟩⟩, .int .i64 3, .bool true, .string ⟨⟨[107]⟩⟩, .int .i64 2, .bool false])),
  (71, (31, 4, [.string ⟨⟨[111, 114, 100, 101, 114, 115]⟩⟩, .slice (some ⟨69, 0, none⟩) 4 4, .slice none 0 0, .chan (some 67584), .string ⟨⟨[99, 117, 115, 116, 111, 109, 101, 114, 115]⟩⟩, .slice (some ⟨70, 0, none⟩) 4 4, .slice none 0 0, .chan (some 68609), .string ⟨⟨[114, 101, 116, 117, 114, 110, 115]⟩⟩, .slice (some ⟨69, 0, none⟩) 4 4, .slice none 0 0, .chan (some 69634)])),
  (73, (9, 1, [.string ⟨⟨[118]⟩⟩])),
  (75, (9, 1, [.string ⟨⟨[107]⟩⟩])),
  (830, (56, 3, [.string ⟨⟨[105, 100]⟩⟩, .int .i64 2, .bool false, .string ⟨⟨[99]⟩⟩, .int .i64 3, .bool false, .string ⟨⟨[97, 116]⟩⟩, .int .i64 4, .bool false, .string ⟨⟨[118]⟩⟩, .int .i64 2, .bool true])),
  (854, (31, 1, [.string ⟨⟨[]⟩⟩, .slice (some ⟨830, 0, none⟩) 4 4, .slice none 0 0, .chan (some 869383)]))]⟩
end Go.Proofs.YthcalfeoejdcgaaGreatDoor
