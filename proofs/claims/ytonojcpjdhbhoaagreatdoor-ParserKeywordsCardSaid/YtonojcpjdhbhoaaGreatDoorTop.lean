/-
  A part of the proof that the law ParserKeywords (chapter 19) returns true for every index: runs of the program's functions in the kernel, by the own evaluator, and walks.
-/
import Derived.Test.YtonojcpjdhbhoaaGreatDoorKwf
import Derived.Test.YtonojcpjdhbhoaaGreatDoorCon
import Derived.Test.YtonojcpjdhbhoaaGreatDoorScb
import Derived.Lib.Strings
namespace Go.Proofs.YtonojcpjdhbhoaaGreatDoor
open Go.RowKit Go.Dam

noncomputable def topL4 (i : Int) : Go.Dam.Lit :=
  ⟨[.int .u8 i, undef, .bool false, .slice (some ⟨303, 0, none⟩) 62 0, .slice (some ⟨321, 0, none⟩) 63 0, undef, undef, .slice (some ⟨303, 0, none⟩) 62 0, .slice (some ⟨304, 0, none⟩) 25 25, .slice (some ⟨306, 0, none⟩) 22 22, .slice (some ⟨309, 0, none⟩) 47 0, .slice (some ⟨309, 0, none⟩) 47 0, .slice (some ⟨310, 0, none⟩) 7 7, .slice (some ⟨310, 1, none⟩) 6 6, .slice (some ⟨313, 0, none⟩) 53 0, .slice (some ⟨314, 0, none⟩) 4 4, .slice (some ⟨314, 1, none⟩) 3 3, .slice (some ⟨317, 0, none⟩) 56 0, .slice (some ⟨318, 0, none⟩) 8 8, .slice (some ⟨318, 1, none⟩) 7 7, .slice (some ⟨321, 0, none⟩) 63 0, undef, undef, undef, undef, undef, undef, undef, undef, undef, undef, undef, undef, undef, undef, undef, undef, undef, undef, undef, undef, undef, undef, undef, undef, undef, undef, undef, undef, undef, undef, undef, undef, undef, undef, undef, undef, undef, undef, undef, undef, undef, undef, undef, undef, undef, undef],
    [(321, .cells #[.string ⟨#[115, 99, 111, 114, 101]⟩, .string ⟨#[119, 114, 105, 116, 116, 101, 110]⟩, .string ⟨#[108, 97, 115, 116]⟩, .string ⟨#[112, 97, 114, 116]⟩, .string ⟨#[116, 114, 97, 110, 115, 112, 111, 115, 101]⟩, .string ⟨#[115, 116, 97, 102, 102]⟩, .string ⟨#[109, 101, 97, 115, 117, 114, 101]⟩, .string ⟨#[109, 101, 116, 114, 101]⟩, .string ⟨#[108, 101, 110, 103, 116, 104]⟩, .string ⟨#[107, 101, 121]⟩, .string ⟨#[114, 101, 112, 101, 97, 116]⟩, .string ⟨#[116, 105, 109, 101, 115]⟩, .string ⟨#[101, 110, 100, 105, 110, 103, 115]⟩, .string ⟨#[106, 117, 109, 112]⟩, .string ⟨#[115, 101, 103, 110, 111]⟩, .string ⟨#[99, 111, 100, 97]⟩, .string ⟨#[102, 105, 110, 101]⟩, .string ⟨#[116, 111, 99, 111, 100, 97]⟩, .string ⟨#[115, 119, 105, 110, 103]⟩, .string ⟨#[98, 114, 101, 97, 107]⟩, .string ⟨#[109, 97, 114, 107]⟩, .string ⟨#[116, 101, 109, 112, 111]⟩, .string ⟨#[114, 97, 109, 112]⟩, .string ⟨#[99, 108, 101, 102]⟩, .string ⟨#[103, 114, 97, 99, 101]⟩, .string ⟨#[115, 116, 97, 99, 99, 97, 116, 111]⟩, .string ⟨#[116, 101, 110, 117, 116, 111]⟩, .string ⟨#[97, 99, 99, 101, 110, 116]⟩, .string ⟨#[109, 97, 114, 99, 97, 116, 111]⟩, .string ⟨#[102, 101, 114, 109, 97, 116, 97]⟩, .string ⟨#[116, 114, 105, 108, 108]⟩, .string ⟨#[109, 111, 114, 100, 101, 110, 116]⟩, .string ⟨#[105, 110, 118, 101, 114, 115, 101]⟩, .string ⟨#[116, 117, 114, 110]⟩, .string ⟨#[112, 112, 112]⟩, .string ⟨#[112, 112]⟩, .string ⟨#[112]⟩, .string ⟨#[109, 112]⟩, .string ⟨#[109, 102]⟩, .string ⟨#[102]⟩, .string ⟨#[102, 102]⟩, .string ⟨#[102, 102, 102]⟩, .string ⟨#[115, 102, 122]⟩, .string ⟨#[117, 112]⟩, .string ⟨#[100, 111, 119, 110]⟩, .string ⟨#[97, 112, 97, 114, 116]⟩, .string ⟨#[106, 111, 105, 110]⟩, .string ⟨#[100, 97, 99, 97, 112, 111]⟩, .string ⟨#[100, 97, 99, 97, 112, 111, 102, 105, 110, 101]⟩, .string ⟨#[100, 97, 99, 97, 112, 111, 99, 111, 100, 97]⟩, .string ⟨#[100, 97, 108, 115, 101, 103, 110, 111]⟩, .string ⟨#[100, 97, 108, 115, 101, 103, 110, 111, 102, 105, 110, 101]⟩, .string ⟨#[100, 97, 108, 115, 101, 103, 110, 111, 99, 111, 100, 97]⟩, .string ⟨#[115, 121, 115, 116, 101, 109]⟩, .string ⟨#[112, 97, 103, 101]⟩, .string ⟨#[110, 101, 118, 101, 114]⟩, .string ⟨#[115, 108, 117, 114]⟩, .string ⟨#[99, 114, 101, 115, 99, 101, 110, 100, 111]⟩, .string ⟨#[100, 105, 109, 105, 110, 117, 101, 110, 100, 111]⟩, .string ⟨#[111, 99, 116, 97, 118, 101, 117, 112]⟩, .string ⟨#[111, 99, 116, 97, 118, 101, 100, 111, 119, 110]⟩, .string ⟨#[112, 101, 100, 97, 108]⟩, .string ⟨#[116, 114, 105, 108, 108]⟩] 9 (0, 0)),
      (303, .cells #[.string ⟨#[97, 99, 99, 101, 110, 116]⟩, .string ⟨#[97, 112, 97, 114, 116]⟩, .string ⟨#[98, 114, 101, 97, 107]⟩, .string ⟨#[99, 108, 101, 102]⟩, .string ⟨#[99, 111, 100, 97]⟩, .string ⟨#[99, 114, 101, 115, 99, 101, 110, 100, 111]⟩, .string ⟨#[100, 97, 99, 97, 112, 111]⟩, .string ⟨#[100, 97, 99, 97, 112, 111, 99, 111, 100, 97]⟩, .string ⟨#[100, 97, 99, 97, 112, 111, 102, 105, 110, 101]⟩, .string ⟨#[100, 97, 108, 115, 101, 103, 110, 111]⟩, .string ⟨#[100, 97, 108, 115, 101, 103, 110, 111, 99, 111, 100, 97]⟩, .string ⟨#[100, 97, 108, 115, 101, 103, 110, 111, 102, 105, 110, 101]⟩, .string ⟨#[100, 105, 109, 105, 110, 117, 101, 110, 100, 111]⟩, .string ⟨#[100, 111, 119, 110]⟩, .string ⟨#[101, 110, 100, 105, 110, 103, 115]⟩, .string ⟨#[102]⟩, .string ⟨#[102, 101, 114, 109, 97, 116, 97]⟩, .string ⟨#[102, 102]⟩, .string ⟨#[102, 102, 102]⟩, .string ⟨#[102, 105, 110, 101]⟩, .string ⟨#[103, 114, 97, 99, 101]⟩, .string ⟨#[105, 110, 118, 101, 114, 115, 101]⟩, .string ⟨#[106, 111, 105, 110]⟩, .string ⟨#[106, 117, 109, 112]⟩, .string ⟨#[107, 101, 121]⟩, .string ⟨#[108, 97, 115, 116]⟩, .string ⟨#[108, 101, 110, 103, 116, 104]⟩, .string ⟨#[109, 97, 114, 99, 97, 116, 111]⟩, .string ⟨#[109, 97, 114, 107]⟩, .string ⟨#[109, 101, 97, 115, 117, 114, 101]⟩, .string ⟨#[109, 101, 116, 114, 101]⟩, .string ⟨#[109, 102]⟩, .string ⟨#[109, 111, 114, 100, 101, 110, 116]⟩, .string ⟨#[109, 112]⟩, .string ⟨#[110, 101, 118, 101, 114]⟩, .string ⟨#[111, 99, 116, 97, 118, 101, 100, 111, 119, 110]⟩, .string ⟨#[111, 99, 116, 97, 118, 101, 117, 112]⟩, .string ⟨#[112]⟩, .string ⟨#[112, 97, 103, 101]⟩, .string ⟨#[112, 97, 114, 116]⟩, .string ⟨#[112, 101, 100, 97, 108]⟩, .string ⟨#[112, 112]⟩, .string ⟨#[112, 112, 112]⟩, .string ⟨#[114, 97, 109, 112]⟩, .string ⟨#[114, 101, 112, 101, 97, 116]⟩, .string ⟨#[115, 99, 111, 114, 101]⟩, .string ⟨#[115, 101, 103, 110, 111]⟩, .string ⟨#[115, 102, 122]⟩, .string ⟨#[115, 108, 117, 114]⟩, .string ⟨#[115, 116, 97, 99, 99, 97, 116, 111]⟩, .string ⟨#[115, 116, 97, 102, 102]⟩, .string ⟨#[115, 119, 105, 110, 103]⟩, .string ⟨#[115, 121, 115, 116, 101, 109]⟩, .string ⟨#[116, 101, 109, 112, 111]⟩, .string ⟨#[116, 101, 110, 117, 116, 111]⟩, .string ⟨#[116, 105, 109, 101, 115]⟩, .string ⟨#[116, 111, 99, 111, 100, 97]⟩, .string ⟨#[116, 114, 97, 110, 115, 112, 111, 115, 101]⟩, .string ⟨#[116, 114, 105, 108, 108]⟩, .string ⟨#[116, 117, 114, 110]⟩, .string ⟨#[117, 112]⟩, .string ⟨#[119, 114, 105, 116, 116, 101, 110]⟩, .string ⟨#[]⟩] 9 (0, 0))], 322⟩

noncomputable def topL5 (i : Int) : Go.Dam.Lit :=
  ⟨[.int .u8 i, undef, .bool false, .slice (some ⟨303, 0, none⟩) 62 0, .slice (some ⟨321, 0, none⟩) 63 0, undef, undef, .slice (some ⟨303, 0, none⟩) 62 0, .slice (some ⟨304, 0, none⟩) 25 25, .slice (some ⟨306, 0, none⟩) 22 22, .slice (some ⟨309, 0, none⟩) 47 0, .slice (some ⟨309, 0, none⟩) 47 0, .slice (some ⟨310, 0, none⟩) 7 7, .slice (some ⟨310, 1, none⟩) 6 6, .slice (some ⟨313, 0, none⟩) 53 0, .slice (some ⟨314, 0, none⟩) 4 4, .slice (some ⟨314, 1, none⟩) 3 3, .slice (some ⟨317, 0, none⟩) 56 0, .slice (some ⟨318, 0, none⟩) 8 8, .slice (some ⟨318, 1, none⟩) 7 7, .slice (some ⟨321, 0, none⟩) 63 0, .bool true, .bool false, .bool false, .slice (some ⟨303, 0, none⟩) 62 0, .int .i64 62, .bool false, .bool false, undef, undef, undef, undef, undef, undef, undef, undef, undef, undef, undef, undef, undef, undef, undef, undef, undef, undef, undef, undef, undef, undef, undef, undef, undef, undef, undef, undef, undef, undef, undef, undef, undef, undef, undef, undef, undef, undef, undef],
    [(321, .cells #[.string ⟨#[115, 99, 111, 114, 101]⟩, .string ⟨#[119, 114, 105, 116, 116, 101, 110]⟩, .string ⟨#[108, 97, 115, 116]⟩, .string ⟨#[112, 97, 114, 116]⟩, .string ⟨#[116, 114, 97, 110, 115, 112, 111, 115, 101]⟩, .string ⟨#[115, 116, 97, 102, 102]⟩, .string ⟨#[109, 101, 97, 115, 117, 114, 101]⟩, .string ⟨#[109, 101, 116, 114, 101]⟩, .string ⟨#[108, 101, 110, 103, 116, 104]⟩, .string ⟨#[107, 101, 121]⟩, .string ⟨#[114, 101, 112, 101, 97, 116]⟩, .string ⟨#[116, 105, 109, 101, 115]⟩, .string ⟨#[101, 110, 100, 105, 110, 103, 115]⟩, .string ⟨#[106, 117, 109, 112]⟩, .string ⟨#[115, 101, 103, 110, 111]⟩, .string ⟨#[99, 111, 100, 97]⟩, .string ⟨#[102, 105, 110, 101]⟩, .string ⟨#[116, 111, 99, 111, 100, 97]⟩, .string ⟨#[115, 119, 105, 110, 103]⟩, .string ⟨#[98, 114, 101, 97, 107]⟩, .string ⟨#[109, 97, 114, 107]⟩, .string ⟨#[116, 101, 109, 112, 111]⟩, .string ⟨#[114, 97, 109, 112]⟩, .string ⟨#[99, 108, 101, 102]⟩, .string ⟨#[103, 114, 97, 99, 101]⟩, .string ⟨#[115, 116, 97, 99, 99, 97, 116, 111]⟩, .string ⟨#[116, 101, 110, 117, 116, 111]⟩, .string ⟨#[97, 99, 99, 101, 110, 116]⟩, .string ⟨#[109, 97, 114, 99, 97, 116, 111]⟩, .string ⟨#[102, 101, 114, 109, 97, 116, 97]⟩, .string ⟨#[116, 114, 105, 108, 108]⟩, .string ⟨#[109, 111, 114, 100, 101, 110, 116]⟩, .string ⟨#[105, 110, 118, 101, 114, 115, 101]⟩, .string ⟨#[116, 117, 114, 110]⟩, .string ⟨#[112, 112, 112]⟩, .string ⟨#[112, 112]⟩, .string ⟨#[112]⟩, .string ⟨#[109, 112]⟩, .string ⟨#[109, 102]⟩, .string ⟨#[102]⟩, .string ⟨#[102, 102]⟩, .string ⟨#[102, 102, 102]⟩, .string ⟨#[115, 102, 122]⟩, .string ⟨#[117, 112]⟩, .string ⟨#[100, 111, 119, 110]⟩, .string ⟨#[97, 112, 97, 114, 116]⟩, .string ⟨#[106, 111, 105, 110]⟩, .string ⟨#[100, 97, 99, 97, 112, 111]⟩, .string ⟨#[100, 97, 99, 97, 112, 111, 102, 105, 110, 101]⟩, .string ⟨#[100, 97, 99, 97, 112, 111, 99, 111, 100, 97]⟩, .string ⟨#[100, 97, 108, 115, 101, 103, 110, 111]⟩, .string ⟨#[100, 97, 108, 115, 101, 103, 110, 111, 102, 105, 110, 101]⟩, .string ⟨#[100, 97, 108, 115, 101, 103, 110, 111, 99, 111, 100, 97]⟩, .string ⟨#[115, 121, 115, 116, 101, 109]⟩, .string ⟨#[112, 97, 103, 101]⟩, .string ⟨#[110, 101, 118, 101, 114]⟩, .string ⟨#[115, 108, 117, 114]⟩, .string ⟨#[99, 114, 101, 115, 99, 101, 110, 100, 111]⟩, .string ⟨#[100, 105, 109, 105, 110, 117, 101, 110, 100, 111]⟩, .string ⟨#[111, 99, 116, 97, 118, 101, 117, 112]⟩, .string ⟨#[111, 99, 116, 97, 118, 101, 100, 111, 119, 110]⟩, .string ⟨#[112, 101, 100, 97, 108]⟩, .string ⟨#[116, 114, 105, 108, 108]⟩] 9 (0, 0)),
      (303, .cells #[.string ⟨#[97, 99, 99, 101, 110, 116]⟩, .string ⟨#[97, 112, 97, 114, 116]⟩, .string ⟨#[98, 114, 101, 97, 107]⟩, .string ⟨#[99, 108, 101, 102]⟩, .string ⟨#[99, 111, 100, 97]⟩, .string ⟨#[99, 114, 101, 115, 99, 101, 110, 100, 111]⟩, .string ⟨#[100, 97, 99, 97, 112, 111]⟩, .string ⟨#[100, 97, 99, 97, 112, 111, 99, 111, 100, 97]⟩, .string ⟨#[100, 97, 99, 97, 112, 111, 102, 105, 110, 101]⟩, .string ⟨#[100, 97, 108, 115, 101, 103, 110, 111]⟩, .string ⟨#[100, 97, 108, 115, 101, 103, 110, 111, 99, 111, 100, 97]⟩, .string ⟨#[100, 97, 108, 115, 101, 103, 110, 111, 102, 105, 110, 101]⟩, .string ⟨#[100, 105, 109, 105, 110, 117, 101, 110, 100, 111]⟩, .string ⟨#[100, 111, 119, 110]⟩, .string ⟨#[101, 110, 100, 105, 110, 103, 115]⟩, .string ⟨#[102]⟩, .string ⟨#[102, 101, 114, 109, 97, 116, 97]⟩, .string ⟨#[102, 102]⟩, .string ⟨#[102, 102, 102]⟩, .string ⟨#[102, 105, 110, 101]⟩, .string ⟨#[103, 114, 97, 99, 101]⟩, .string ⟨#[105, 110, 118, 101, 114, 115, 101]⟩, .string ⟨#[106, 111, 105, 110]⟩, .string ⟨#[106, 117, 109, 112]⟩, .string ⟨#[107, 101, 121]⟩, .string ⟨#[108, 97, 115, 116]⟩, .string ⟨#[108, 101, 110, 103, 116, 104]⟩, .string ⟨#[109, 97, 114, 99, 97, 116, 111]⟩, .string ⟨#[109, 97, 114, 107]⟩, .string ⟨#[109, 101, 97, 115, 117, 114, 101]⟩, .string ⟨#[109, 101, 116, 114, 101]⟩, .string ⟨#[109, 102]⟩, .string ⟨#[109, 111, 114, 100, 101, 110, 116]⟩, .string ⟨#[109, 112]⟩, .string ⟨#[110, 101, 118, 101, 114]⟩, .string ⟨#[111, 99, 116, 97, 118, 101, 100, 111, 119, 110]⟩, .string ⟨#[111, 99, 116, 97, 118, 101, 117, 112]⟩, .string ⟨#[112]⟩, .string ⟨#[112, 97, 103, 101]⟩, .string ⟨#[112, 97, 114, 116]⟩, .string ⟨#[112, 101, 100, 97, 108]⟩, .string ⟨#[112, 112]⟩, .string ⟨#[112, 112, 112]⟩, .string ⟨#[114, 97, 109, 112]⟩, .string ⟨#[114, 101, 112, 101, 97, 116]⟩, .string ⟨#[115, 99, 111, 114, 101]⟩, .string ⟨#[115, 101, 103, 110, 111]⟩, .string ⟨#[115, 102, 122]⟩, .string ⟨#[115, 108, 117, 114]⟩, .string ⟨#[115, 116, 97, 99, 99, 97, 116, 111]⟩, .string ⟨#[115, 116, 97, 102, 102]⟩, .string ⟨#[115, 119, 105, 110, 103]⟩, .string ⟨#[115, 121, 115, 116, 101, 109]⟩, .string ⟨#[116, 101, 109, 112, 111]⟩, .string ⟨#[116, 101, 110, 117, 116, 111]⟩, .string ⟨#[116, 105, 109, 101, 115]⟩, .string ⟨#[116, 111, 99, 111, 100, 97]⟩, .string ⟨#[116, 114, 97, 110, 115, 112, 111, 115, 101]⟩, .string ⟨#[116, 114, 105, 108, 108]⟩, .string ⟨#[116, 117, 114, 110]⟩, .string ⟨#[117, 112]⟩, .string ⟨#[119, 114, 105, 116, 116, 101, 110]⟩, .string ⟨#[]⟩] 9 (0, 0))], 322⟩

noncomputable def topL6 (i : Int) : Go.Dam.Lit :=
  ⟨[.int .u8 i, undef, .bool false, .slice (some ⟨303, 0, none⟩) 62 0, .slice (some ⟨321, 0, none⟩) 63 0, .int .i64 62, undef, .slice (some ⟨303, 0, none⟩) 62 0, .slice (some ⟨304, 0, none⟩) 25 25, .slice (some ⟨306, 0, none⟩) 22 22, .slice (some ⟨309, 0, none⟩) 47 0, .slice (some ⟨309, 0, none⟩) 47 0, .slice (some ⟨310, 0, none⟩) 7 7, .slice (some ⟨310, 1, none⟩) 6 6, .slice (some ⟨313, 0, none⟩) 53 0, .slice (some ⟨314, 0, none⟩) 4 4, .slice (some ⟨314, 1, none⟩) 3 3, .slice (some ⟨317, 0, none⟩) 56 0, .slice (some ⟨318, 0, none⟩) 8 8, .slice (some ⟨318, 1, none⟩) 7 7, .slice (some ⟨321, 0, none⟩) 63 0, .bool true, .bool false, .bool false, .slice (some ⟨303, 0, none⟩) 62 0, .int .i64 62, .bool false, .bool false, .int .i64 62, .slice (some ⟨303, 0, none⟩) 62 0, .int .i64 62, .bool false, .int .i64 61, .int .i64 62, .slice (some ⟨303, 0, none⟩) 62 0, .int .i64 61, .int .i64 60, .pointer (some ⟨303, 60, none⟩), .string ⟨#[117, 112]⟩, .slice (some ⟨303, 0, none⟩) 62 0, .int .i64 61, .pointer (some ⟨303, 61, none⟩), .string ⟨#[119, 114, 105, 116, 116, 101, 110]⟩, .bool false, undef, undef, undef, undef, undef, undef, undef, undef, undef, undef, undef, undef, undef, undef, undef, undef, undef, undef, undef, undef, undef, undef, undef],
    [(321, .cells #[.string ⟨#[115, 99, 111, 114, 101]⟩, .string ⟨#[119, 114, 105, 116, 116, 101, 110]⟩, .string ⟨#[108, 97, 115, 116]⟩, .string ⟨#[112, 97, 114, 116]⟩, .string ⟨#[116, 114, 97, 110, 115, 112, 111, 115, 101]⟩, .string ⟨#[115, 116, 97, 102, 102]⟩, .string ⟨#[109, 101, 97, 115, 117, 114, 101]⟩, .string ⟨#[109, 101, 116, 114, 101]⟩, .string ⟨#[108, 101, 110, 103, 116, 104]⟩, .string ⟨#[107, 101, 121]⟩, .string ⟨#[114, 101, 112, 101, 97, 116]⟩, .string ⟨#[116, 105, 109, 101, 115]⟩, .string ⟨#[101, 110, 100, 105, 110, 103, 115]⟩, .string ⟨#[106, 117, 109, 112]⟩, .string ⟨#[115, 101, 103, 110, 111]⟩, .string ⟨#[99, 111, 100, 97]⟩, .string ⟨#[102, 105, 110, 101]⟩, .string ⟨#[116, 111, 99, 111, 100, 97]⟩, .string ⟨#[115, 119, 105, 110, 103]⟩, .string ⟨#[98, 114, 101, 97, 107]⟩, .string ⟨#[109, 97, 114, 107]⟩, .string ⟨#[116, 101, 109, 112, 111]⟩, .string ⟨#[114, 97, 109, 112]⟩, .string ⟨#[99, 108, 101, 102]⟩, .string ⟨#[103, 114, 97, 99, 101]⟩, .string ⟨#[115, 116, 97, 99, 99, 97, 116, 111]⟩, .string ⟨#[116, 101, 110, 117, 116, 111]⟩, .string ⟨#[97, 99, 99, 101, 110, 116]⟩, .string ⟨#[109, 97, 114, 99, 97, 116, 111]⟩, .string ⟨#[102, 101, 114, 109, 97, 116, 97]⟩, .string ⟨#[116, 114, 105, 108, 108]⟩, .string ⟨#[109, 111, 114, 100, 101, 110, 116]⟩, .string ⟨#[105, 110, 118, 101, 114, 115, 101]⟩, .string ⟨#[116, 117, 114, 110]⟩, .string ⟨#[112, 112, 112]⟩, .string ⟨#[112, 112]⟩, .string ⟨#[112]⟩, .string ⟨#[109, 112]⟩, .string ⟨#[109, 102]⟩, .string ⟨#[102]⟩, .string ⟨#[102, 102]⟩, .string ⟨#[102, 102, 102]⟩, .string ⟨#[115, 102, 122]⟩, .string ⟨#[117, 112]⟩, .string ⟨#[100, 111, 119, 110]⟩, .string ⟨#[97, 112, 97, 114, 116]⟩, .string ⟨#[106, 111, 105, 110]⟩, .string ⟨#[100, 97, 99, 97, 112, 111]⟩, .string ⟨#[100, 97, 99, 97, 112, 111, 102, 105, 110, 101]⟩, .string ⟨#[100, 97, 99, 97, 112, 111, 99, 111, 100, 97]⟩, .string ⟨#[100, 97, 108, 115, 101, 103, 110, 111]⟩, .string ⟨#[100, 97, 108, 115, 101, 103, 110, 111, 102, 105, 110, 101]⟩, .string ⟨#[100, 97, 108, 115, 101, 103, 110, 111, 99, 111, 100, 97]⟩, .string ⟨#[115, 121, 115, 116, 101, 109]⟩, .string ⟨#[112, 97, 103, 101]⟩, .string ⟨#[110, 101, 118, 101, 114]⟩, .string ⟨#[115, 108, 117, 114]⟩, .string ⟨#[99, 114, 101, 115, 99, 101, 110, 100, 111]⟩, .string ⟨#[100, 105, 109, 105, 110, 117, 101, 110, 100, 111]⟩, .string ⟨#[111, 99, 116, 97, 118, 101, 117, 112]⟩, .string ⟨#[111, 99, 116, 97, 118, 101, 100, 111, 119, 110]⟩, .string ⟨#[112, 101, 100, 97, 108]⟩, .string ⟨#[116, 114, 105, 108, 108]⟩] 9 (0, 0)),
      (303, .cells #[.string ⟨#[97, 99, 99, 101, 110, 116]⟩, .string ⟨#[97, 112, 97, 114, 116]⟩, .string ⟨#[98, 114, 101, 97, 107]⟩, .string ⟨#[99, 108, 101, 102]⟩, .string ⟨#[99, 111, 100, 97]⟩, .string ⟨#[99, 114, 101, 115, 99, 101, 110, 100, 111]⟩, .string ⟨#[100, 97, 99, 97, 112, 111]⟩, .string ⟨#[100, 97, 99, 97, 112, 111, 99, 111, 100, 97]⟩, .string ⟨#[100, 97, 99, 97, 112, 111, 102, 105, 110, 101]⟩, .string ⟨#[100, 97, 108, 115, 101, 103, 110, 111]⟩, .string ⟨#[100, 97, 108, 115, 101, 103, 110, 111, 99, 111, 100, 97]⟩, .string ⟨#[100, 97, 108, 115, 101, 103, 110, 111, 102, 105, 110, 101]⟩, .string ⟨#[100, 105, 109, 105, 110, 117, 101, 110, 100, 111]⟩, .string ⟨#[100, 111, 119, 110]⟩, .string ⟨#[101, 110, 100, 105, 110, 103, 115]⟩, .string ⟨#[102]⟩, .string ⟨#[102, 101, 114, 109, 97, 116, 97]⟩, .string ⟨#[102, 102]⟩, .string ⟨#[102, 102, 102]⟩, .string ⟨#[102, 105, 110, 101]⟩, .string ⟨#[103, 114, 97, 99, 101]⟩, .string ⟨#[105, 110, 118, 101, 114, 115, 101]⟩, .string ⟨#[106, 111, 105, 110]⟩, .string ⟨#[106, 117, 109, 112]⟩, .string ⟨#[107, 101, 121]⟩, .string ⟨#[108, 97, 115, 116]⟩, .string ⟨#[108, 101, 110, 103, 116, 104]⟩, .string ⟨#[109, 97, 114, 99, 97, 116, 111]⟩, .string ⟨#[109, 97, 114, 107]⟩, .string ⟨#[109, 101, 97, 115, 117, 114, 101]⟩, .string ⟨#[109, 101, 116, 114, 101]⟩, .string ⟨#[109, 102]⟩, .string ⟨#[109, 111, 114, 100, 101, 110, 116]⟩, .string ⟨#[109, 112]⟩, .string ⟨#[110, 101, 118, 101, 114]⟩, .string ⟨#[111, 99, 116, 97, 118, 101, 100, 111, 119, 110]⟩, .string ⟨#[111, 99, 116, 97, 118, 101, 117, 112]⟩, .string ⟨#[112]⟩, .string ⟨#[112, 97, 103, 101]⟩, .string ⟨#[112, 97, 114, 116]⟩, .string ⟨#[112, 101, 100, 97, 108]⟩, .string ⟨#[112, 112]⟩, .string ⟨#[112, 112, 112]⟩, .string ⟨#[114, 97, 109, 112]⟩, .string ⟨#[114, 101, 112, 101, 97, 116]⟩, .string ⟨#[115, 99, 111, 114, 101]⟩, .string ⟨#[115, 101, 103, 110, 111]⟩, .string ⟨#[115, 102, 122]⟩, .string ⟨#[115, 108, 117, 114]⟩, .string ⟨#[115, 116, 97, 99, 99, 97, 116, 111]⟩, .string ⟨#[115, 116, 97, 102, 102]⟩, .string ⟨#[115, 119, 105, 110, 103]⟩, .string ⟨#[115, 121, 115, 116, 101, 109]⟩, .string ⟨#[116, 101, 109, 112, 111]⟩, .string ⟨#[116, 101, 110, 117, 116, 111]⟩, .string ⟨#[116, 105, 109, 101, 115]⟩, .string ⟨#[116, 111, 99, 111, 100, 97]⟩, .string ⟨#[116, 114, 97, 110, 115, 112, 111, 115, 101]⟩, .string ⟨#[116, 114, 105, 108, 108]⟩, .string ⟨#[116, 117, 114, 110]⟩, .string ⟨#[117, 112]⟩, .string ⟨#[119, 114, 105, 116, 116, 101, 110]⟩, .string ⟨#[]⟩] 9 (0, 0))], 322⟩

noncomputable def topL7 (i : Int) : Go.Dam.Lit :=
  ⟨[.int .u8 i, undef, .bool false, .slice (some ⟨303, 0, none⟩) 62 0, .slice (some ⟨321, 0, none⟩) 63 0, .int .i64 62, .int .i64 63, .slice (some ⟨303, 0, none⟩) 62 0, .slice (some ⟨304, 0, none⟩) 25 25, .slice (some ⟨306, 0, none⟩) 22 22, .slice (some ⟨309, 0, none⟩) 47 0, .slice (some ⟨309, 0, none⟩) 47 0, .slice (some ⟨310, 0, none⟩) 7 7, .slice (some ⟨310, 1, none⟩) 6 6, .slice (some ⟨313, 0, none⟩) 53 0, .slice (some ⟨314, 0, none⟩) 4 4, .slice (some ⟨314, 1, none⟩) 3 3, .slice (some ⟨317, 0, none⟩) 56 0, .slice (some ⟨318, 0, none⟩) 8 8, .slice (some ⟨318, 1, none⟩) 7 7, .slice (some ⟨321, 0, none⟩) 63 0, .bool true, .bool false, .bool false, .slice (some ⟨303, 0, none⟩) 62 0, .int .i64 62, .bool false, .bool false, .int .i64 62, .slice (some ⟨303, 0, none⟩) 62 0, .int .i64 62, .bool false, .int .i64 61, .int .i64 62, .slice (some ⟨303, 0, none⟩) 62 0, .int .i64 61, .int .i64 60, .pointer (some ⟨303, 60, none⟩), .string ⟨#[117, 112]⟩, .slice (some ⟨303, 0, none⟩) 62 0, .int .i64 61, .pointer (some ⟨303, 61, none⟩), .string ⟨#[119, 114, 105, 116, 116, 101, 110]⟩, .bool false, .int .i64 63, .slice (some ⟨321, 0, none⟩) 63 0, .int .i64 63, .bool false, .int .i64 62, .int .i64 63, .slice (some ⟨303, 0, none⟩) 62 0, .slice (some ⟨321, 0, none⟩) 63 0, .int .i64 62, .pointer (some ⟨321, 62, none⟩), .string ⟨#[116, 114, 105, 108, 108]⟩, .bool true, .bool false, undef, undef, undef, undef, undef, undef, undef, undef, undef, undef],
    [(321, .cells #[.string ⟨#[115, 99, 111, 114, 101]⟩, .string ⟨#[119, 114, 105, 116, 116, 101, 110]⟩, .string ⟨#[108, 97, 115, 116]⟩, .string ⟨#[112, 97, 114, 116]⟩, .string ⟨#[116, 114, 97, 110, 115, 112, 111, 115, 101]⟩, .string ⟨#[115, 116, 97, 102, 102]⟩, .string ⟨#[109, 101, 97, 115, 117, 114, 101]⟩, .string ⟨#[109, 101, 116, 114, 101]⟩, .string ⟨#[108, 101, 110, 103, 116, 104]⟩, .string ⟨#[107, 101, 121]⟩, .string ⟨#[114, 101, 112, 101, 97, 116]⟩, .string ⟨#[116, 105, 109, 101, 115]⟩, .string ⟨#[101, 110, 100, 105, 110, 103, 115]⟩, .string ⟨#[106, 117, 109, 112]⟩, .string ⟨#[115, 101, 103, 110, 111]⟩, .string ⟨#[99, 111, 100, 97]⟩, .string ⟨#[102, 105, 110, 101]⟩, .string ⟨#[116, 111, 99, 111, 100, 97]⟩, .string ⟨#[115, 119, 105, 110, 103]⟩, .string ⟨#[98, 114, 101, 97, 107]⟩, .string ⟨#[109, 97, 114, 107]⟩, .string ⟨#[116, 101, 109, 112, 111]⟩, .string ⟨#[114, 97, 109, 112]⟩, .string ⟨#[99, 108, 101, 102]⟩, .string ⟨#[103, 114, 97, 99, 101]⟩, .string ⟨#[115, 116, 97, 99, 99, 97, 116, 111]⟩, .string ⟨#[116, 101, 110, 117, 116, 111]⟩, .string ⟨#[97, 99, 99, 101, 110, 116]⟩, .string ⟨#[109, 97, 114, 99, 97, 116, 111]⟩, .string ⟨#[102, 101, 114, 109, 97, 116, 97]⟩, .string ⟨#[116, 114, 105, 108, 108]⟩, .string ⟨#[109, 111, 114, 100, 101, 110, 116]⟩, .string ⟨#[105, 110, 118, 101, 114, 115, 101]⟩, .string ⟨#[116, 117, 114, 110]⟩, .string ⟨#[112, 112, 112]⟩, .string ⟨#[112, 112]⟩, .string ⟨#[112]⟩, .string ⟨#[109, 112]⟩, .string ⟨#[109, 102]⟩, .string ⟨#[102]⟩, .string ⟨#[102, 102]⟩, .string ⟨#[102, 102, 102]⟩, .string ⟨#[115, 102, 122]⟩, .string ⟨#[117, 112]⟩, .string ⟨#[100, 111, 119, 110]⟩, .string ⟨#[97, 112, 97, 114, 116]⟩, .string ⟨#[106, 111, 105, 110]⟩, .string ⟨#[100, 97, 99, 97, 112, 111]⟩, .string ⟨#[100, 97, 99, 97, 112, 111, 102, 105, 110, 101]⟩, .string ⟨#[100, 97, 99, 97, 112, 111, 99, 111, 100, 97]⟩, .string ⟨#[100, 97, 108, 115, 101, 103, 110, 111]⟩, .string ⟨#[100, 97, 108, 115, 101, 103, 110, 111, 102, 105, 110, 101]⟩, .string ⟨#[100, 97, 108, 115, 101, 103, 110, 111, 99, 111, 100, 97]⟩, .string ⟨#[115, 121, 115, 116, 101, 109]⟩, .string ⟨#[112, 97, 103, 101]⟩, .string ⟨#[110, 101, 118, 101, 114]⟩, .string ⟨#[115, 108, 117, 114]⟩, .string ⟨#[99, 114, 101, 115, 99, 101, 110, 100, 111]⟩, .string ⟨#[100, 105, 109, 105, 110, 117, 101, 110, 100, 111]⟩, .string ⟨#[111, 99, 116, 97, 118, 101, 117, 112]⟩, .string ⟨#[111, 99, 116, 97, 118, 101, 100, 111, 119, 110]⟩, .string ⟨#[112, 101, 100, 97, 108]⟩, .string ⟨#[116, 114, 105, 108, 108]⟩] 9 (0, 0)),
      (303, .cells #[.string ⟨#[97, 99, 99, 101, 110, 116]⟩, .string ⟨#[97, 112, 97, 114, 116]⟩, .string ⟨#[98, 114, 101, 97, 107]⟩, .string ⟨#[99, 108, 101, 102]⟩, .string ⟨#[99, 111, 100, 97]⟩, .string ⟨#[99, 114, 101, 115, 99, 101, 110, 100, 111]⟩, .string ⟨#[100, 97, 99, 97, 112, 111]⟩, .string ⟨#[100, 97, 99, 97, 112, 111, 99, 111, 100, 97]⟩, .string ⟨#[100, 97, 99, 97, 112, 111, 102, 105, 110, 101]⟩, .string ⟨#[100, 97, 108, 115, 101, 103, 110, 111]⟩, .string ⟨#[100, 97, 108, 115, 101, 103, 110, 111, 99, 111, 100, 97]⟩, .string ⟨#[100, 97, 108, 115, 101, 103, 110, 111, 102, 105, 110, 101]⟩, .string ⟨#[100, 105, 109, 105, 110, 117, 101, 110, 100, 111]⟩, .string ⟨#[100, 111, 119, 110]⟩, .string ⟨#[101, 110, 100, 105, 110, 103, 115]⟩, .string ⟨#[102]⟩, .string ⟨#[102, 101, 114, 109, 97, 116, 97]⟩, .string ⟨#[102, 102]⟩, .string ⟨#[102, 102, 102]⟩, .string ⟨#[102, 105, 110, 101]⟩, .string ⟨#[103, 114, 97, 99, 101]⟩, .string ⟨#[105, 110, 118, 101, 114, 115, 101]⟩, .string ⟨#[106, 111, 105, 110]⟩, .string ⟨#[106, 117, 109, 112]⟩, .string ⟨#[107, 101, 121]⟩, .string ⟨#[108, 97, 115, 116]⟩, .string ⟨#[108, 101, 110, 103, 116, 104]⟩, .string ⟨#[109, 97, 114, 99, 97, 116, 111]⟩, .string ⟨#[109, 97, 114, 107]⟩, .string ⟨#[109, 101, 97, 115, 117, 114, 101]⟩, .string ⟨#[109, 101, 116, 114, 101]⟩, .string ⟨#[109, 102]⟩, .string ⟨#[109, 111, 114, 100, 101, 110, 116]⟩, .string ⟨#[109, 112]⟩, .string ⟨#[110, 101, 118, 101, 114]⟩, .string ⟨#[111, 99, 116, 97, 118, 101, 100, 111, 119, 110]⟩, .string ⟨#[111, 99, 116, 97, 118, 101, 117, 112]⟩, .string ⟨#[112]⟩, .string ⟨#[112, 97, 103, 101]⟩, .string ⟨#[112, 97, 114, 116]⟩, .string ⟨#[112, 101, 100, 97, 108]⟩, .string ⟨#[112, 112]⟩, .string ⟨#[112, 112, 112]⟩, .string ⟨#[114, 97, 109, 112]⟩, .string ⟨#[114, 101, 112, 101, 97, 116]⟩, .string ⟨#[115, 99, 111, 114, 101]⟩, .string ⟨#[115, 101, 103, 110, 111]⟩, .string ⟨#[115, 102, 122]⟩, .string ⟨#[115, 108, 117, 114]⟩, .string ⟨#[115, 116, 97, 99, 99, 97, 116, 111]⟩, .string ⟨#[115, 116, 97, 102, 102]⟩, .string ⟨#[115, 119, 105, 110, 103]⟩, .string ⟨#[115, 121, 115, 116, 101, 109]⟩, .string ⟨#[116, 101, 109, 112, 111]⟩, .string ⟨#[116, 101, 110, 117, 116, 111]⟩, .string ⟨#[116, 105, 109, 101, 115]⟩, .string ⟨#[116, 111, 99, 111, 100, 97]⟩, .string ⟨#[116, 114, 97, 110, 115, 112, 111, 115, 101]⟩, .string ⟨#[116, 114, 105, 108, 108]⟩, .string ⟨#[116, 117, 114, 110]⟩, .string ⟨#[117, 112]⟩, .string ⟨#[119, 114, 105, 116, 116, 101, 110]⟩, .string ⟨#[]⟩] 9 (0, 0))], 322⟩

def strsOf : List Value → Option (List ByteArray)
  | [] => some []
  | .string s :: r => match strsOf r with
    | some l => some (s :: l)
    | none => none
  | _ => none
def hasD (xs : List ByteArray) (s : ByteArray) : Bool := xs.any fun x => x.data.toList == s.data.toList
theorem hasD_eq (xs : List ByteArray) (s : ByteArray) : hasStr xs s = hasD xs s := by
  unfold hasStr hasD
  congr 1
  funext x
  rw [Lib.toList_data, Lib.toList_data]

/-- 'contains' of a list that lies in a row. -/
def conOrc (f : FuncId) (args : List Value) (S : St) : Option (Value × St) :=
  if Nat.beq f 10 = true then
    match args with
    | [.slice (some ⟨n, 0, none⟩) len 0, .string s] =>
      if isRow n = true then
        match getB S.heap n with
        | some (.cells c _ _) =>
          match strsOf (c.toList.take len) with
          | some xs => if Nat.beq xs.length len && Nat.blt len 4611686018427387904 then some (.bool (hasD xs s), S) else none
          | none => none
        | _ => none
      else none
    | _ => none
  else none

theorem strsOf_get : ∀ {l : List Value} {xs : List ByteArray}, strsOf l = some xs → ∀ (j : Nat) (x : ByteArray), xs[j]? = some x → l[j]? = some (Value.string x)
  | [], xs, h, j, x, hx => by
    simp only [strsOf, Option.some.injEq] at h
    subst h; simp at hx
  | v :: r, xs, h, j, x, hx => by
    unfold strsOf at h
    split at h
    · simp_all
    · rename_i s r' he
      obtain ⟨rfl, rfl⟩ := List.cons.inj he
      split at h
      · rename_i l hl
        obtain rfl := Option.some.inj h
        cases j with
        | zero => simp at hx; simp [hx]
        | succ j => simpa using strsOf_get hl j x (by simpa using hx)
      · cases h
    · cases h

theorem conOrc_ok : OrcOk Tryz.prog conOrc := by
  intro f args S v S' h E A w hg hev hargs H hA
  unfold conOrc at h
  split at h
  case isFalse => cases h
  rename_i hf
  obtain rfl := Nat.eq_of_beq_eq_true hf
  split at h
  case h_2 => cases h
  rename_i n len s
  split at h
  case isFalse => cases h
  rename_i hrow
  split at h
  case h_2 => cases h
  rename_i c e fz hgb
  split at h
  case h_2 => cases h
  rename_i xs hxs
  split at h
  case isFalse => cases h
  rename_i hl
  simp only [Bool.and_eq_true] at hl
  obtain ⟨hl1, hl2⟩ := hl
  obtain rfl := Nat.eq_of_beq_eq_true hl1
  have hl2 : xs.length < 4611686018427387904 := Nat.le_of_ble_eq_true hl2
  simp only [Option.some.injEq, Prod.mk.injEq] at h
  obtain ⟨rfl, rfl⟩ := h
  obtain ⟨_, _, oc, hoc, hr⟩ := H.blk n _ hgb
  simp only [BlkRel, hrow, if_true] at hr
  obtain ⟨cc, fzc, sz, rfl, _, e3, _⟩ := hr
  have hc : ∀ j x, xs[j]? = some x → w.cell? ⟨E.β n, E.σ n + j, none⟩ = some (.string x) := by
    intro j x hx
    have h1 := strsOf_get hxs j x hx
    have hj : j < xs.length := (List.getElem?_eq_some_iff.1 hx).1
    have h2 : c[j]? = some (.string x) := by
      rw [List.getElem?_take] at h1
      rw [if_pos hj] at h1
      rw [← Array.getElem?_toList]; exact h1
    have h3 := e3 j _ h2
    rw [ren_string] at h3
    simp only [World.cell?, hoc]
    exact h3
  have hcall := contains_walk (E.β n) (E.σ n) (E.κ n) xs s w hc hl2
  have ha : ([Value.slice (some ⟨n, 0, none⟩) xs.length 0, .string s].map (ren E)).toArray = #[.slice (some ⟨E.β n, E.σ n, none⟩) xs.length (E.κ n), .string s] := by
    simp only [List.map_cons, List.map_nil, ren_slice, ren_string, hrow, if_true, Nat.sub_zero]
    rfl
  rw [ha]
  refine hcall.mono ?_
  rintro en w' ⟨rfl, rfl⟩
  refine ⟨E, by rw [ren_bool, hasD_eq], Post.refl H, Sc_bool _ _⟩

noncomputable def kwT : Laid := ⟨4, [], 100, v14, S6.heap, S6.next⟩
theorem names4 : (S6.heap.all fun x => Nat.ble 100 x.1 && Nat.blt x.1 S6.next) = true := by kernel_rfl
theorem globals4 : Nat.ble (2 * Tryz.prog.globals.size) 100 = true := by kernel_rfl

theorem kwT_ok : Told1 Tryz.prog kwT := by
  refine ⟨?_, ?_, ?_⟩
  · intro x hx
    cases hx
  · intro n o hn
    obtain ⟨x, hx, rfl⟩ := mem_of_getB hn
    have := List.all_eq_true.1 names4 x hx
    simp only [Bool.and_eq_true] at this
    exact ⟨Nat.le_of_ble_eq_true this.1, Nat.le_of_ble_eq_true this.2⟩
  · intro E A w hg hev hA0
    have hgl := Nat.le_of_ble_eq_true globals4
    have hg' : Glb Tryz.prog E (fun n => A n ∧ n < 100) := by
      intro g hgs
      obtain ⟨h1, h2, h3⟩ := hg g hgs
      exact ⟨h1, h2, h3, by omega⟩
    refine Calls.mono (keywords_walk E (fun n => A n ∧ n < 100) w hg' (fun n hn => hn.2)) ?_
    rintro e w' ⟨_, E', rfl, p, hs⟩
    refine ⟨E', rfl, ⟨p.le, p.even, p.agree, p.holds.mono ?_, p.os, p.tape, p.output, p.size, p.same, p.img⟩, Sc_mono ?_ _ hs⟩
    · rintro n (hn | hn)
      · exact Or.inl hn.1
      · exact Or.inr hn
    · rintro n (hn | hn)
      · exact Or.inl hn.1
      · exact Or.inr hn

noncomputable def topOrc : FuncId → List Value → St → Option (Value × St) := fun f args S =>
  match toldOrc [(9, [], .bool true)] [kwT] f args S with
  | some r => some r
  | none => conOrc f args S

theorem known_told : Told0 Tryz.prog (9, [], .bool true) := ⟨(fun x hx => by cases hx), rfl, fun w => known_walk w⟩

theorem topOrc_ok : OrcOk Tryz.prog topOrc := by
  intro f args S v S' h E A w hg hev hargs H hA
  unfold topOrc at h
  split at h
  · rename_i r hr
    obtain rfl := Option.some.inj h
    exact toldOrc_ok (fun t ht => by obtain rfl := List.mem_singleton.1 ht; exact known_told) (fun t ht => by obtain rfl := List.mem_singleton.1 ht; exact kwT_ok) f args S v S' hr E A w hg hev hargs H hA
  · exact conOrc_ok f args S v S' h E A w hg hev hargs H hA

def fsT : Nat := 2 ^ 257 - 1 - 2 ^ 4 - 2 ^ 9 - 2 ^ 10
noncomputable def CT : Fn → List Value → St → Option (Value × St) := evCall topOrc Tryz.prog fsT 400 12
theorem ct_ok : CallOk Tryz.prog CT := evCall_sound mixed_ok (namesOk_of names_ok) topOrc_ok (ok_any fsT) 400 12

theorem litStep {f : Nat} {x y : Code} {l l' : Go.Dam.Lit} {r : Option (Exit × List Value × St)} (hok : okCode Tryz.prog x = true) (hr : evC CT Tryz.prog f x l.tm l.st = r) (h1 : exX r = 1) (h2 : tmX r = l'.tm) (h3 : (stX r).next = l'.next) (h4 : ∀ n o, getB l'.heap n = some o → getB (stX r).heap n = some o)
    {E : Env} {A : Nat → Prop} {a : Act} {w : World} {Q : Exit → Act → World → Prop} (ht : Tm E A l.tm a) (hg : Glb Tryz.prog E A) (hev : l.st.next % 2 = 0) (H : Holds Tryz.prog E A l.st.heap w) (hA : ∀ n, A n → n < l.st.next) (hQ : After Tryz.prog none E A l.st w a l'.tm l'.st (y.wpIn (rd none) 0 Tryz.prog Q)) : (Code.seq x y).wpIn (rd none) 0 Tryz.prog Q a w := by
  have he := exN h1
  rw [← hr] at he
  refine wpIn_seq ((evC_sound mixed_ok ct_ok (namesOk_of names_ok) f).1 x l.tm l.st .normal _ _ he hok none (fun hx => by cases hx) E A a w _ ht hg hev H (fun n hn hx => by have := hA n hn; omega) ?_)
  refine After.sub (h := l'.heap) (by rw [hr]; exact h4) ?_
  rw [hr, h2, h3]
  exact hQ

noncomputable def c3 : Code := bodyOf 3
noncomputable def x4 : Code := headC (tailC 4 c3)
noncomputable def x5 : Code := headC (tailC 5 c3)
noncomputable def x6 : Code := headC (tailC 6 c3)
noncomputable def x7 : Code := tailC 7 c3
noncomputable def args3 (i : Int) : List Value := [.int .u8 i] ++ List.replicate (Tryz.f3.ntmps - [Value.int .u8 i].length) undef
noncomputable def T0 (i : Int) := evPre CT Tryz.prog 394 4 c3 (args3 i) ⟨[], 100⟩
noncomputable def T4 (i : Int) := evC CT Tryz.prog 394 x4 (topL4 i).tm (topL4 i).st
noncomputable def T5 (i : Int) := evC CT Tryz.prog 394 x5 (topL5 i).tm (topL5 i).st
noncomputable def T6 (i : Int) := evC CT Tryz.prog 394 x6 (topL6 i).tm (topL6 i).st
noncomputable def T7 (i : Int) := evC CT Tryz.prog 394 x7 (topL7 i).tm (topL7 i).st
set_option maxRecDepth 1000000
theorem shape3 : tailC 4 c3 = .seq x4 (.seq x5 (.seq x6 x7)) := by kernel_rfl
theorem ok3 : okCode Tryz.prog c3 = true := by kernel_rfl
theorem okx4 : okCode Tryz.prog x4 = true := by kernel_rfl
theorem okx5 : okCode Tryz.prog x5 = true := by kernel_rfl
theorem okx6 : okCode Tryz.prog x6 = true := by kernel_rfl
theorem okx7 : okCode Tryz.prog x7 = true := by kernel_rfl
theorem body3 : Tryz.f3.body = some c3 := by kernel_rfl
theorem t0s (i : Int) : (T0 i).isSome = true := by kernel_rfl
theorem t0t (i : Int) : tmP (T0 i) = (topL4 i).tm := by kernel_rfl
theorem t0n (i : Int) : (stP (T0 i)).next = (topL4 i).next := by kernel_rfl
theorem t0h (i : Int) : getB (stP (T0 i)).heap ((topL4 i).heap.getD 0 default).1 = some ((topL4 i).heap.getD 0 default).2 ∧ getB (stP (T0 i)).heap ((topL4 i).heap.getD 1 default).1 = some ((topL4 i).heap.getD 1 default).2 := ⟨by kernel_rfl, by kernel_rfl⟩
theorem t4s (i : Int) : exX (T4 i) = 1 := by kernel_rfl
theorem t4t (i : Int) : tmX (T4 i) = (topL5 i).tm := by kernel_rfl
theorem t4n (i : Int) : (stX (T4 i)).next = (topL5 i).next := by kernel_rfl
theorem t4h (i : Int) : getB (stX (T4 i)).heap ((topL5 i).heap.getD 0 default).1 = some ((topL5 i).heap.getD 0 default).2 ∧ getB (stX (T4 i)).heap ((topL5 i).heap.getD 1 default).1 = some ((topL5 i).heap.getD 1 default).2 := ⟨by kernel_rfl, by kernel_rfl⟩
theorem t5s (i : Int) : exX (T5 i) = 1 := by kernel_rfl
theorem t5t (i : Int) : tmX (T5 i) = (topL6 i).tm := by kernel_rfl
theorem t5n (i : Int) : (stX (T5 i)).next = (topL6 i).next := by kernel_rfl
theorem t5h (i : Int) : getB (stX (T5 i)).heap ((topL6 i).heap.getD 0 default).1 = some ((topL6 i).heap.getD 0 default).2 ∧ getB (stX (T5 i)).heap ((topL6 i).heap.getD 1 default).1 = some ((topL6 i).heap.getD 1 default).2 := ⟨by kernel_rfl, by kernel_rfl⟩
theorem t6s (i : Int) : exX (T6 i) = 1 := by kernel_rfl
theorem t6t (i : Int) : tmX (T6 i) = (topL7 i).tm := by kernel_rfl
theorem t6n (i : Int) : (stX (T6 i)).next = (topL7 i).next := by kernel_rfl
theorem t6h (i : Int) : getB (stX (T6 i)).heap ((topL7 i).heap.getD 0 default).1 = some ((topL7 i).heap.getD 0 default).2 ∧ getB (stX (T6 i)).heap ((topL7 i).heap.getD 1 default).1 = some ((topL7 i).heap.getD 1 default).2 := ⟨by kernel_rfl, by kernel_rfl⟩
theorem len4 (i : Int) : (topL4 i).heap.length = 2 := by kernel_rfl
theorem nx_4 (i : Int) : (topL4 i).st.next = 322 := by kernel_rfl
theorem len5 (i : Int) : (topL5 i).heap.length = 2 := by kernel_rfl
theorem nx_5 (i : Int) : (topL5 i).st.next = 322 := by kernel_rfl
theorem len6 (i : Int) : (topL6 i).heap.length = 2 := by kernel_rfl
theorem nx_6 (i : Int) : (topL6 i).st.next = 322 := by kernel_rfl
theorem len7 (i : Int) : (topL7 i).heap.length = 2 := by kernel_rfl
theorem nx_7 (i : Int) : (topL7 i).st.next = 322 := by kernel_rfl
theorem sub2 {g h : List (Nat × Obj)} (hl : h.length = 2) (H : getB g (h.getD 0 default).1 = some (h.getD 0 default).2 ∧ getB g (h.getD 1 default).1 = some (h.getD 1 default).2) : ∀ n o, getB h n = some o → getB g n = some o :=
  getB_subD hl fun i hi => by
    have : i = 0 ∨ i = 1 := by omega
    rcases this with rfl | rfl
    · exact H.1
    · exact H.2

noncomputable def lastOk (n : Nat) : Bool := match T7 (n : Int) with
  | some (.ret, tm, S) => (match aresults Tryz.prog S.heap tm Tryz.f3.results.toList with
    | some [.bool true] => Nat.beq S.next 322
    | _ => false)
  | _ => false
theorem last_all : ((List.range 256).all lastOk) = true := by kernel_rfl

theorem last_of {n : Nat} (h : n < 256) : T7 (n : Int) = some (.ret, tmX (T7 (n : Int)), stX (T7 (n : Int))) ∧ aresults Tryz.prog (stX (T7 (n : Int))).heap (tmX (T7 (n : Int))) Tryz.f3.results.toList = some [.bool true] ∧ (stX (T7 (n : Int))).next = 322 := by
  have hl := List.all_eq_true.1 last_all n (List.mem_range.2 h)
  unfold lastOk at hl
  obtain ⟨r, hr⟩ : ∃ r, T7 (n : Int) = r := ⟨_, rfl⟩
  rw [hr] at hl ⊢
  split at hl
  · rename_i tm S
    split at hl
    · rename_i h2
      exact ⟨rfl, h2, Nat.eq_of_beq_eq_true hl⟩
    · cases hl
  · cases hl

set_option maxHeartbeats 1000000 in
theorem top_nat (n : Nat) (hn : n < 256) (w : World) : Calls Tryz.prog 3 #[.int .u8 (n : Int)] w fun e w' => e = .returned (.bool true) ∧ Below w.heap.size w w' := by
  obtain ⟨i, hi⟩ : ∃ i : Int, (n : Int) = i := ⟨_, rfl⟩
  obtain ⟨l1, l2, l3⟩ := last_of hn
  rw [hi] at l1 l2 l3 ⊢
  have hgl := Nat.le_of_ble_eq_true globals4
  have hH : Holds Tryz.prog startEnv (fun n => n < 2 * Tryz.prog.globals.size ∧ n % 2 = 0) [] w := ⟨fun n o hn => (by cases hn), fun n m o o' hn => (by cases hn)⟩
  have hg : Glb Tryz.prog startEnv (fun n => n < 2 * Tryz.prog.globals.size ∧ n % 2 = 0) := by
    intro g hg
    refine ⟨?_, rfl, ?_, ?_⟩
    · simp only [startEnv]; omega
    · omega
    · omega
  have hA : ∀ n, (n < 2 * Tryz.prog.globals.size ∧ n % 2 = 0) → n < 100 := fun n hn => by omega
  have hc := calls_nd (P := Tryz.prog) (C := Unit) (g := 3) (fn := Tryz.f3) (c := c3) (args := [.int .u8 i]) (S := ⟨[], 100⟩) (E := startEnv) (A := fun n => n < 2 * Tryz.prog.globals.size ∧ n % 2 = 0) (w := w) (tmR := fun _ => tmX (T7 i)) (SR := fun _ => stX (T7 i)) (vs := fun _ => [.bool true]) Tryz.func3 body3
    (by intro x hx; obtain rfl := List.mem_singleton.1 hx; exact Sc_int _ _ _) (fun _ => l2) ?_
  · have ha : ([Value.int .u8 i].map (ren startEnv)).toArray = #[.int .u8 i] := by simp only [List.map_cons, List.map_nil, ren_int]
    rw [ha] at hc
    refine hc.mono ?_
    rintro e w' ⟨_, E', rfl, p, _⟩
    refine ⟨?_, p.os, p.tape, p.output, p.size, fun b hb => p.same b hb fun n o hn => by cases hn⟩
    show Ending.returned (ren E' (.bool true)) = _
    rw [ren_bool]
  · intro a ht _ Q hQ
    refine evPre_sound mixed_ok ct_ok (namesOk_of names_ok) (exP (r := T0 i) (t0s i)) ok3 ht hg rfl hH hA ?_
    have hcd := evPre_tail _ _ _ _ _ _ _ (exP (r := T0 i) (t0s i))
    rw [hcd, shape3]
    refine After.sub (h := (topL4 i).heap) (sub2 (len4 i) (t0h i)) ?_
    rw [t0t, t0n]
    intro E1 a1 w1 p1 ht1 hd1
    have n4 := nx_4 i
    have n5 := nx_5 i
    have n6 := nx_6 i
    have n7 := nx_7 i
    have n4' : (topL4 i).next = 322 := n4
    obtain ⟨B1, hB1⟩ : ∃ B : Nat → Prop, B = fun n => (n < 2 * Tryz.prog.globals.size ∧ n % 2 = 0) ∨ (100 ≤ n ∧ n < (topL4 i).next) := ⟨_, rfl⟩
    have b1 : ∀ n, B1 n → n < (topL4 i).st.next := by
      rw [hB1]
      rintro n (hn | hn)
      · have := hA n hn; omega
      · omega
    have hg1 : Glb Tryz.prog E1 B1 := hg.next (p1.agreeA fun n hn hx => by have := hA n hn; simp only at hx; omega) fun n hn => by rw [hB1]; exact .inl hn
    have ht1' : Tm E1 B1 (topL4 i).tm a1 := by rw [hB1]; exact ht1
    have hH1 : Holds Tryz.prog E1 B1 (topL4 i).st.heap w1 := by rw [hB1]; exact p1.holds
    have f1 : After Tryz.prog none E1 B1 (topL4 i).st w1 a1 (tmX (T7 i)) (stX (T7 i)) (fun a' w' => Q .normal a' w' ∧ Q .ret a' w') := by
      rw [hB1]
      exact (hQ ()).trans (S₁ := (topL4 i).st) p1 hd1 (by omega)
    refine litStep okx4 (r := T4 i) rfl (t4s i) (t4t i) (t4n i) (sub2 (len5 i) (t4h i)) ht1' hg1 (by rw [n4]) hH1 b1 ?_
    intro E2 a2 w2 p2 ht2 hd2
    obtain ⟨B2, hB2⟩ : ∃ B : Nat → Prop, B = fun n => B1 n ∨ ((topL4 i).st.next ≤ n ∧ n < (topL5 i).st.next) := ⟨_, rfl⟩
    have b2 : ∀ n, B2 n → n < (topL5 i).st.next := by
      rw [hB2]
      rintro n (hn | hn)
      · have := b1 n hn; omega
      · omega
    have hg2 : Glb Tryz.prog E2 B2 := hg1.next (p2.agreeA fun n hn hx => by have := b1 n hn; omega) fun n hn => by rw [hB2]; exact .inl hn
    have f2 : After Tryz.prog none E2 B2 (topL5 i).st w2 a2 (tmX (T7 i)) (stX (T7 i)) (fun a' w' => Q .normal a' w' ∧ Q .ret a' w') := by
      rw [hB2]
      exact f1.trans p2 hd2 (by omega)
    have hH2 := p2.holds
    rw [← hB2] at ht2 hH2
    refine litStep okx5 (r := T5 i) rfl (t5s i) (t5t i) (t5n i) (sub2 (len6 i) (t5h i)) ht2 hg2 (by rw [n5]) hH2 b2 ?_
    intro E3 a3 w3 p3 ht3 hd3
    obtain ⟨B3, hB3⟩ : ∃ B : Nat → Prop, B = fun n => B2 n ∨ ((topL5 i).st.next ≤ n ∧ n < (topL6 i).st.next) := ⟨_, rfl⟩
    have b3 : ∀ n, B3 n → n < (topL6 i).st.next := by
      rw [hB3]
      rintro n (hn | hn)
      · have := b2 n hn; omega
      · omega
    have hg3 : Glb Tryz.prog E3 B3 := hg2.next (p3.agreeA fun n hn hx => by have := b2 n hn; omega) fun n hn => by rw [hB3]; exact .inl hn
    have f3 : After Tryz.prog none E3 B3 (topL6 i).st w3 a3 (tmX (T7 i)) (stX (T7 i)) (fun a' w' => Q .normal a' w' ∧ Q .ret a' w') := by
      rw [hB3]
      exact f2.trans p3 hd3 (by omega)
    have hH3 := p3.holds
    rw [← hB3] at ht3 hH3
    refine litStep okx6 (r := T6 i) rfl (t6s i) (t6t i) (t6n i) (sub2 (len7 i) (t6h i)) ht3 hg3 (by rw [n6]) hH3 b3 ?_
    intro E4 a4 w4 p4 ht4 hd4
    have hg4 : Glb Tryz.prog E4 (fun n => B3 n ∨ ((topL6 i).st.next ≤ n ∧ n < (topL7 i).st.next)) := hg3.next (p4.agreeA fun n hn hx => by have := b3 n hn; omega) fun n hn => .inl hn
    refine (evC_sound mixed_ok ct_ok (namesOk_of names_ok) 394).1 x7 (topL7 i).tm (topL7 i).st .ret (tmX (T7 i)) (stX (T7 i)) l1 okx7 none (fun hx => by cases hx) E4 _ a4 w4 _ ht4 hg4 (by rw [n7]) p4.holds (fun n hn hx => by rcases hn with hn | hn; have := b3 n hn; omega; omega) ?_
    intro E5 a5 w5 p5 ht5 hd5
    exact ((f3.trans p4 hd4 (by omega)) E5 a5 w5 p5 ht5 hd5).2

theorem top_walk (i : Int) (h0 : 0 ≤ i) (h1 : i < 256) (w : World) : Calls Tryz.prog 3 #[.int .u8 i] w fun e w' => e = .returned (.bool true) ∧ Below w.heap.size w w' := by
  have := top_nat i.toNat (by omega) w
  rw [show ((i.toNat : Nat) : Int) = i by omega] at this
  exact this

end Go.Proofs.YtonojcpjdhbhoaaGreatDoor
