/-
  A part of the proof that the law ParserKeywords (chapter 19) returns true for every index: runs of the program's functions in the kernel, by the own evaluator, and walks.
-/
import Derived.Test.YtonojcpjdhbhoaaGreatDoorDamJ
import Derived.Test.YtonojcpjdhbhoaaGreatDoorLit
namespace Go.Proofs.YtonojcpjdhbhoaaGreatDoor
open Go.RowKit Go.Dam

noncomputable def kwM0 (_ : Nat → ByteArray) : Go.Dam.Lit :=
  ⟨[.slice none 0 0, .slice (some ⟨203, 0, none⟩) 25 0, undef, .pointer (some ⟨198, 0, none⟩), undef, undef, .slice (some ⟨100, 0, none⟩) 11 11, .pointer (some ⟨102, 0, none⟩), .pointer (some ⟨104, 0, none⟩), .slice (some ⟨118, 0, none⟩) 14 14, .int .i64 14, .int .i64 14, .bool false, .pointer (some ⟨118, 26, none⟩), .agg #[.string ⟨#[109, 97, 114, 107]⟩, .func (.func 37) #[] #[.pointer (some ⟨106, 0, none⟩), .pointer (some ⟨108, 0, none⟩)]], .slice (some ⟨197, 0, none⟩) 24 0, .pointer (some ⟨198, 0, none⟩), .string ⟨#[109, 97, 114, 107]⟩, .slice (some ⟨200, 0, none⟩) 1 1, .slice (some ⟨203, 0, none⟩) 25 0, .int .i64 14, .map (some 204), .map (some 206), .map (some 208), .slice (some ⟨210, 0, none⟩) 3 3, .int .i64 3, .int .i64 0, undef, undef, undef, undef, undef, undef, undef, undef, undef, undef, undef, undef, undef, undef, undef],
    [(210, .cells #[.map (some 204), .map (some 206), .map (some 208)] 49 (0, 0)),
      (208, .map #[⟨.string ⟨#[115, 108, 117, 114]⟩, .int .i64 1, 0⟩, ⟨.string ⟨#[99, 114, 101, 115, 99, 101, 110, 100, 111]⟩, .int .i64 2, 1⟩, ⟨.string ⟨#[100, 105, 109, 105, 110, 117, 101, 110, 100, 111]⟩, .int .i64 3, 2⟩, ⟨.string ⟨#[111, 99, 116, 97, 118, 101, 117, 112]⟩, .int .i64 4, 3⟩, ⟨.string ⟨#[111, 99, 116, 97, 118, 101, 100, 111, 119, 110]⟩, .int .i64 5, 4⟩, ⟨.string ⟨#[112, 101, 100, 97, 108]⟩, .int .i64 6, 5⟩, ⟨.string ⟨#[116, 114, 105, 108, 108]⟩, .int .i64 7, 6⟩] 7),
      (206, .map #[⟨.string ⟨#[115, 121, 115, 116, 101, 109]⟩, .int .i64 1, 0⟩, ⟨.string ⟨#[112, 97, 103, 101]⟩, .int .i64 2, 1⟩, ⟨.string ⟨#[110, 101, 118, 101, 114]⟩, .int .i64 3, 2⟩] 3),
      (204, .map #[⟨.string ⟨#[100, 97, 99, 97, 112, 111]⟩, .int .i64 1, 0⟩, ⟨.string ⟨#[100, 97, 99, 97, 112, 111, 102, 105, 110, 101]⟩, .int .i64 2, 1⟩, ⟨.string ⟨#[100, 97, 99, 97, 112, 111, 99, 111, 100, 97]⟩, .int .i64 3, 2⟩, ⟨.string ⟨#[100, 97, 108, 115, 101, 103, 110, 111]⟩, .int .i64 4, 3⟩, ⟨.string ⟨#[100, 97, 108, 115, 101, 103, 110, 111, 102, 105, 110, 101]⟩, .int .i64 5, 4⟩, ⟨.string ⟨#[100, 97, 108, 115, 101, 103, 110, 111, 99, 111, 100, 97]⟩, .int .i64 6, 5⟩] 6),
      (203, .cells #[.string ⟨#[115, 99, 111, 114, 101]⟩, .string ⟨#[119, 114, 105, 116, 116, 101, 110]⟩, .string ⟨#[108, 97, 115, 116]⟩, .string ⟨#[112, 97, 114, 116]⟩, .string ⟨#[116, 114, 97, 110, 115, 112, 111, 115, 101]⟩, .string ⟨#[115, 116, 97, 102, 102]⟩, .string ⟨#[109, 101, 97, 115, 117, 114, 101]⟩, .string ⟨#[116, 101, 109, 112, 111]⟩, .string ⟨#[114, 97, 109, 112]⟩, .string ⟨#[99, 108, 101, 102]⟩, .string ⟨#[103, 114, 97, 99, 101]⟩, .string ⟨#[109, 101, 116, 114, 101]⟩, .string ⟨#[108, 101, 110, 103, 116, 104]⟩, .string ⟨#[107, 101, 121]⟩, .string ⟨#[114, 101, 112, 101, 97, 116]⟩, .string ⟨#[116, 105, 109, 101, 115]⟩, .string ⟨#[101, 110, 100, 105, 110, 103, 115]⟩, .string ⟨#[106, 117, 109, 112]⟩, .string ⟨#[115, 101, 103, 110, 111]⟩, .string ⟨#[99, 111, 100, 97]⟩, .string ⟨#[102, 105, 110, 101]⟩, .string ⟨#[116, 111, 99, 111, 100, 97]⟩, .string ⟨#[115, 119, 105, 110, 103]⟩, .string ⟨#[98, 114, 101, 97, 107]⟩, .string ⟨#[109, 97, 114, 107]⟩] 9 (0, 0))], 212⟩

noncomputable def kwM1 (k : Nat → ByteArray) : Go.Dam.Lit :=
  ⟨[.slice none 0 0, .slice (some ⟨243, 0, none⟩) 31 0, undef, .pointer (some ⟨198, 0, none⟩), undef, .map (some 204), .slice (some ⟨100, 0, none⟩) 11 11, .pointer (some ⟨102, 0, none⟩), .pointer (some ⟨104, 0, none⟩), .slice (some ⟨118, 0, none⟩) 14 14, .int .i64 14, .int .i64 14, .bool false, .pointer (some ⟨118, 26, none⟩), .agg #[.string ⟨#[109, 97, 114, 107]⟩, .func (.func 37) #[] #[.pointer (some ⟨106, 0, none⟩), .pointer (some ⟨108, 0, none⟩)]], .slice (some ⟨197, 0, none⟩) 24 0, .pointer (some ⟨198, 0, none⟩), .string ⟨#[109, 97, 114, 107]⟩, .slice (some ⟨200, 0, none⟩) 1 1, .slice (some ⟨203, 0, none⟩) 25 0, .int .i64 14, .map (some 204), .map (some 206), .map (some 208), .slice (some ⟨210, 0, none⟩) 3 3, .int .i64 3, .int .i64 1, .bool true, .pointer (some ⟨210, 0, none⟩), .map (some 204), .slice (some ⟨203, 0, none⟩) 25 0, .map (some 204), .func (.func 39) #[] #[.pointer (some ⟨212, 0, none⟩)], .slice (some ⟨243, 0, none⟩) 31 0, .int .i64 1, undef, undef, undef, undef, undef, undef, undef],
    [(243, .cells #[.string ⟨#[115, 99, 111, 114, 101]⟩, .string ⟨#[119, 114, 105, 116, 116, 101, 110]⟩, .string ⟨#[108, 97, 115, 116]⟩, .string ⟨#[112, 97, 114, 116]⟩, .string ⟨#[116, 114, 97, 110, 115, 112, 111, 115, 101]⟩, .string ⟨#[115, 116, 97, 102, 102]⟩, .string ⟨#[109, 101, 97, 115, 117, 114, 101]⟩, .string ⟨#[116, 101, 109, 112, 111]⟩, .string ⟨#[114, 97, 109, 112]⟩, .string ⟨#[99, 108, 101, 102]⟩, .string ⟨#[103, 114, 97, 99, 101]⟩, .string ⟨#[109, 101, 116, 114, 101]⟩, .string ⟨#[108, 101, 110, 103, 116, 104]⟩, .string ⟨#[107, 101, 121]⟩, .string ⟨#[114, 101, 112, 101, 97, 116]⟩, .string ⟨#[116, 105, 109, 101, 115]⟩, .string ⟨#[101, 110, 100, 105, 110, 103, 115]⟩, .string ⟨#[106, 117, 109, 112]⟩, .string ⟨#[115, 101, 103, 110, 111]⟩, .string ⟨#[99, 111, 100, 97]⟩, .string ⟨#[102, 105, 110, 101]⟩, .string ⟨#[116, 111, 99, 111, 100, 97]⟩, .string ⟨#[115, 119, 105, 110, 103]⟩, .string ⟨#[98, 114, 101, 97, 107]⟩, .string ⟨#[109, 97, 114, 107]⟩, .string (k 0), .string (k 1), .string (k 2), .string (k 3), .string (k 4), .string (k 5)] 9 (0, 0)),
      (210, .cells #[.map (some 204), .map (some 206), .map (some 208)] 49 (0, 0)),
      (208, .map #[⟨.string ⟨#[115, 108, 117, 114]⟩, .int .i64 1, 0⟩, ⟨.string ⟨#[99, 114, 101, 115, 99, 101, 110, 100, 111]⟩, .int .i64 2, 1⟩, ⟨.string ⟨#[100, 105, 109, 105, 110, 117, 101, 110, 100, 111]⟩, .int .i64 3, 2⟩, ⟨.string ⟨#[111, 99, 116, 97, 118, 101, 117, 112]⟩, .int .i64 4, 3⟩, ⟨.string ⟨#[111, 99, 116, 97, 118, 101, 100, 111, 119, 110]⟩, .int .i64 5, 4⟩, ⟨.string ⟨#[112, 101, 100, 97, 108]⟩, .int .i64 6, 5⟩, ⟨.string ⟨#[116, 114, 105, 108, 108]⟩, .int .i64 7, 6⟩] 7),
      (206, .map #[⟨.string ⟨#[115, 121, 115, 116, 101, 109]⟩, .int .i64 1, 0⟩, ⟨.string ⟨#[112, 97, 103, 101]⟩, .int .i64 2, 1⟩, ⟨.string ⟨#[110, 101, 118, 101, 114]⟩, .int .i64 3, 2⟩] 3),
      (204, .map #[⟨.string ⟨#[100, 97, 99, 97, 112, 111]⟩, .int .i64 1, 0⟩, ⟨.string ⟨#[100, 97, 99, 97, 112, 111, 102, 105, 110, 101]⟩, .int .i64 2, 1⟩, ⟨.string ⟨#[100, 97, 99, 97, 112, 111, 99, 111, 100, 97]⟩, .int .i64 3, 2⟩, ⟨.string ⟨#[100, 97, 108, 115, 101, 103, 110, 111]⟩, .int .i64 4, 3⟩, ⟨.string ⟨#[100, 97, 108, 115, 101, 103, 110, 111, 102, 105, 110, 101]⟩, .int .i64 5, 4⟩, ⟨.string ⟨#[100, 97, 108, 115, 101, 103, 110, 111, 99, 111, 100, 97]⟩, .int .i64 6, 5⟩] 6)], 244⟩

noncomputable def kwM2 (k : Nat → ByteArray) : Go.Dam.Lit :=
  ⟨[.slice none 0 0, .slice (some ⟨263, 0, none⟩) 34 0, undef, .pointer (some ⟨198, 0, none⟩), undef, .map (some 206), .slice (some ⟨100, 0, none⟩) 11 11, .pointer (some ⟨102, 0, none⟩), .pointer (some ⟨104, 0, none⟩), .slice (some ⟨118, 0, none⟩) 14 14, .int .i64 14, .int .i64 14, .bool false, .pointer (some ⟨118, 26, none⟩), .agg #[.string ⟨#[109, 97, 114, 107]⟩, .func (.func 37) #[] #[.pointer (some ⟨106, 0, none⟩), .pointer (some ⟨108, 0, none⟩)]], .slice (some ⟨197, 0, none⟩) 24 0, .pointer (some ⟨198, 0, none⟩), .string ⟨#[109, 97, 114, 107]⟩, .slice (some ⟨200, 0, none⟩) 1 1, .slice (some ⟨203, 0, none⟩) 25 0, .int .i64 14, .map (some 204), .map (some 206), .map (some 208), .slice (some ⟨210, 0, none⟩) 3 3, .int .i64 3, .int .i64 2, .bool true, .pointer (some ⟨210, 1, none⟩), .map (some 206), .slice (some ⟨243, 0, none⟩) 31 0, .map (some 206), .func (.func 39) #[] #[.pointer (some ⟨244, 0, none⟩)], .slice (some ⟨263, 0, none⟩) 34 0, .int .i64 2, undef, undef, undef, undef, undef, undef, undef],
    [(263, .cells #[.string ⟨#[115, 99, 111, 114, 101]⟩, .string ⟨#[119, 114, 105, 116, 116, 101, 110]⟩, .string ⟨#[108, 97, 115, 116]⟩, .string ⟨#[112, 97, 114, 116]⟩, .string ⟨#[116, 114, 97, 110, 115, 112, 111, 115, 101]⟩, .string ⟨#[115, 116, 97, 102, 102]⟩, .string ⟨#[109, 101, 97, 115, 117, 114, 101]⟩, .string ⟨#[116, 101, 109, 112, 111]⟩, .string ⟨#[114, 97, 109, 112]⟩, .string ⟨#[99, 108, 101, 102]⟩, .string ⟨#[103, 114, 97, 99, 101]⟩, .string ⟨#[109, 101, 116, 114, 101]⟩, .string ⟨#[108, 101, 110, 103, 116, 104]⟩, .string ⟨#[107, 101, 121]⟩, .string ⟨#[114, 101, 112, 101, 97, 116]⟩, .string ⟨#[116, 105, 109, 101, 115]⟩, .string ⟨#[101, 110, 100, 105, 110, 103, 115]⟩, .string ⟨#[106, 117, 109, 112]⟩, .string ⟨#[115, 101, 103, 110, 111]⟩, .string ⟨#[99, 111, 100, 97]⟩, .string ⟨#[102, 105, 110, 101]⟩, .string ⟨#[116, 111, 99, 111, 100, 97]⟩, .string ⟨#[115, 119, 105, 110, 103]⟩, .string ⟨#[98, 114, 101, 97, 107]⟩, .string ⟨#[109, 97, 114, 107]⟩, .string (k 0), .string (k 1), .string (k 2), .string (k 3), .string (k 4), .string (k 5), .string (k 6), .string (k 7), .string (k 8)] 9 (0, 0)),
      (210, .cells #[.map (some 204), .map (some 206), .map (some 208)] 49 (0, 0)),
      (208, .map #[⟨.string ⟨#[115, 108, 117, 114]⟩, .int .i64 1, 0⟩, ⟨.string ⟨#[99, 114, 101, 115, 99, 101, 110, 100, 111]⟩, .int .i64 2, 1⟩, ⟨.string ⟨#[100, 105, 109, 105, 110, 117, 101, 110, 100, 111]⟩, .int .i64 3, 2⟩, ⟨.string ⟨#[111, 99, 116, 97, 118, 101, 117, 112]⟩, .int .i64 4, 3⟩, ⟨.string ⟨#[111, 99, 116, 97, 118, 101, 100, 111, 119, 110]⟩, .int .i64 5, 4⟩, ⟨.string ⟨#[112, 101, 100, 97, 108]⟩, .int .i64 6, 5⟩, ⟨.string ⟨#[116, 114, 105, 108, 108]⟩, .int .i64 7, 6⟩] 7),
      (206, .map #[⟨.string ⟨#[115, 121, 115, 116, 101, 109]⟩, .int .i64 1, 0⟩, ⟨.string ⟨#[112, 97, 103, 101]⟩, .int .i64 2, 1⟩, ⟨.string ⟨#[110, 101, 118, 101, 114]⟩, .int .i64 3, 2⟩] 3),
      (204, .map #[⟨.string ⟨#[100, 97, 99, 97, 112, 111]⟩, .int .i64 1, 0⟩, ⟨.string ⟨#[100, 97, 99, 97, 112, 111, 102, 105, 110, 101]⟩, .int .i64 2, 1⟩, ⟨.string ⟨#[100, 97, 99, 97, 112, 111, 99, 111, 100, 97]⟩, .int .i64 3, 2⟩, ⟨.string ⟨#[100, 97, 108, 115, 101, 103, 110, 111]⟩, .int .i64 4, 3⟩, ⟨.string ⟨#[100, 97, 108, 115, 101, 103, 110, 111, 102, 105, 110, 101]⟩, .int .i64 5, 4⟩, ⟨.string ⟨#[100, 97, 108, 115, 101, 103, 110, 111, 99, 111, 100, 97]⟩, .int .i64 6, 5⟩] 6)], 264⟩

noncomputable def kwM3 (k : Nat → ByteArray) : Go.Dam.Lit :=
  ⟨[.slice none 0 0, .slice (some ⟨299, 0, none⟩) 41 0, undef, .pointer (some ⟨198, 0, none⟩), undef, .map (some 208), .slice (some ⟨100, 0, none⟩) 11 11, .pointer (some ⟨102, 0, none⟩), .pointer (some ⟨104, 0, none⟩), .slice (some ⟨118, 0, none⟩) 14 14, .int .i64 14, .int .i64 14, .bool false, .pointer (some ⟨118, 26, none⟩), .agg #[.string ⟨#[109, 97, 114, 107]⟩, .func (.func 37) #[] #[.pointer (some ⟨106, 0, none⟩), .pointer (some ⟨108, 0, none⟩)]], .slice (some ⟨197, 0, none⟩) 24 0, .pointer (some ⟨198, 0, none⟩), .string ⟨#[109, 97, 114, 107]⟩, .slice (some ⟨200, 0, none⟩) 1 1, .slice (some ⟨203, 0, none⟩) 25 0, .int .i64 14, .map (some 204), .map (some 206), .map (some 208), .slice (some ⟨210, 0, none⟩) 3 3, .int .i64 3, .int .i64 3, .bool true, .pointer (some ⟨210, 2, none⟩), .map (some 208), .slice (some ⟨263, 0, none⟩) 34 0, .map (some 208), .func (.func 39) #[] #[.pointer (some ⟨264, 0, none⟩)], .slice (some ⟨299, 0, none⟩) 41 0, .int .i64 3, undef, undef, undef, undef, undef, undef, undef],
    [(299, .cells #[.string ⟨#[115, 99, 111, 114, 101]⟩, .string ⟨#[119, 114, 105, 116, 116, 101, 110]⟩, .string ⟨#[108, 97, 115, 116]⟩, .string ⟨#[112, 97, 114, 116]⟩, .string ⟨#[116, 114, 97, 110, 115, 112, 111, 115, 101]⟩, .string ⟨#[115, 116, 97, 102, 102]⟩, .string ⟨#[109, 101, 97, 115, 117, 114, 101]⟩, .string ⟨#[116, 101, 109, 112, 111]⟩, .string ⟨#[114, 97, 109, 112]⟩, .string ⟨#[99, 108, 101, 102]⟩, .string ⟨#[103, 114, 97, 99, 101]⟩, .string ⟨#[109, 101, 116, 114, 101]⟩, .string ⟨#[108, 101, 110, 103, 116, 104]⟩, .string ⟨#[107, 101, 121]⟩, .string ⟨#[114, 101, 112, 101, 97, 116]⟩, .string ⟨#[116, 105, 109, 101, 115]⟩, .string ⟨#[101, 110, 100, 105, 110, 103, 115]⟩, .string ⟨#[106, 117, 109, 112]⟩, .string ⟨#[115, 101, 103, 110, 111]⟩, .string ⟨#[99, 111, 100, 97]⟩, .string ⟨#[102, 105, 110, 101]⟩, .string ⟨#[116, 111, 99, 111, 100, 97]⟩, .string ⟨#[115, 119, 105, 110, 103]⟩, .string ⟨#[98, 114, 101, 97, 107]⟩, .string ⟨#[109, 97, 114, 107]⟩, .string (k 0), .string (k 1), .string (k 2), .string (k 3), .string (k 4), .string (k 5), .string (k 6), .string (k 7), .string (k 8), .string (k 9), .string (k 10), .string (k 11), .string (k 12), .string (k 13), .string (k 14), .string (k 15)] 9 (0, 0)),
      (210, .cells #[.map (some 204), .map (some 206), .map (some 208)] 49 (0, 0)),
      (208, .map #[⟨.string ⟨#[115, 108, 117, 114]⟩, .int .i64 1, 0⟩, ⟨.string ⟨#[99, 114, 101, 115, 99, 101, 110, 100, 111]⟩, .int .i64 2, 1⟩, ⟨.string ⟨#[100, 105, 109, 105, 110, 117, 101, 110, 100, 111]⟩, .int .i64 3, 2⟩, ⟨.string ⟨#[111, 99, 116, 97, 118, 101, 117, 112]⟩, .int .i64 4, 3⟩, ⟨.string ⟨#[111, 99, 116, 97, 118, 101, 100, 111, 119, 110]⟩, .int .i64 5, 4⟩, ⟨.string ⟨#[112, 101, 100, 97, 108]⟩, .int .i64 6, 5⟩, ⟨.string ⟨#[116, 114, 105, 108, 108]⟩, .int .i64 7, 6⟩] 7),
      (206, .map #[⟨.string ⟨#[115, 121, 115, 116, 101, 109]⟩, .int .i64 1, 0⟩, ⟨.string ⟨#[112, 97, 103, 101]⟩, .int .i64 2, 1⟩, ⟨.string ⟨#[110, 101, 118, 101, 114]⟩, .int .i64 3, 2⟩] 3),
      (204, .map #[⟨.string ⟨#[100, 97, 99, 97, 112, 111]⟩, .int .i64 1, 0⟩, ⟨.string ⟨#[100, 97, 99, 97, 112, 111, 102, 105, 110, 101]⟩, .int .i64 2, 1⟩, ⟨.string ⟨#[100, 97, 99, 97, 112, 111, 99, 111, 100, 97]⟩, .int .i64 3, 2⟩, ⟨.string ⟨#[100, 97, 108, 115, 101, 103, 110, 111]⟩, .int .i64 4, 3⟩, ⟨.string ⟨#[100, 97, 108, 115, 101, 103, 110, 111, 102, 105, 110, 101]⟩, .int .i64 5, 4⟩, ⟨.string ⟨#[100, 97, 108, 115, 101, 103, 110, 111, 99, 111, 100, 97]⟩, .int .i64 6, 5⟩] 6)], 300⟩

noncomputable def kwM4 (k : Nat → ByteArray) : Go.Dam.Lit :=
  ⟨[.slice none 0 0, .slice (some ⟨303, 0, none⟩) 63 0, undef, .pointer (some ⟨198, 0, none⟩), undef, .map (some 208), .slice (some ⟨100, 0, none⟩) 11 11, .pointer (some ⟨102, 0, none⟩), .pointer (some ⟨104, 0, none⟩), .slice (some ⟨118, 0, none⟩) 14 14, .int .i64 14, .int .i64 14, .bool false, .pointer (some ⟨118, 26, none⟩), .agg #[.string ⟨#[109, 97, 114, 107]⟩, .func (.func 37) #[] #[.pointer (some ⟨106, 0, none⟩), .pointer (some ⟨108, 0, none⟩)]], .slice (some ⟨197, 0, none⟩) 24 0, .pointer (some ⟨198, 0, none⟩), .string ⟨#[109, 97, 114, 107]⟩, .slice (some ⟨200, 0, none⟩) 1 1, .slice (some ⟨203, 0, none⟩) 25 0, .int .i64 14, .map (some 204), .map (some 206), .map (some 208), .slice (some ⟨210, 0, none⟩) 3 3, .int .i64 3, .int .i64 3, .bool false, .pointer (some ⟨210, 2, none⟩), .map (some 208), .slice (some ⟨263, 0, none⟩) 34 0, .map (some 208), .func (.func 39) #[] #[.pointer (some ⟨264, 0, none⟩)], .slice (some ⟨299, 0, none⟩) 41 0, .int .i64 3, .slice (some ⟨299, 0, none⟩) 41 0, .slice (some ⟨300, 0, none⟩) 22 22, .slice (some ⟨303, 0, none⟩) 63 0, undef, undef, undef, undef],
    [(303, .cells #[.string ⟨#[115, 99, 111, 114, 101]⟩, .string ⟨#[119, 114, 105, 116, 116, 101, 110]⟩, .string ⟨#[108, 97, 115, 116]⟩, .string ⟨#[112, 97, 114, 116]⟩, .string ⟨#[116, 114, 97, 110, 115, 112, 111, 115, 101]⟩, .string ⟨#[115, 116, 97, 102, 102]⟩, .string ⟨#[109, 101, 97, 115, 117, 114, 101]⟩, .string ⟨#[116, 101, 109, 112, 111]⟩, .string ⟨#[114, 97, 109, 112]⟩, .string ⟨#[99, 108, 101, 102]⟩, .string ⟨#[103, 114, 97, 99, 101]⟩, .string ⟨#[109, 101, 116, 114, 101]⟩, .string ⟨#[108, 101, 110, 103, 116, 104]⟩, .string ⟨#[107, 101, 121]⟩, .string ⟨#[114, 101, 112, 101, 97, 116]⟩, .string ⟨#[116, 105, 109, 101, 115]⟩, .string ⟨#[101, 110, 100, 105, 110, 103, 115]⟩, .string ⟨#[106, 117, 109, 112]⟩, .string ⟨#[115, 101, 103, 110, 111]⟩, .string ⟨#[99, 111, 100, 97]⟩, .string ⟨#[102, 105, 110, 101]⟩, .string ⟨#[116, 111, 99, 111, 100, 97]⟩, .string ⟨#[115, 119, 105, 110, 103]⟩, .string ⟨#[98, 114, 101, 97, 107]⟩, .string ⟨#[109, 97, 114, 107]⟩, .string (k 0), .string (k 1), .string (k 2), .string (k 3), .string (k 4), .string (k 5), .string (k 6), .string (k 7), .string (k 8), .string (k 9), .string (k 10), .string (k 11), .string (k 12), .string (k 13), .string (k 14), .string (k 15), .string ⟨#[115, 116, 97, 99, 99, 97, 116, 111]⟩, .string ⟨#[116, 101, 110, 117, 116, 111]⟩, .string ⟨#[97, 99, 99, 101, 110, 116]⟩, .string ⟨#[109, 97, 114, 99, 97, 116, 111]⟩, .string ⟨#[102, 101, 114, 109, 97, 116, 97]⟩, .string ⟨#[116, 114, 105, 108, 108]⟩, .string ⟨#[109, 111, 114, 100, 101, 110, 116]⟩, .string ⟨#[105, 110, 118, 101, 114, 115, 101]⟩, .string ⟨#[116, 117, 114, 110]⟩, .string ⟨#[112, 112, 112]⟩, .string ⟨#[112, 112]⟩, .string ⟨#[112]⟩, .string ⟨#[109, 112]⟩, .string ⟨#[109, 102]⟩, .string ⟨#[102]⟩, .string ⟨#[102, 102]⟩, .string ⟨#[102, 102, 102]⟩, .string ⟨#[115, 102, 122]⟩, .string ⟨#[117, 112]⟩, .string ⟨#[100, 111, 119, 110]⟩, .string ⟨#[97, 112, 97, 114, 116]⟩, .string ⟨#[106, 111, 105, 110]⟩] 9 (0, 0))], 304⟩


noncomputable def c4 : Code := bodyOf 4
noncomputable def c15 : Code := bodyOf 15
noncomputable def c39 : Code := bodyOf 39
def blkB : Code → Code
  | .block _ b => b
  | c => c
noncomputable def lb4 : Code := loopIn (headC (tailC 3 c4))
noncomputable def r8c : Code := headC lb4
noncomputable def cnd4 : Code := headC (tailC 1 lb4)
noncomputable def b34 : Code := blkB (headC (tailC 2 lb4))
noncomputable def r9c : Code := headC b34
noncomputable def opsK : Array Oper := opsC (tailC 1 b34)
noncomputable def r11c : Code := tailC 3 lb4
noncomputable def l1K : List Oper := opsK.toList.take 3
noncomputable def oK : Oper := opsK.getD 3 default
noncomputable def l2K : List Oper := opsK.toList.drop 4
noncomputable def cK : Call := match oK.op with
  | .call c => c
  | _ => default
noncomputable def A0c : Code := headC c15
noncomputable def A1c : Code := headC (headC (tailC 1 c15))
noncomputable def rfc : Code := blkB (tailC 1 (headC (tailC 1 c15)))
noncomputable def A2c : Code := tailC 2 c15
noncomputable def rfG : Operand := match rfc with | .rangeFunc g _ _ _ => g | _ => .const undef
noncomputable def rfP : Array Tmp := match rfc with | .rangeFunc _ p _ _ => p | _ => #[]
noncomputable def rfA : Code := match rfc with | .rangeFunc _ _ a _ => a | _ => .skip
noncomputable def rfB : Code := match rfc with | .rangeFunc _ _ _ b => b | _ => .skip
noncomputable def R0c : Code := headC c39
noncomputable def lb39 : Code := loopIn (tailC 1 c39)
noncomputable def ops1c : Array Oper := opsC (headC lb39)
noncomputable def rest39 : Code := tailC 1 lb39
noncomputable def b39 : Code := blkB (tailC 1 rest39)
noncomputable def ops2c : Array Oper := opsC (headC b39)
noncomputable def rest2c : Code := tailC 1 b39
noncomputable def o1c : Oper := ops1c.getD 0 default
noncomputable def o2c : Oper := ops1c.getD 1 default
noncomputable def oec : Oper := ops2c.getD 0 default
noncomputable def oxc : Oper := ops2c.getD 1 default
noncomputable def oac : Oper := ops2c.getD 2 default

def tmX : Option (Exit × List Value × St) → List Value
  | some (_, tm, _) => tm
  | none => []
def stX : Option (Exit × List Value × St) → St
  | some (_, _, S) => S
  | none => ⟨[], 0⟩
def exX : Option (Exit × List Value × St) → Nat
  | some (.normal, _, _) => 1
  | some (.ret, _, _) => 2
  | some (.exit n, _, _) => n + 3
  | _ => 0
def tmP : Option (Code × List Value × St) → List Value
  | some (_, tm, _) => tm
  | none => []
def stP : Option (Code × List Value × St) → St
  | some (_, _, S) => S
  | none => ⟨[], 0⟩
def cdP : Option (Code × List Value × St) → Code
  | some (c, _, _) => c
  | none => .skip

theorem exN {r : Option (Exit × List Value × St)} (h : exX r = 1) : r = some (.normal, tmX r, stX r) := by
  cases r with
  | none => cases h
  | some x =>
    obtain ⟨e, tm, S⟩ := x
    cases e with
    | normal => rfl
    | ret => cases h
    | exit n => simp [exX] at h
    | _ => cases h
theorem exR {r : Option (Exit × List Value × St)} (h : exX r = 2) : r = some (.ret, tmX r, stX r) := by
  cases r with
  | none => cases h
  | some x =>
    obtain ⟨e, tm, S⟩ := x
    cases e with
    | ret => rfl
    | normal => cases h
    | exit n => simp [exX] at h
    | _ => cases h
theorem exE {r : Option (Exit × List Value × St)} {n : Nat} (h : exX r = n + 3) : r = some (.exit n, tmX r, stX r) := by
  cases r with
  | none => simp [exX] at h
  | some x =>
    obtain ⟨e, tm, S⟩ := x
    cases e with
    | exit m => simp [exX] at h; subst h; rfl
    | _ => simp [exX] at h
theorem exP {r : Option (Code × List Value × St)} (h : r.isSome = true) : r = some (cdP r, tmP r, stP r) := by
  cases r with
  | none => cases h
  | some x => rfl

def mkE (t : ByteArray × Int × Nat) : MapEntry := ⟨.string t.1, .int .i64 t.2.1, t.2.2⟩
def isE (e : MapEntry) : Bool := match e with
  | ⟨.string _, .int .i64 _, _⟩ => true
  | _ => false
def keyOf (e : MapEntry) : ByteArray := match e with
  | ⟨.string s, _, _⟩ => s
  | _ => .empty
theorem unE1 {e : MapEntry} (h : isE e = true) : ∃ t, e = mkE t := by
  unfold isE at h
  split at h
  · rename_i s v b
    exact ⟨(s, v, b), rfl⟩
  · cases h
theorem unE : ∀ {l : List MapEntry}, (∀ e ∈ l, isE e = true) → ∃ t : List (ByteArray × Int × Nat), l = t.map mkE
  | [], _ => ⟨[], rfl⟩
  | a :: r, h => by
    obtain ⟨x, rfl⟩ := unE1 (h a (by simp))
    obtain ⟨t, rfl⟩ := unE (l := r) fun e he => h e (List.mem_cons_of_mem _ he)
    exact ⟨x :: t, rfl⟩
theorem unEp {es l ls : List MapEntry} (hes : es.all isE = true) (hp : (l ++ ls).Perm es) : ∃ t : List (ByteArray × Int × Nat), l = t.map mkE ∧ t.length ≤ es.length := by
  obtain ⟨t, rfl⟩ := unE (l := l) fun e he => List.all_eq_true.1 hes e (hp.mem_iff.1 (by simp [he]))
  refine ⟨t, rfl, ?_⟩
  have := hp.length_eq
  simp at this
  omega
theorem unEf {es l : List MapEntry} (hes : es.all isE = true) (hp : l.Perm es) : ∃ t : List (ByteArray × Int × Nat), l = t.map mkE ∧ t.length = es.length := by
  obtain ⟨t, rfl⟩ := unE (l := l) fun e he => List.all_eq_true.1 hes e (hp.mem_iff.1 he)
  refine ⟨t, rfl, ?_⟩
  have := hp.length_eq
  simpa using this

def updK (off : Nat) (k : Nat → ByteArray) (ys : List MapEntry) : Nat → ByteArray := fun i => bif Nat.blt i off then k i else keyOf (ys.getD (i - off) ⟨.string .empty, undef, 0⟩)

theorem getB_subD {g h : List (Nat × Obj)} {n : Nat} (hl : h.length = n) (H : ∀ i, i < n → getB g (h.getD i default).1 = some (h.getD i default).2) : ∀ m o, getB h m = some o → getB g m = some o :=
  getB_sub fun x hx => by
    obtain ⟨i, hi, rfl⟩ := List.mem_iff_getElem.1 hx
    have := H i (by omega)
    have e : h.getD i default = h[i] := by simp [List.getD, hi]
    rw [e] at this
    exact this

theorem oT_some (a : List Value) (S : St) : oT (some (a, S)) = a := rfl
theorem oF_some (a : List Value) (S : St) : oF (some (a, S)) = S := rfl
theorem shape_lb4 : lb4 = .seq r8c (.seq cnd4 (.seq (.block 3 (.seq r9c (.region 10 opsK false))) r11c)) := by kernel_rfl
theorem shape_opsK : opsK.toList = l1K ++ oK :: l2K := by kernel_rfl
theorem oK_op : oK.op = .call cK := by kernel_rfl
theorem oK_guard : oK.guard = none := by kernel_rfl
theorem cK_callee : cK.callee = .value (.func 15) := by kernel_rfl
theorem cK_body : hasBody Tryz.prog 15 = true := by kernel_rfl
theorem body15 : Tryz.f15.body = some (.seq A0c (.seq (.seq A1c (.block 0 (.rangeFunc rfG rfP rfA rfB))) A2c)) := by kernel_rfl
theorem body39 : Tryz.f39.body = some (.seq R0c (.block 0 (.loop (.seq (.region 1 #[o1c, o2c] false) rest39)))) := by kernel_rfl
theorem shape_rest39 : rest39 = .seq (.cond (.tmp 7) .skip (.exit 0)) (.block 1 (.seq (.region 2 #[oec, oxc, oac] false) rest2c)) := by kernel_rfl
theorem ok_lb4 : okCode Tryz.prog lb4 = true := by kernel_rfl
theorem ok_15 : okCode Tryz.prog (.seq A0c (.seq (.seq A1c (.block 0 (.rangeFunc rfG rfP rfA rfB))) A2c)) = true := by kernel_rfl
theorem ok_R0 : okCode Tryz.prog R0c = true := by kernel_rfl
theorem ok_rest39 : okCode Tryz.prog rest39 = true := by kernel_rfl
theorem res39 : Tryz.f39.results.toList = [] := by kernel_rfl
theorem nt15 : Tryz.f15.ntmps = 13 := by kernel_rfl
theorem nt39 : Tryz.f39.ntmps = 14 := by kernel_rfl
theorem o1_op : o1c.op = .next (.tmp 5) false := by kernel_rfl
theorem o1_guard : o1c.guard = none := by kernel_rfl
theorem o1_dst : o1c.dst = some 6 := by kernel_rfl
theorem o2_op : o2c.op = .extract (.tmp 6) 0 := by kernel_rfl
theorem o2_guard : o2c.guard = none := by kernel_rfl
theorem o2_dst : o2c.dst = some 7 := by kernel_rfl
theorem oe_op : oec.op = .entry (.tmp 5) := by kernel_rfl
theorem oe_guard : oec.guard = none := by kernel_rfl
theorem oe_dst : oec.dst = some 8 := by kernel_rfl

end Go.Proofs.YtonojcpjdhbhoaaGreatDoor
