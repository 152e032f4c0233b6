/-
  The memories behind the parts of First: its text loaded, its machine made.
-/
import Derived.Test.YtmnlcockdbaibaaGreatDoorPnS
namespace Go.Proofs.YtmnlcockdbaibaaGreatDoor
open Go.RowKit
namespace Ev
noncomputable def tms1 : List AV := [.bool false, .ptr 977 0, .int .i64 0, .tup [], .tup [], .tup [], .tup [.agg [.nils, .slice 963 0 3 true 0], .int .i64 0], .tup [.agg [.nils, .slice 963 0 3 true 0], .int .i64 0], .agg [.nils, .slice 963 0 3 true 0], .int .i64 0, .tup [], .tup [], .tup [], .tup [], .tup [], .tup [], .tup [], .tup [], .tup [], .tup [], .tup [], .tup [], .tup [], .tup [], .tup [], .tup [], .tup [], .tup [], .tup [], .tup [], .tup [], .tup [], .tup [], .tup [], .tup [], .tup [], .tup [], .tup [], .tup [], .tup [], .tup [], .tup [], .tup [], .tup [], .tup [], .tup [], .tup [], .tup [], .tup []]
noncomputable def mem1 : Heap := memOf 978 [
  (233, .row 9 1 [.str 1 105] false false),
  (913, .row 224 4 [.str 3 7630441, .str 0 0, .int .i64 1, .nils, .str 3 7630441, .str 0 0, .int .i64 4, .nils, .str 3 7630441, .str 0 0, .int .i64 1, .nils] true false),
  (930, .row 224 4 [.str 3 7630441, .str 0 0, .int .i64 0, .nils] true false),
  (957, .row 224 4 [.str 3 7496054, .str 1 105, .int .i64 0, .nils, .str 3 7496054, .str 1 105, .int .i64 0, .nils] true false),
  (959, .row 162 8 [.str 3 7632240, .str 1 97, .str 0 0, .int .i64 0, .nils, .slice 957 0 2 true 0, .nils, .nils] true false),
  (961, .row 84 1 [.slice 959 0 1 true 0] true false),
  (963, .row 162 8 [.str 3 7171940, .str 1 100, .str 5 461229747298, .int .i64 0, .nils, .slice 913 0 3 true 0, .nils, .nils, .str 3 7500385, .str 1 97, .str 1 100, .int .i64 0, .nils, .slice 930 0 1 true 0, .nils, .nils, .str 6 119212747157350, .str 0 0, .str 1 100, .int .i64 0, .slice 233 0 1 false 1, .nils, .nils, .slice 961 0 1 true 0] true false),
  (977, .row 86 2 [.nils, .slice 963 0 3 true 0] false false)]
noncomputable def tms2 : List AV := [.bool false, .ptr 977 0, .int .i64 0, .ptr 2093 0, .tup [], .tup [], .tup [.agg [.nils, .slice 963 0 3 true 0], .int .i64 0], .tup [.agg [.nils, .slice 963 0 3 true 0], .int .i64 0], .agg [.nils, .slice 963 0 3 true 0], .int .i64 0, .int .i64 0, .bool false, .tup [.ptr 2093 0, .int .i64 0], .agg [.nils, .slice 963 0 3 true 0], .tup [.ptr 2093 0, .int .i64 0], .ptr 2093 0, .int .i64 0, .int .i64 0, .bool false, .bool false, .ptr 2093 0, .bool false, .bool false, .tup [], .tup [], .tup [], .tup [], .tup [], .tup [], .tup [], .tup [], .tup [], .tup [], .tup [], .tup [], .tup [], .tup [], .tup [], .tup [], .tup [], .tup [], .tup [], .tup [], .tup [], .tup [], .tup [], .tup [], .tup [], .tup []]
noncomputable def mem2 : Heap := memOf 2094 [
  (233, .row 9 1 [.str 1 105] false false),
  (913, .row 224 4 [.str 3 7630441, .str 0 0, .int .i64 1, .nils, .str 3 7630441, .str 0 0, .int .i64 4, .nils, .str 3 7630441, .str 0 0, .int .i64 1, .nils] true false),
  (930, .row 224 4 [.str 3 7630441, .str 0 0, .int .i64 0, .nils] true false),
  (957, .row 224 4 [.str 3 7496054, .str 1 105, .int .i64 0, .nils, .str 3 7496054, .str 1 105, .int .i64 0, .nils] true false),
  (959, .row 162 8 [.str 3 7632240, .str 1 97, .str 0 0, .int .i64 0, .nils, .slice 957 0 2 true 0, .nils, .nils] true false),
  (961, .row 84 1 [.slice 959 0 1 true 0] true false),
  (963, .row 162 8 [.str 3 7171940, .str 1 100, .str 5 461229747298, .int .i64 0, .nils, .slice 913 0 3 true 0, .nils, .nils, .str 3 7500385, .str 1 97, .str 1 100, .int .i64 0, .nils, .slice 930 0 1 true 0, .nils, .nils, .str 6 119212747157350, .str 0 0, .str 1 100, .int .i64 0, .slice 233 0 1 false 1, .nils, .nils, .slice 961 0 1 true 0] true false),
  (977, .row 86 2 [.nils, .slice 963 0 3 true 0] false false),
  (1663, .row 224 4 [.str 3 7630441, .str 0 0, .int .i64 1, .nils, .str 3 7630441, .str 0 0, .int .i64 4, .nils, .str 3 7630441, .str 0 0, .int .i64 1, .nils] true false),
  (1682, .row 224 4 [.str 3 7630441, .str 0 0, .int .i64 0, .nils] true false),
  (1726, .row 224 4 [.str 3 7496054, .str 1 105, .int .i64 0, .nils, .str 3 7496054, .str 1 105, .int .i64 0, .nils] true false),
  (1733, .row 162 8 [.str 3 7632240, .str 1 97, .str 0 0, .int .i64 0, .nils, .slice 1726 0 2 true 0, .nils, .nils] true false),
  (1737, .row 84 1 [.slice 1733 0 1 true 0] true false),
  (1739, .row 162 8 [.str 3 7171940, .str 1 100, .str 5 461229747298, .int .i64 0, .nils, .slice 1663 0 3 true 0, .nils, .nils, .str 3 7500385, .str 1 97, .str 1 100, .int .i64 0, .nils, .slice 1682 0 1 true 0, .nils, .nils, .str 6 119212747157350, .str 0 0, .str 1 100, .int .i64 0, .slice 233 0 1 false 1, .nils, .nils, .slice 1737 0 1 true 0] true false),
  (1891, .mp [] 0),
  (1892, .row 172 5 [.ptr 1894 0, .map 1891, .nils, .slice 1739 0 3 true 0, .int .i64 1] false false),
  (1894, .row 132 8 [.str 0 0, .slice 2079 0 26 true 0, .int .i64 1, .str 0 0, .str 0 0, .nils, .nils, .slice 2073 0 4 true 0] false false),
  (1954, .row 3 1 [.int .i64 3] false false),
  (1955, .row 132 8 [.str 5 461229747298, .nils, .int .i64 0, .str 0 0, .str 0 0, .nils, .nils, .nils] false false),
  (1988, .row 132 8 [.str 1 100, .nils, .int .i64 0, .str 0 0, .str 0 0, .nils, .nils, .nils] false false),
  (2019, .row 3 1 [.int .i64 0] true false),
  (2065, .row 3 1 [.int .i64 1] false false),
  (2073, .row 3 1 [.int .i64 0, .int .i64 9, .int .i64 14, .int .i64 24] true false),
  (2079, .row 126 9 [.str 4 1802658157, .str 0 0, .int .i64 0, .int .i64 0, .nils, .bool false, .nils, .nils, .nilp, .str 4 1885697139, .str 0 0, .int .i64 0, .int .i64 0, .nils, .bool false, .nils, .nils, .nilp, .str 4 1885697139, .str 0 0, .int .i64 0, .int .i64 0, .nils, .bool false, .nils, .nils, .nilp, .str 3 7630441, .str 0 0, .int .i64 1, .int .i64 0, .nils, .bool false, .nils, .nils, .nilp, .str 4 1885697139, .str 0 0, .int .i64 0, .int .i64 0, .nils, .bool false, .nils, .nils, .nilp, .str 3 7630441, .str 0 0, .int .i64 4, .int .i64 0, .nils, .bool false, .nils, .nils, .nilp, .str 4 1885697139, .str 0 0, .int .i64 0, .int .i64 0, .nils, .bool false, .nils, .nils, .nilp, .str 3 7630441, .str 0 0, .int .i64 1, .int .i64 0, .nils, .bool false, .nils, .nils, .nilp, .str 3 7171940, .str 1 100, .int .i64 0, .int .i64 0, .slice 1954 0 1 false 1, .bool false, .nils, .nils, .ptr 1955 0, .str 4 1802658157, .str 0 0, .int .i64 1, .int .i64 0, .nils, .bool false, .nils, .nils, .nilp, .str 4 1885697139, .str 0 0, .int .i64 0, .int .i64 0, .nils, .bool false, .nils, .nils, .nilp, .str 4 1885697139, .str 0 0, .int .i64 0, .int .i64 0, .nils, .bool false, .nils, .nils, .nilp, .str 3 7630441, .str 0 0, .int .i64 0, .int .i64 0, .nils, .bool false, .nils, .nils, .nilp, .str 3 7500385, .str 1 97, .int .i64 0, .int .i64 0, .nils, .bool false, .nils, .nils, .ptr 1988 0, .str 4 1802658157, .str 0 0, .int .i64 2, .int .i64 0, .nils, .bool false, .nils, .nils, .nilp, .str 4 1885697139, .str 0 0, .int .i64 0, .int .i64 0, .nils, .bool false, .nils, .nils, .nilp, .str 6 119212747157350, .str 1 100, .int .i64 24, .int .i64 (-1), .slice 2019 0 1 true 0, .bool false, .nils, .slice 233 0 1 false 1, .nilp, .str 4 1885697139, .str 0 0, .int .i64 0, .int .i64 0, .nils, .bool false, .nils, .nils, .nilp, .str 4 1885697139, .str 0 0, .int .i64 0, .int .i64 0, .nils, .bool false, .nils, .nils, .nilp, .str 4 1684107116, .str 1 105, .int .i64 0, .int .i64 0, .nils, .bool false, .nils, .nils, .nilp, .str 4 1885697139, .str 0 0, .int .i64 0, .int .i64 0, .nils, .bool false, .nils, .nils, .nilp, .str 4 1684107116, .str 1 105, .int .i64 0, .int .i64 0, .nils, .bool false, .nils, .nils, .nilp, .str 3 7632240, .str 1 97, .int .i64 0, .int .i64 (-1), .slice 2065 0 1 false 1, .bool false, .nils, .nils, .nilp, .str 4 1954047342, .str 0 0, .int .i64 0, .int .i64 0, .nils, .bool false, .nils, .nils, .nilp, .str 4 1802658157, .str 0 0, .int .i64 3, .int .i64 0, .nils, .bool false, .nils, .nils, .nilp, .str 3 6581861, .str 0 0, .int .i64 0, .int .i64 0, .nils, .bool false, .nils, .nils, .nilp] true false),
  (2080, .mp [] 0),
  (2081, .mp [] 0),
  (2082, .mp [] 0),
  (2083, .mp [] 0),
  (2084, .mp [] 0),
  (2085, .mp [] 0),
  (2086, .row 3 1 [.int .i64 0] false false),
  (2087, .row 3 1 [.int .i64 0, .int .i64 0] false false),
  (2088, .row 65 28 [.ptr 1892 0, .int .i64 2, .bool true, .int .i64 0, .int .i64 0, .nils, .slice 2091 0 1 false 1, .slice 2092 0 1 false 1, .map 2080, .map 2081, .map 2082, .map 2083, .map 2084, .nils, .nils, .map 2085, .slice 2086 0 1 false 1, .int .i64 0, .int .i64 0, .slice 2087 0 2 false 2, .ptr 2090 0, .bool false, .nils, .bool false, .int .i64 0, .int .i64 0, .int .i64 (-1), .bool false] false false),
  (2089, .row 191 4 [.nilp, .nilp, .nilp, .bool false] false false),
  (2090, .row 102 22 [.nils, .int .i64 0, .int .i64 0, .ptr 1894 0, .int .i64 0, .slice 2089 0 1 false 1, .nils, .nils, .nils, .nilp, .nilf, .bool false, .bool false, .int .i64 0, .int .i64 0, .bool false, .str 0 0, .int .i64 0, .int .i64 0, .nilp, .nilp, .nilp] false false),
  (2091, .row 62 1 [.ptr 2090 0] false false),
  (2092, .row 35 1 [.nils] false false),
  (2093, .row 25 1 [.ptr 2088 0] false false)]
end Ev
end Go.Proofs.YtmnlcockdbaibaaGreatDoor
