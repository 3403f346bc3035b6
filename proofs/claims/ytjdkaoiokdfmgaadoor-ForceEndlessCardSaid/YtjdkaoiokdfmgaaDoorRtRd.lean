/- The law ForceEndless: the machine's ten rounds, with whatever fuel. (Printed by gen31.py.) -/
import Derived.Test.YtjdkaoiokdfmgaaDoorRtRa
namespace Go.Rt
open Go.Am Go.Proofs
set_option maxRecDepth 100000
set_option maxHeartbeats 8000000

def tE : V := .agg [.int .i64 9, .str [], .int .i64 0, .int .i64 0, .str [], .sl .frozen [], .sl .frozen [.agg [.int .i64 1, .str [120], .int .i64 0, .int .i64 0, .str [], .sl .frozen [], .sl .frozen [], .sl .frozen [], .sl .frozen []]], .sl .frozen [], .sl .frozen [.agg [.str [120], .int .i64 2, .str [76, 105, 115, 116], .sl .frozen [.agg [.int .i64 2, .str [73, 110, 116], .sl .frozen []]], .int .i64 5, .str [], .int .i64 0, .int .i64 0, .str [], .sl .frozen [], .sl .frozen [.agg [.int .i64 5, .str [], .int .i64 0, .int .i64 0, .str [], .sl .frozen [], .sl .frozen [.agg [.int .i64 7, .str [], .int .i64 0, .int .i64 2, .str [73, 110, 116], .sl .frozen [], .sl .frozen [.agg [.int .i64 2, .str [67, 111, 110, 115], .int .i64 0, .int .i64 0, .str [], .sl .frozen [], .sl .frozen [], .sl .frozen [], .sl .frozen []]], .sl .frozen [], .sl .frozen []], .agg [.int .i64 3, .str [], .int .i64 1, .int .i64 0, .str [], .sl .frozen [], .sl .frozen [], .sl .frozen [], .sl .frozen []]], .sl .frozen [], .sl .frozen []], .agg [.int .i64 1, .str [120], .int .i64 0, .int .i64 0, .str [], .sl .frozen [], .sl .frozen [], .sl .frozen [], .sl .frozen []]], .sl .frozen [], .sl .frozen []]]]

def hE0 (c : Nat) (F : Int) : List Ob := [.map [] [] 0, .box [(.map (some 0)), (.int .i64 0)], .map [(.str [118, 49], .int .i64 0)] [0] 1, .box [(.map (some 2)), (.int .i64 1)], .box [(.sl .clip []), (.int .i64 1), (.int .i64 (-1)), (.ptr 5 0)], .box [(.int .i64 9), (.int .i64 0), (.str []), (.int .i64 (-1)), (.ptr 17 0), .nilp, (.sl (.fam 6) [(.int .i64 0)]), (.sl (.fam 16) [(.ptr 9 0)]), .nilp, (.sl .clip [])], .fam 1 1, .map [(.str [118, 49], .int .i64 0)] [0] 1, .box [(.map (some 7)), (.int .i64 1)], .box [(.sl (.fam 10) [(.int .i64 0)]), (.int .i64 1), (.int .i64 (-1)), (.ptr 11 0)], .fam 1 1, .box [(.int .i64 5), (.int .i64 0), (.str []), (.int .i64 (-1)), (.ptr 12 0), (.ptr 15 0), (.sl .clip []), (.sl .clip []), .nilp, (.sl .clip [])], .box [(.int .i64 5), (.int .i64 0), (.str []), (.int .i64 (-1)), (.ptr 13 0), (.ptr 14 0), (.sl .clip []), (.sl .clip []), .nilp, (.sl .clip [])], .box [(.int .i64 2), (.int .i64 0), (.str [67, 111, 110, 115]), (.int .i64 (-1)), .nilp, .nilp, (.sl .clip []), (.sl .clip []), .nilp, (.sl .clip [])], .box [(.int .i64 3), (.int .i64 1), (.str []), (.int .i64 (-1)), .nilp, .nilp, (.sl .clip []), (.sl .clip []), .nilp, (.sl .clip [])], .box [(.int .i64 1), (.int .i64 0), (.str [118, 49]), (.int .i64 0), .nilp, .nilp, (.sl .clip []), (.sl .clip []), .nilp, (.sl .clip [])], .fam 1 1, .box [(.int .i64 1), (.int .i64 0), (.str [118, 49]), (.int .i64 0), .nilp, .nilp, (.sl .clip []), (.sl .clip []), .nilp, (.sl .clip [])], .box [.nilp, (.bool false), (.ptr 4 0), (.sl .clip [])], .box [(.int .i64 ((c + 2 : Nat) : Int)), (.int .i64 0), (.int .i64 0), .nili, (.ptr 18 0), (.sl .clip []), (.sl .clip []), .nilp, (.sl .clip []), .nilp, (.bool false)], .box [(.ptr 19 0), (.int .i64 F), (.int .i64 100000), (.sl .clip [])]]

def hE1 (c : Nat) (F : Int) : List Ob := [.map [] [] 0, .box [(.map (some 0)), (.int .i64 0)], .map [(.str [118, 49], .int .i64 0)] [0] 1, .box [(.map (some 2)), (.int .i64 1)], .box [(.sl .clip []), (.int .i64 1), (.int .i64 (-1)), (.ptr 5 0)], .box [(.int .i64 9), (.int .i64 0), (.str []), (.int .i64 (-1)), (.ptr 17 0), .nilp, (.sl (.fam 6) [(.int .i64 0)]), (.sl (.fam 16) [(.ptr 9 0)]), .nilp, (.sl .clip [])], .fam 1 1, .map [(.str [118, 49], .int .i64 0)] [0] 1, .box [(.map (some 7)), (.int .i64 1)], .box [(.sl (.fam 10) [(.int .i64 0)]), (.int .i64 1), (.int .i64 (-1)), (.ptr 11 0)], .fam 1 1, .box [(.int .i64 5), (.int .i64 0), (.str []), (.int .i64 (-1)), (.ptr 12 0), (.ptr 15 0), (.sl .clip []), (.sl .clip []), .nilp, (.sl .clip [])], .box [(.int .i64 5), (.int .i64 0), (.str []), (.int .i64 (-1)), (.ptr 13 0), (.ptr 14 0), (.sl .clip []), (.sl .clip []), .nilp, (.sl .clip [])], .box [(.int .i64 2), (.int .i64 0), (.str [67, 111, 110, 115]), (.int .i64 (-1)), .nilp, .nilp, (.sl .clip []), (.sl .clip []), .nilp, (.sl .clip [])], .box [(.int .i64 3), (.int .i64 1), (.str []), (.int .i64 (-1)), .nilp, .nilp, (.sl .clip []), (.sl .clip []), .nilp, (.sl .clip [])], .box [(.int .i64 1), (.int .i64 0), (.str [118, 49]), (.int .i64 0), .nilp, .nilp, (.sl .clip []), (.sl .clip []), .nilp, (.sl .clip [])], .fam 1 1, .box [(.int .i64 1), (.int .i64 0), (.str [118, 49]), (.int .i64 0), .nilp, .nilp, (.sl .clip []), (.sl .clip []), .nilp, (.sl .clip [])], .box [.nilp, (.bool true), (.ptr 4 0), (.sl .clip [])], .box [(.int .i64 ((c + 2 : Nat) : Int)), (.int .i64 0), (.int .i64 1), .nili, (.ptr 18 0), (.sl .clip []), (.vec 21 0 0 1 7), (.ptr 5 0), (.msl 22 0 1 1 1), .nilp, (.bool true)], .box [(.ptr 19 0), (.int .i64 F), (.int .i64 100000), (.sl .clip [])], .vec 0 7 [(.int .i64 1), (.ptr 18 0), .nilp, (.sl .clip []), (.str []), (.sl .clip []), (.sl .clip [])], .box [.nilp]]

def hE2 (c : Nat) (F : Int) : List Ob := [.map [] [] 0, .box [(.map (some 0)), (.int .i64 0)], .map [(.str [118, 49], .int .i64 0)] [0] 1, .box [(.map (some 2)), (.int .i64 1)], .box [(.sl .clip []), (.int .i64 1), (.int .i64 (-1)), (.ptr 5 0)], .box [(.int .i64 9), (.int .i64 0), (.str []), (.int .i64 (-1)), (.ptr 17 0), .nilp, (.sl (.fam 6) [(.int .i64 0)]), (.sl (.fam 16) [(.ptr 9 0)]), .nilp, (.sl .clip [])], .fam 1 1, .map [(.str [118, 49], .int .i64 0)] [0] 1, .box [(.map (some 7)), (.int .i64 1)], .box [(.sl (.fam 10) [(.int .i64 0)]), (.int .i64 1), (.int .i64 (-1)), (.ptr 11 0)], .fam 1 1, .box [(.int .i64 5), (.int .i64 0), (.str []), (.int .i64 (-1)), (.ptr 12 0), (.ptr 15 0), (.sl .clip []), (.sl .clip []), .nilp, (.sl .clip [])], .box [(.int .i64 5), (.int .i64 0), (.str []), (.int .i64 (-1)), (.ptr 13 0), (.ptr 14 0), (.sl .clip []), (.sl .clip []), .nilp, (.sl .clip [])], .box [(.int .i64 2), (.int .i64 0), (.str [67, 111, 110, 115]), (.int .i64 (-1)), .nilp, .nilp, (.sl .clip []), (.sl .clip []), .nilp, (.sl .clip [])], .box [(.int .i64 3), (.int .i64 1), (.str []), (.int .i64 (-1)), .nilp, .nilp, (.sl .clip []), (.sl .clip []), .nilp, (.sl .clip [])], .box [(.int .i64 1), (.int .i64 0), (.str [118, 49]), (.int .i64 0), .nilp, .nilp, (.sl .clip []), (.sl .clip []), .nilp, (.sl .clip [])], .fam 1 1, .box [(.int .i64 1), (.int .i64 0), (.str [118, 49]), (.int .i64 0), .nilp, .nilp, (.sl .clip []), (.sl .clip []), .nilp, (.sl .clip [])], .box [.nilp, (.bool true), (.ptr 4 0), (.sl .clip [])], .box [(.int .i64 ((c + 2 : Nat) : Int)), (.int .i64 1), (.int .i64 2), .nili, (.ptr 18 0), (.sl .clip []), (.vec 21 0 0 1 7), (.ptr 17 0), (.msl 22 0 1 1 1), .nilp, (.bool true)], .box [(.ptr 19 0), (.int .i64 F), (.int .i64 100000), (.sl .clip [])], .vec 0 7 [(.int .i64 1), (.ptr 18 0), .nilp, (.sl .clip []), (.str []), (.sl .clip []), (.sl .clip [])], .box [(.ptr 23 0)], .box [.nilp, (.bool false), (.ptr 9 0), (.sl .frozen [(.ptr 23 0)])]]

def hE3 (c : Nat) (F : Int) : List Ob := [.map [] [] 0, .box [(.map (some 0)), (.int .i64 0)], .map [(.str [118, 49], .int .i64 0)] [0] 1, .box [(.map (some 2)), (.int .i64 1)], .box [(.sl .clip []), (.int .i64 1), (.int .i64 (-1)), (.ptr 5 0)], .box [(.int .i64 9), (.int .i64 0), (.str []), (.int .i64 (-1)), (.ptr 17 0), .nilp, (.sl (.fam 6) [(.int .i64 0)]), (.sl (.fam 16) [(.ptr 9 0)]), .nilp, (.sl .clip [])], .fam 1 1, .map [(.str [118, 49], .int .i64 0)] [0] 1, .box [(.map (some 7)), (.int .i64 1)], .box [(.sl (.fam 10) [(.int .i64 0)]), (.int .i64 1), (.int .i64 (-1)), (.ptr 11 0)], .fam 1 1, .box [(.int .i64 5), (.int .i64 0), (.str []), (.int .i64 (-1)), (.ptr 12 0), (.ptr 15 0), (.sl .clip []), (.sl .clip []), .nilp, (.sl .clip [])], .box [(.int .i64 5), (.int .i64 0), (.str []), (.int .i64 (-1)), (.ptr 13 0), (.ptr 14 0), (.sl .clip []), (.sl .clip []), .nilp, (.sl .clip [])], .box [(.int .i64 2), (.int .i64 0), (.str [67, 111, 110, 115]), (.int .i64 (-1)), .nilp, .nilp, (.sl .clip []), (.sl .clip []), .nilp, (.sl .clip [])], .box [(.int .i64 3), (.int .i64 1), (.str []), (.int .i64 (-1)), .nilp, .nilp, (.sl .clip []), (.sl .clip []), .nilp, (.sl .clip [])], .box [(.int .i64 1), (.int .i64 0), (.str [118, 49]), (.int .i64 0), .nilp, .nilp, (.sl .clip []), (.sl .clip []), .nilp, (.sl .clip [])], .fam 1 1, .box [(.int .i64 1), (.int .i64 0), (.str [118, 49]), (.int .i64 0), .nilp, .nilp, (.sl .clip []), (.sl .clip []), .nilp, (.sl .clip [])], .box [.nilp, (.bool true), (.ptr 4 0), (.sl .clip [])], .box [(.int .i64 ((c + 2 : Nat) : Int)), (.int .i64 1), (.int .i64 3), .nili, (.ptr 18 0), (.sl .clip []), (.vec 21 1 0 2 7), (.ptr 11 0), (.msl 24 0 1 1 1), .nilp, (.bool true)], .box [(.ptr 19 0), (.int .i64 F), (.int .i64 100000), (.sl .clip [])], .vec 1 7 [(.int .i64 1), (.ptr 18 0), .nilp, (.sl .clip []), (.str []), (.sl .clip []), (.sl .clip []), (.int .i64 1), (.ptr 23 0), .nilp, (.sl .clip []), (.str []), (.sl .clip []), (.sl .clip [])], .box [(.ptr 23 0)], .box [.nilp, (.bool true), (.ptr 9 0), (.sl .frozen [(.ptr 23 0)])], .box [(.ptr 23 0)]]

def hE4 (c : Nat) (F : Int) : List Ob := [.map [] [] 0, .box [(.map (some 0)), (.int .i64 0)], .map [(.str [118, 49], .int .i64 0)] [0] 1, .box [(.map (some 2)), (.int .i64 1)], .box [(.sl .clip []), (.int .i64 1), (.int .i64 (-1)), (.ptr 5 0)], .box [(.int .i64 9), (.int .i64 0), (.str []), (.int .i64 (-1)), (.ptr 17 0), .nilp, (.sl (.fam 6) [(.int .i64 0)]), (.sl (.fam 16) [(.ptr 9 0)]), .nilp, (.sl .clip [])], .fam 1 1, .map [(.str [118, 49], .int .i64 0)] [0] 1, .box [(.map (some 7)), (.int .i64 1)], .box [(.sl (.fam 10) [(.int .i64 0)]), (.int .i64 1), (.int .i64 (-1)), (.ptr 11 0)], .fam 1 1, .box [(.int .i64 5), (.int .i64 0), (.str []), (.int .i64 (-1)), (.ptr 12 0), (.ptr 15 0), (.sl .clip []), (.sl .clip []), .nilp, (.sl .clip [])], .box [(.int .i64 5), (.int .i64 0), (.str []), (.int .i64 (-1)), (.ptr 13 0), (.ptr 14 0), (.sl .clip []), (.sl .clip []), .nilp, (.sl .clip [])], .box [(.int .i64 2), (.int .i64 0), (.str [67, 111, 110, 115]), (.int .i64 (-1)), .nilp, .nilp, (.sl .clip []), (.sl .clip []), .nilp, (.sl .clip [])], .box [(.int .i64 3), (.int .i64 1), (.str []), (.int .i64 (-1)), .nilp, .nilp, (.sl .clip []), (.sl .clip []), .nilp, (.sl .clip [])], .box [(.int .i64 1), (.int .i64 0), (.str [118, 49]), (.int .i64 0), .nilp, .nilp, (.sl .clip []), (.sl .clip []), .nilp, (.sl .clip [])], .fam 1 1, .box [(.int .i64 1), (.int .i64 0), (.str [118, 49]), (.int .i64 0), .nilp, .nilp, (.sl .clip []), (.sl .clip []), .nilp, (.sl .clip [])], .box [.nilp, (.bool true), (.ptr 4 0), (.sl .clip [])], .box [(.int .i64 ((c + 2 : Nat) : Int)), (.int .i64 1), (.int .i64 4), .nili, (.ptr 18 0), (.sl .clip []), (.vec 21 2 0 3 7), (.ptr 12 0), (.msl 24 0 1 1 1), .nilp, (.bool true)], .box [(.ptr 19 0), (.int .i64 F), (.int .i64 100000), (.sl .clip [])], .vec 2 7 [(.int .i64 1), (.ptr 18 0), .nilp, (.sl .clip []), (.str []), (.sl .clip []), (.sl .clip []), (.int .i64 1), (.ptr 23 0), .nilp, (.sl .clip []), (.str []), (.sl .clip []), (.sl .clip []), (.int .i64 2), (.ptr 23 0), .nilp, (.sl .clip []), (.str []), (.sl .clip []), (.sl .clip [])], .box [(.ptr 23 0)], .box [.nilp, (.bool true), (.ptr 9 0), (.sl .frozen [(.ptr 23 0)])], .box [(.ptr 23 0)]]

def hE5 (c : Nat) (F : Int) : List Ob := [.map [] [] 0, .box [(.map (some 0)), (.int .i64 0)], .map [(.str [118, 49], .int .i64 0)] [0] 1, .box [(.map (some 2)), (.int .i64 1)], .box [(.sl .clip []), (.int .i64 1), (.int .i64 (-1)), (.ptr 5 0)], .box [(.int .i64 9), (.int .i64 0), (.str []), (.int .i64 (-1)), (.ptr 17 0), .nilp, (.sl (.fam 6) [(.int .i64 0)]), (.sl (.fam 16) [(.ptr 9 0)]), .nilp, (.sl .clip [])], .fam 1 1, .map [(.str [118, 49], .int .i64 0)] [0] 1, .box [(.map (some 7)), (.int .i64 1)], .box [(.sl (.fam 10) [(.int .i64 0)]), (.int .i64 1), (.int .i64 (-1)), (.ptr 11 0)], .fam 1 1, .box [(.int .i64 5), (.int .i64 0), (.str []), (.int .i64 (-1)), (.ptr 12 0), (.ptr 15 0), (.sl .clip []), (.sl .clip []), .nilp, (.sl .clip [])], .box [(.int .i64 5), (.int .i64 0), (.str []), (.int .i64 (-1)), (.ptr 13 0), (.ptr 14 0), (.sl .clip []), (.sl .clip []), .nilp, (.sl .clip [])], .box [(.int .i64 2), (.int .i64 0), (.str [67, 111, 110, 115]), (.int .i64 (-1)), .nilp, .nilp, (.sl .clip []), (.sl .clip []), .nilp, (.sl .clip [])], .box [(.int .i64 3), (.int .i64 1), (.str []), (.int .i64 (-1)), .nilp, .nilp, (.sl .clip []), (.sl .clip []), .nilp, (.sl .clip [])], .box [(.int .i64 1), (.int .i64 0), (.str [118, 49]), (.int .i64 0), .nilp, .nilp, (.sl .clip []), (.sl .clip []), .nilp, (.sl .clip [])], .fam 1 1, .box [(.int .i64 1), (.int .i64 0), (.str [118, 49]), (.int .i64 0), .nilp, .nilp, (.sl .clip []), (.sl .clip []), .nilp, (.sl .clip [])], .box [.nilp, (.bool true), (.ptr 4 0), (.sl .clip [])], .box [(.int .i64 ((c + 2 : Nat) : Int)), (.int .i64 2), (.int .i64 5), .nili, (.ptr 18 0), (.sl .clip []), (.vec 21 3 0 4 7), (.ptr 13 0), (.msl 24 0 1 1 1), .nilp, (.bool true)], .box [(.ptr 19 0), (.int .i64 F), (.int .i64 100000), (.sl .clip [])], .vec 3 7 [(.int .i64 1), (.ptr 18 0), .nilp, (.sl .clip []), (.str []), (.sl .clip []), (.sl .clip []), (.int .i64 1), (.ptr 23 0), .nilp, (.sl .clip []), (.str []), (.sl .clip []), (.sl .clip []), (.int .i64 2), (.ptr 23 0), .nilp, (.sl .clip []), (.str []), (.sl .clip []), (.sl .clip []), (.int .i64 2), (.ptr 25 0), .nilp, (.sl .clip []), (.str []), (.sl .clip []), (.sl .clip [])], .box [(.ptr 23 0)], .box [.nilp, (.bool true), (.ptr 9 0), (.sl .frozen [(.ptr 23 0)])], .box [(.ptr 23 0)], .box [(.ptr 26 0), (.bool false), .nilp, (.sl .clip [])], .box [(.int .i64 3), (.int .i64 1), (.str []), (.sl .clip []), .nilp, (.sl .clip [])]]

def hE6 (c : Nat) (F : Int) : List Ob := [.map [] [] 0, .box [(.map (some 0)), (.int .i64 0)], .map [(.str [118, 49], .int .i64 0)] [0] 1, .box [(.map (some 2)), (.int .i64 1)], .box [(.sl .clip []), (.int .i64 1), (.int .i64 (-1)), (.ptr 5 0)], .box [(.int .i64 9), (.int .i64 0), (.str []), (.int .i64 (-1)), (.ptr 17 0), .nilp, (.sl (.fam 6) [(.int .i64 0)]), (.sl (.fam 16) [(.ptr 9 0)]), .nilp, (.sl .clip [])], .fam 1 1, .map [(.str [118, 49], .int .i64 0)] [0] 1, .box [(.map (some 7)), (.int .i64 1)], .box [(.sl (.fam 10) [(.int .i64 0)]), (.int .i64 1), (.int .i64 (-1)), (.ptr 11 0)], .fam 1 1, .box [(.int .i64 5), (.int .i64 0), (.str []), (.int .i64 (-1)), (.ptr 12 0), (.ptr 15 0), (.sl .clip []), (.sl .clip []), .nilp, (.sl .clip [])], .box [(.int .i64 5), (.int .i64 0), (.str []), (.int .i64 (-1)), (.ptr 13 0), (.ptr 14 0), (.sl .clip []), (.sl .clip []), .nilp, (.sl .clip [])], .box [(.int .i64 2), (.int .i64 0), (.str [67, 111, 110, 115]), (.int .i64 (-1)), .nilp, .nilp, (.sl .clip []), (.sl .clip []), .nilp, (.sl .clip [])], .box [(.int .i64 3), (.int .i64 1), (.str []), (.int .i64 (-1)), .nilp, .nilp, (.sl .clip []), (.sl .clip []), .nilp, (.sl .clip [])], .box [(.int .i64 1), (.int .i64 0), (.str [118, 49]), (.int .i64 0), .nilp, .nilp, (.sl .clip []), (.sl .clip []), .nilp, (.sl .clip [])], .fam 1 1, .box [(.int .i64 1), (.int .i64 0), (.str [118, 49]), (.int .i64 0), .nilp, .nilp, (.sl .clip []), (.sl .clip []), .nilp, (.sl .clip [])], .box [.nilp, (.bool true), (.ptr 4 0), (.sl .clip [])], .box [(.int .i64 ((c + 2 : Nat) : Int)), (.int .i64 2), (.int .i64 6), .nili, (.ptr 18 0), (.sl .clip []), (.vec 21 3 0 4 7), .nilp, (.sl .clip []), (.ptr 27 0), (.bool true)], .box [(.ptr 19 0), (.int .i64 F), (.int .i64 100000), (.sl .clip [])], .vec 3 7 [(.int .i64 1), (.ptr 18 0), .nilp, (.sl .clip []), (.str []), (.sl .clip []), (.sl .clip []), (.int .i64 1), (.ptr 23 0), .nilp, (.sl .clip []), (.str []), (.sl .clip []), (.sl .clip []), (.int .i64 2), (.ptr 23 0), .nilp, (.sl .clip []), (.str []), (.sl .clip []), (.sl .clip []), (.int .i64 2), (.ptr 25 0), .nilp, (.sl .clip []), (.str []), (.sl .clip []), (.sl .clip [])], .box [(.ptr 23 0)], .box [.nilp, (.bool true), (.ptr 9 0), (.sl .frozen [(.ptr 23 0)])], .box [(.ptr 23 0)], .box [(.ptr 26 0), (.bool false), .nilp, (.sl .clip [])], .box [(.int .i64 3), (.int .i64 1), (.str []), (.sl .clip []), .nilp, (.sl .clip [])], .box [(.int .i64 2), (.int .i64 0), (.str [67, 111, 110, 115]), (.sl .clip []), .nilp, (.sl .clip [])]]

def hE7 (c : Nat) (F : Int) : List Ob := [.map [] [] 0, .box [(.map (some 0)), (.int .i64 0)], .map [(.str [118, 49], .int .i64 0)] [0] 1, .box [(.map (some 2)), (.int .i64 1)], .box [(.sl .clip []), (.int .i64 1), (.int .i64 (-1)), (.ptr 5 0)], .box [(.int .i64 9), (.int .i64 0), (.str []), (.int .i64 (-1)), (.ptr 17 0), .nilp, (.sl (.fam 6) [(.int .i64 0)]), (.sl (.fam 16) [(.ptr 9 0)]), .nilp, (.sl .clip [])], .fam 1 1, .map [(.str [118, 49], .int .i64 0)] [0] 1, .box [(.map (some 7)), (.int .i64 1)], .box [(.sl (.fam 10) [(.int .i64 0)]), (.int .i64 1), (.int .i64 (-1)), (.ptr 11 0)], .fam 1 1, .box [(.int .i64 5), (.int .i64 0), (.str []), (.int .i64 (-1)), (.ptr 12 0), (.ptr 15 0), (.sl .clip []), (.sl .clip []), .nilp, (.sl .clip [])], .box [(.int .i64 5), (.int .i64 0), (.str []), (.int .i64 (-1)), (.ptr 13 0), (.ptr 14 0), (.sl .clip []), (.sl .clip []), .nilp, (.sl .clip [])], .box [(.int .i64 2), (.int .i64 0), (.str [67, 111, 110, 115]), (.int .i64 (-1)), .nilp, .nilp, (.sl .clip []), (.sl .clip []), .nilp, (.sl .clip [])], .box [(.int .i64 3), (.int .i64 1), (.str []), (.int .i64 (-1)), .nilp, .nilp, (.sl .clip []), (.sl .clip []), .nilp, (.sl .clip [])], .box [(.int .i64 1), (.int .i64 0), (.str [118, 49]), (.int .i64 0), .nilp, .nilp, (.sl .clip []), (.sl .clip []), .nilp, (.sl .clip [])], .fam 1 1, .box [(.int .i64 1), (.int .i64 0), (.str [118, 49]), (.int .i64 0), .nilp, .nilp, (.sl .clip []), (.sl .clip []), .nilp, (.sl .clip [])], .box [.nilp, (.bool true), (.ptr 4 0), (.sl .clip [])], .box [(.int .i64 ((c + 2 : Nat) : Int)), (.int .i64 2), (.int .i64 7), .nili, (.ptr 18 0), (.sl .clip []), (.vec 21 3 0 3 7), .nilp, (.sl .clip []), (.ptr 29 0), (.bool true)], .box [(.ptr 19 0), (.int .i64 F), (.int .i64 100000), (.sl .clip [])], .vec 3 7 [(.int .i64 1), (.ptr 18 0), .nilp, (.sl .clip []), (.str []), (.sl .clip []), (.sl .clip []), (.int .i64 1), (.ptr 23 0), .nilp, (.sl .clip []), (.str []), (.sl .clip []), (.sl .clip []), (.int .i64 2), (.ptr 23 0), .nilp, (.sl .clip []), (.str []), (.sl .clip []), (.sl .clip []), (.int .i64 2), (.ptr 25 0), .nilp, (.sl .clip []), (.str []), (.sl .clip []), (.sl .clip [])], .box [(.ptr 23 0)], .box [.nilp, (.bool true), (.ptr 9 0), (.sl .frozen [(.ptr 23 0)])], .box [(.ptr 23 0)], .box [(.ptr 26 0), (.bool false), .nilp, (.sl .clip [])], .box [(.int .i64 3), (.int .i64 1), (.str []), (.sl .clip []), .nilp, (.sl .clip [])], .box [(.int .i64 2), (.int .i64 0), (.str [67, 111, 110, 115]), (.sl .clip []), .nilp, (.sl .clip [])], .fam 1 1, .box [(.int .i64 2), (.int .i64 0), (.str [67, 111, 110, 115]), (.sl (.fam 28) [(.ptr 25 0)]), .nilp, (.sl .clip [])]]

def hE8 (c : Nat) (F : Int) : List Ob := [.map [] [] 0, .box [(.map (some 0)), (.int .i64 0)], .map [(.str [118, 49], .int .i64 0)] [0] 1, .box [(.map (some 2)), (.int .i64 1)], .box [(.sl .clip []), (.int .i64 1), (.int .i64 (-1)), (.ptr 5 0)], .box [(.int .i64 9), (.int .i64 0), (.str []), (.int .i64 (-1)), (.ptr 17 0), .nilp, (.sl (.fam 6) [(.int .i64 0)]), (.sl (.fam 16) [(.ptr 9 0)]), .nilp, (.sl .clip [])], .fam 1 1, .map [(.str [118, 49], .int .i64 0)] [0] 1, .box [(.map (some 7)), (.int .i64 1)], .box [(.sl (.fam 10) [(.int .i64 0)]), (.int .i64 1), (.int .i64 (-1)), (.ptr 11 0)], .fam 1 1, .box [(.int .i64 5), (.int .i64 0), (.str []), (.int .i64 (-1)), (.ptr 12 0), (.ptr 15 0), (.sl .clip []), (.sl .clip []), .nilp, (.sl .clip [])], .box [(.int .i64 5), (.int .i64 0), (.str []), (.int .i64 (-1)), (.ptr 13 0), (.ptr 14 0), (.sl .clip []), (.sl .clip []), .nilp, (.sl .clip [])], .box [(.int .i64 2), (.int .i64 0), (.str [67, 111, 110, 115]), (.int .i64 (-1)), .nilp, .nilp, (.sl .clip []), (.sl .clip []), .nilp, (.sl .clip [])], .box [(.int .i64 3), (.int .i64 1), (.str []), (.int .i64 (-1)), .nilp, .nilp, (.sl .clip []), (.sl .clip []), .nilp, (.sl .clip [])], .box [(.int .i64 1), (.int .i64 0), (.str [118, 49]), (.int .i64 0), .nilp, .nilp, (.sl .clip []), (.sl .clip []), .nilp, (.sl .clip [])], .fam 1 1, .box [(.int .i64 1), (.int .i64 0), (.str [118, 49]), (.int .i64 0), .nilp, .nilp, (.sl .clip []), (.sl .clip []), .nilp, (.sl .clip [])], .box [.nilp, (.bool true), (.ptr 4 0), (.sl .clip [])], .box [(.int .i64 ((c + 2 : Nat) : Int)), (.int .i64 2), (.int .i64 8), .nili, (.ptr 18 0), (.sl .clip []), (.vec 21 3 0 2 7), .nilp, (.sl .clip []), (.ptr 31 0), (.bool true)], .box [(.ptr 19 0), (.int .i64 F), (.int .i64 100000), (.sl .clip [])], .vec 3 7 [(.int .i64 1), (.ptr 18 0), .nilp, (.sl .clip []), (.str []), (.sl .clip []), (.sl .clip []), (.int .i64 1), (.ptr 23 0), .nilp, (.sl .clip []), (.str []), (.sl .clip []), (.sl .clip []), (.int .i64 2), (.ptr 23 0), .nilp, (.sl .clip []), (.str []), (.sl .clip []), (.sl .clip []), (.int .i64 2), (.ptr 25 0), .nilp, (.sl .clip []), (.str []), (.sl .clip []), (.sl .clip [])], .box [(.ptr 23 0)], .box [.nilp, (.bool true), (.ptr 9 0), (.sl .frozen [(.ptr 23 0)])], .box [(.ptr 23 0)], .box [(.ptr 26 0), (.bool false), .nilp, (.sl .clip [])], .box [(.int .i64 3), (.int .i64 1), (.str []), (.sl .clip []), .nilp, (.sl .clip [])], .box [(.int .i64 2), (.int .i64 0), (.str [67, 111, 110, 115]), (.sl .clip []), .nilp, (.sl .clip [])], .fam 1 1, .box [(.int .i64 2), (.int .i64 0), (.str [67, 111, 110, 115]), (.sl (.fam 28) [(.ptr 25 0)]), .nilp, (.sl .clip [])], .fam 2 1, .box [(.int .i64 2), (.int .i64 0), (.str [67, 111, 110, 115]), (.sl (.fam 30) [(.ptr 25 0), (.ptr 23 0)]), .nilp, (.sl .clip [])]]

def hE9 (c : Nat) (F : Int) : List Ob := [.map [] [] 0, .box [(.map (some 0)), (.int .i64 0)], .map [(.str [118, 49], .int .i64 0)] [0] 1, .box [(.map (some 2)), (.int .i64 1)], .box [(.sl .clip []), (.int .i64 1), (.int .i64 (-1)), (.ptr 5 0)], .box [(.int .i64 9), (.int .i64 0), (.str []), (.int .i64 (-1)), (.ptr 17 0), .nilp, (.sl (.fam 6) [(.int .i64 0)]), (.sl (.fam 16) [(.ptr 9 0)]), .nilp, (.sl .clip [])], .fam 1 1, .map [(.str [118, 49], .int .i64 0)] [0] 1, .box [(.map (some 7)), (.int .i64 1)], .box [(.sl (.fam 10) [(.int .i64 0)]), (.int .i64 1), (.int .i64 (-1)), (.ptr 11 0)], .fam 1 1, .box [(.int .i64 5), (.int .i64 0), (.str []), (.int .i64 (-1)), (.ptr 12 0), (.ptr 15 0), (.sl .clip []), (.sl .clip []), .nilp, (.sl .clip [])], .box [(.int .i64 5), (.int .i64 0), (.str []), (.int .i64 (-1)), (.ptr 13 0), (.ptr 14 0), (.sl .clip []), (.sl .clip []), .nilp, (.sl .clip [])], .box [(.int .i64 2), (.int .i64 0), (.str [67, 111, 110, 115]), (.int .i64 (-1)), .nilp, .nilp, (.sl .clip []), (.sl .clip []), .nilp, (.sl .clip [])], .box [(.int .i64 3), (.int .i64 1), (.str []), (.int .i64 (-1)), .nilp, .nilp, (.sl .clip []), (.sl .clip []), .nilp, (.sl .clip [])], .box [(.int .i64 1), (.int .i64 0), (.str [118, 49]), (.int .i64 0), .nilp, .nilp, (.sl .clip []), (.sl .clip []), .nilp, (.sl .clip [])], .fam 1 1, .box [(.int .i64 1), (.int .i64 0), (.str [118, 49]), (.int .i64 0), .nilp, .nilp, (.sl .clip []), (.sl .clip []), .nilp, (.sl .clip [])], .box [.nilp, (.bool true), (.ptr 4 0), (.sl .clip [])], .box [(.int .i64 ((c + 2 : Nat) : Int)), (.int .i64 2), (.int .i64 9), .nili, (.ptr 18 0), (.sl .clip []), (.vec 21 3 0 1 7), .nilp, (.sl .clip []), (.ptr 31 0), (.bool true)], .box [(.ptr 19 0), (.int .i64 F), (.int .i64 100000), (.sl .clip [])], .vec 3 7 [(.int .i64 1), (.ptr 18 0), .nilp, (.sl .clip []), (.str []), (.sl .clip []), (.sl .clip []), (.int .i64 1), (.ptr 23 0), .nilp, (.sl .clip []), (.str []), (.sl .clip []), (.sl .clip []), (.int .i64 2), (.ptr 23 0), .nilp, (.sl .clip []), (.str []), (.sl .clip []), (.sl .clip []), (.int .i64 2), (.ptr 25 0), .nilp, (.sl .clip []), (.str []), (.sl .clip []), (.sl .clip [])], .box [(.ptr 23 0)], .box [(.ptr 31 0), (.bool false), .nilp, (.sl .clip [])], .box [(.ptr 23 0)], .box [(.ptr 26 0), (.bool false), .nilp, (.sl .clip [])], .box [(.int .i64 3), (.int .i64 1), (.str []), (.sl .clip []), .nilp, (.sl .clip [])], .box [(.int .i64 2), (.int .i64 0), (.str [67, 111, 110, 115]), (.sl .clip []), .nilp, (.sl .clip [])], .fam 1 1, .box [(.int .i64 2), (.int .i64 0), (.str [67, 111, 110, 115]), (.sl (.fam 28) [(.ptr 25 0)]), .nilp, (.sl .clip [])], .fam 2 1, .box [(.int .i64 2), (.int .i64 0), (.str [67, 111, 110, 115]), (.sl (.fam 30) [(.ptr 25 0), (.ptr 23 0)]), .nilp, (.sl .clip [])]]

def hE10 (c : Nat) (F : Int) : List Ob := [.map [] [] 0, .box [(.map (some 0)), (.int .i64 0)], .map [(.str [118, 49], .int .i64 0)] [0] 1, .box [(.map (some 2)), (.int .i64 1)], .box [(.sl .clip []), (.int .i64 1), (.int .i64 (-1)), (.ptr 5 0)], .box [(.int .i64 9), (.int .i64 0), (.str []), (.int .i64 (-1)), (.ptr 17 0), .nilp, (.sl (.fam 6) [(.int .i64 0)]), (.sl (.fam 16) [(.ptr 9 0)]), .nilp, (.sl .clip [])], .fam 1 1, .map [(.str [118, 49], .int .i64 0)] [0] 1, .box [(.map (some 7)), (.int .i64 1)], .box [(.sl (.fam 10) [(.int .i64 0)]), (.int .i64 1), (.int .i64 (-1)), (.ptr 11 0)], .fam 1 1, .box [(.int .i64 5), (.int .i64 0), (.str []), (.int .i64 (-1)), (.ptr 12 0), (.ptr 15 0), (.sl .clip []), (.sl .clip []), .nilp, (.sl .clip [])], .box [(.int .i64 5), (.int .i64 0), (.str []), (.int .i64 (-1)), (.ptr 13 0), (.ptr 14 0), (.sl .clip []), (.sl .clip []), .nilp, (.sl .clip [])], .box [(.int .i64 2), (.int .i64 0), (.str [67, 111, 110, 115]), (.int .i64 (-1)), .nilp, .nilp, (.sl .clip []), (.sl .clip []), .nilp, (.sl .clip [])], .box [(.int .i64 3), (.int .i64 1), (.str []), (.int .i64 (-1)), .nilp, .nilp, (.sl .clip []), (.sl .clip []), .nilp, (.sl .clip [])], .box [(.int .i64 1), (.int .i64 0), (.str [118, 49]), (.int .i64 0), .nilp, .nilp, (.sl .clip []), (.sl .clip []), .nilp, (.sl .clip [])], .fam 1 1, .box [(.int .i64 1), (.int .i64 0), (.str [118, 49]), (.int .i64 0), .nilp, .nilp, (.sl .clip []), (.sl .clip []), .nilp, (.sl .clip [])], .box [(.ptr 31 0), (.bool false), .nilp, (.sl .clip [])], .box [(.int .i64 ((c + 2 : Nat) : Int)), (.int .i64 2), (.int .i64 10), .nili, (.ptr 18 0), (.sl .clip []), (.vec 21 3 0 0 7), .nilp, (.sl .clip []), (.ptr 31 0), (.bool false)], .box [(.ptr 19 0), (.int .i64 F), (.int .i64 100000), (.sl .clip [])], .vec 3 7 [(.int .i64 1), (.ptr 18 0), .nilp, (.sl .clip []), (.str []), (.sl .clip []), (.sl .clip []), (.int .i64 1), (.ptr 23 0), .nilp, (.sl .clip []), (.str []), (.sl .clip []), (.sl .clip []), (.int .i64 2), (.ptr 23 0), .nilp, (.sl .clip []), (.str []), (.sl .clip []), (.sl .clip []), (.int .i64 2), (.ptr 25 0), .nilp, (.sl .clip []), (.str []), (.sl .clip []), (.sl .clip [])], .box [(.ptr 23 0)], .box [(.ptr 31 0), (.bool false), .nilp, (.sl .clip [])], .box [(.ptr 23 0)], .box [(.ptr 26 0), (.bool false), .nilp, (.sl .clip [])], .box [(.int .i64 3), (.int .i64 1), (.str []), (.sl .clip []), .nilp, (.sl .clip [])], .box [(.int .i64 2), (.int .i64 0), (.str [67, 111, 110, 115]), (.sl .clip []), .nilp, (.sl .clip [])], .fam 1 1, .box [(.int .i64 2), (.int .i64 0), (.str [67, 111, 110, 115]), (.sl (.fam 28) [(.ptr 25 0)]), .nilp, (.sl .clip [])], .fam 2 1, .box [(.int .i64 2), (.int .i64 0), (.str [67, 111, 110, 115]), (.sl (.fam 30) [(.ptr 25 0), (.ptr 23 0)]), .nilp, (.sl .clip [])]]

def bodyE : AC := match ac47.body with | .seq _ (.seq (.block _ (.loop _ _ b)) _) => b | _ => .skip

theorem callE0 (c : Nat) (F : Int) (Q : V → List Ob → Prop) (hq : Q (.tup []) (hE1 c F)) : CallA ap 70 0 [0, 0] [.ptr 19 0, .ptr 18 0] ((hE0 c F).set 19 (.box [(.int .i64 ((c + 2 : Nat) : Int)), (.int .i64 0), (.int .i64 1), .nili, (.ptr 18 0), (.sl .clip []), (.sl .clip []), .nilp, (.sl .clip []), .nilp, (.bool true)])) Q :=
  runsO ov_ok 3000 (v := .tup []) (h' := (hE1 c F)) (by clear hq; as_aux_lemma => kernel_rfl) hq

theorem roundE0 (c : Nat) (F G : Int) (hG : 0 < G) (hG2 : G < 2147483648) {σ : St} (h0 : σ.r 0 = .ptr 19 0) (h1 : σ.r 1 = .int .i64 G) (hh : σ.h = hE0 c F) (Q : AX → St → Prop)
    (hq : ∀ σ' : St, σ'.r 0 = .ptr 19 0 → σ'.r 1 = .int .i64 (G - 1) → σ'.h = hE1 c F → Q .normal σ') : wpA (CallA ap) [0, 0] bodyE Q (forget [0, 1] [] σ) := by
  obtain ⟨r, lo, h'⟩ := σ
  simp only at h0 h1 hh
  subst hh
  have e19 : (hE0 c F)[19]? = some (.box [(.int .i64 ((c + 2 : Nat) : Int)), (.int .i64 0), (.int .i64 0), .nili, (.ptr 18 0), (.sl .clip []), (.sl .clip []), .nilp, (.sl .clip []), .nilp, (.bool false)]) := rfl
  have e18 : (hE0 c F)[18]? = some (.box [.nilp, (.bool false), (.ptr 4 0), (.sl .clip [])]) := rfl
  have len : ∀ x, ((hE0 c F).set 19 x)[19]? = some x := fun _ => rfl
  have f19 : (hE1 c F)[19]? = some (.box [(.int .i64 ((c + 2 : Nat) : Int)), (.int .i64 0), (.int .i64 1), .nili, (.ptr 18 0), (.sl .clip []), (.vec 21 0 0 1 7), (.ptr 5 0), (.msl 22 0 1 1 1), .nilp, (.bool true)]) := rfl
  have flen : ∀ x, ((hE1 c F).set 19 x)[19]? = some x := fun _ => rfl
  have hw : IntKind.wrap .i64 (G - 1) = G - 1 := wr64 (by omega) (by omega)
  have hs : IntKind.wrap .i64 1 = 1 := wr64 (by omega) (by omega)
  have hd : decide (G ≤ 0) = false := decide_eq_false (by omega)
  simp [bodyE, ac47, forget, noLoc, h0, h1, e19, e18, len, hd, hs, hw, splice, okStore]
  refine callE0 c F _ ?_
  simp [f19, h0]
  refine hq _ ?_ ?_ ?_ <;> first | rfl | simp [h0]

theorem takeE (c : Nat) (F : Int) (m2 : List V) (Q : V → List Ob → Prop) (hm : m2 = [(.int .i64 ((c + 2 : Nat) : Int)), (.int .i64 0), (.int .i64 2), .nili, (.ptr 18 0), (.sl .clip []), (.vec 21 0 0 1 7), (.ptr 5 0), (.msl 22 0 1 1 1), .nilp, (.bool true)]) (hq : Q (.ptr 23 0) (((hE1 c F).set 19 (.box [(.int .i64 ((c + 2 : Nat) : Int)), (.int .i64 1), (.int .i64 2), .nili, (.ptr 18 0), (.sl .clip []), (.vec 21 0 0 1 7), (.ptr 5 0), (.msl 22 0 1 1 1), .nilp, (.bool true)])) ++ [.box [.nilp, .bool false, .nilp, .sl .clip []]])) :
    CallA ap 89 0 [0, 0] [.ptr 19 0] ((hE1 c F).set 19 (.box m2)) Q := by
  subst hm
  exact runsO ov_ok 3000 (v := .ptr 23 0) (h' := _) (by clear hq; as_aux_lemma => kernel_rfl) hq
theorem letsE (c : Nat) (F : Int) (Q : V → List Ob → Prop) (hq : Q (.tup []) (hE2 c F)) : CallA ap 84 0 [0, 0] [.ptr 19 0, .ptr 5 0] ((hE1 c F).set 19 (.box [(.int .i64 ((c + 2 : Nat) : Int)), (.int .i64 0), (.int .i64 2), .nili, (.ptr 18 0), (.sl .clip []), (.vec 21 0 0 1 7), (.ptr 5 0), (.msl 22 0 1 1 1), .nilp, (.bool true)])) Q := by
  refine CallA.code (af := ac84) rfl (Nat.le_of_ble_eq_true rfl) ?_
  have e5 : ∀ x, ((hE1 c F).set 19 x)[5]? = some (.box [(.int .i64 9), (.int .i64 0), (.str []), (.int .i64 (-1)), (.ptr 17 0), .nilp, (.sl (.fam 6) [(.int .i64 0)]), (.sl (.fam 16) [(.ptr 9 0)]), .nilp, (.sl .clip [])]) := fun _ => rfl
  simp [ac84, e5]
  refine wpA_loop (CallA.hle ap) ?_
  simp [forget, noLoc]
  refine takeE c F _ _ rfl ?_
  obtain ⟨H3, hH3⟩ : ∃ H, H = ((hE1 c F).set 19 (.box [(.int .i64 ((c + 2 : Nat) : Int)), (.int .i64 1), (.int .i64 2), .nili, (.ptr 18 0), (.sl .clip []), (.vec 21 0 0 1 7), (.ptr 5 0), (.msl 22 0 1 1 1), .nilp, (.bool true)])) ++ [.box [.nilp, .bool false, .nilp, .sl .clip []]] := ⟨_, rfl⟩
  rw [← hH3]
  have a19 : H3[19]? = some (.box [(.int .i64 ((c + 2 : Nat) : Int)), (.int .i64 1), (.int .i64 2), .nili, (.ptr 18 0), (.sl .clip []), (.vec 21 0 0 1 7), (.ptr 5 0), (.msl 22 0 1 1 1), .nilp, (.bool true)]) := by rw [hH3]; rfl
  have a22 : H3[22]? = some (.box [.nilp]) := by rw [hH3]; rfl
  simp [a19, a22, splice, okStore]
  refine wpA_loop (CallA.hle ap) ?_
  simp [forget, noLoc]
  obtain ⟨H4, hH4⟩ : ∃ H, H = H3.set 22 (.box [.ptr 23 0]) := ⟨_, rfl⟩
  rw [← hH4]
  have b5 : H4[5]? = some (.box [(.int .i64 9), (.int .i64 0), (.str []), (.int .i64 (-1)), (.ptr 17 0), .nilp, (.sl (.fam 6) [(.int .i64 0)]), (.sl (.fam 16) [(.ptr 9 0)]), .nilp, (.sl .clip [])]) := by rw [hH4, hH3]; rfl
  have b9 : H4[9]? = some (.box [(.sl (.fam 10) [(.int .i64 0)]), (.int .i64 1), (.int .i64 (-1)), (.ptr 11 0)]) := by rw [hH4, hH3]; rfl
  have b19 : H4[19]? = some (.box [(.int .i64 ((c + 2 : Nat) : Int)), (.int .i64 1), (.int .i64 2), .nili, (.ptr 18 0), (.sl .clip []), (.vec 21 0 0 1 7), (.ptr 5 0), (.msl 22 0 1 1 1), .nilp, (.bool true)]) := by rw [hH4, hH3]; rfl
  have b22 : H4[22]? = some (.box [.ptr 23 0]) := by rw [hH4, hH3]; rfl
  have b23 : H4[23]? = some (.box [.nilp, .bool false, .nilp, .sl .clip []]) := by rw [hH4, hH3]; rfl
  have pk : ∀ Q : V → List Ob → Prop, Q (.sl .frozen [.ptr 23 0]) H4 → CallA ap 83 0 [0, 0] [.ptr 9 0, .msl 22 0 1 1 1] H4 Q := fun Q hq => by
    rw [hH4, hH3] at hq ⊢
    exact runsO ov_ok 3000 (v := .sl .frozen [.ptr 23 0]) (h' := _) (by clear hq; as_aux_lemma => kernel_rfl) hq
  have w1 : IntKind.wrap .i64 1 = 1 := wr64 (by omega) (by omega)
  simp [w1, b5]
  refine wpA_loop (CallA.hle ap) ?_
  simp [forget, noLoc, b5, b19, b22, addrOk, sameL, objOf]
  refine pk _ ?_
  simp [kept1, b5, b19, b23, splice, okStore]
  have c23 : ∀ x, (H4.set 23 x)[23]? = some x := fun x => by rw [hH4, hH3]; rfl
  have c5 : ∀ x, (H4.set 23 x)[5]? = some (.box [(.int .i64 9), (.int .i64 0), (.str []), (.int .i64 (-1)), (.ptr 17 0), .nilp, (.sl (.fam 6) [(.int .i64 0)]), (.sl (.fam 16) [(.ptr 9 0)]), .nilp, (.sl .clip [])]) := fun x => by rw [hH4, hH3]; rfl
  have c19 : ∀ x, (H4.set 23 x)[19]? = some (.box [(.int .i64 ((c + 2 : Nat) : Int)), (.int .i64 1), (.int .i64 2), .nili, (.ptr 18 0), (.sl .clip []), (.vec 21 0 0 1 7), (.ptr 5 0), (.msl 22 0 1 1 1), .nilp, (.bool true)]) := fun x => by rw [hH4, hH3]; rfl
  simp [c23, splice, okStore]
  refine wpA_loop (CallA.hle ap) ?_
  simp [forget, noLoc, w1, c5, c19, splice, okStore]
  rw [hH4, hH3]
  exact hq
theorem callE1 (c : Nat) (F : Int) (Q : V → List Ob → Prop) (hq : Q (.tup []) (hE2 c F)) : CallA ap 71 0 [0, 0] [.ptr 19 0, .ptr 5 0] ((hE1 c F).set 19 (.box [(.int .i64 ((c + 2 : Nat) : Int)), (.int .i64 0), (.int .i64 2), .nili, (.ptr 18 0), (.sl .clip []), (.vec 21 0 0 1 7), (.ptr 5 0), (.msl 22 0 1 1 1), .nilp, (.bool true)])) Q := by
  refine CallA.code (af := ac71) rfl (Nat.le_of_ble_eq_true rfl) ?_
  have e5 : ∀ x, ((hE1 c F).set 19 x)[5]? = some (.box [(.int .i64 9), (.int .i64 0), (.str []), (.int .i64 (-1)), (.ptr 17 0), .nilp, (.sl (.fam 6) [(.int .i64 0)]), (.sl (.fam 16) [(.ptr 9 0)]), .nilp, (.sl .clip [])]) := fun _ => rfl
  simp [ac71, e5]
  refine letsE c F _ ?_
  simp
  exact hq

theorem roundE1 (c : Nat) (F G : Int) (hG : 0 < G) (hG2 : G < 2147483648) {σ : St} (h0 : σ.r 0 = .ptr 19 0) (h1 : σ.r 1 = .int .i64 G) (hh : σ.h = hE1 c F) (Q : AX → St → Prop)
    (hq : ∀ σ' : St, σ'.r 0 = .ptr 19 0 → σ'.r 1 = .int .i64 (G - 1) → σ'.h = hE2 c F → Q .normal σ') : wpA (CallA ap) [0, 0] bodyE Q (forget [0, 1] [] σ) := by
  obtain ⟨r, lo, h'⟩ := σ
  simp only at h0 h1 hh
  subst hh
  have e19 : (hE1 c F)[19]? = some (.box [(.int .i64 ((c + 2 : Nat) : Int)), (.int .i64 0), (.int .i64 1), .nili, (.ptr 18 0), (.sl .clip []), (.vec 21 0 0 1 7), (.ptr 5 0), (.msl 22 0 1 1 1), .nilp, (.bool true)]) := rfl
  have e18 : (hE1 c F)[18]? = some (.box [.nilp, (.bool true), (.ptr 4 0), (.sl .clip [])]) := rfl
  have len : ∀ x, ((hE1 c F).set 19 x)[19]? = some x := fun _ => rfl
  have f19 : (hE2 c F)[19]? = some (.box [(.int .i64 ((c + 2 : Nat) : Int)), (.int .i64 1), (.int .i64 2), .nili, (.ptr 18 0), (.sl .clip []), (.vec 21 0 0 1 7), (.ptr 17 0), (.msl 22 0 1 1 1), .nilp, (.bool true)]) := rfl
  have flen : ∀ x, ((hE2 c F).set 19 x)[19]? = some x := fun _ => rfl
  have hw : IntKind.wrap .i64 (G - 1) = G - 1 := wr64 (by omega) (by omega)
  have hs : IntKind.wrap .i64 2 = 2 := wr64 (by omega) (by omega)
  have hd : decide (G ≤ 0) = false := decide_eq_false (by omega)
  simp [bodyE, ac47, forget, noLoc, h0, h1, e19, e18, len, hd, hs, hw, splice, okStore]
  refine callE1 c F _ ?_
  simp [f19, h0]
  refine hq _ ?_ ?_ ?_ <;> first | rfl | simp [h0]

theorem callE2 (c : Nat) (F : Int) (Q : V → List Ob → Prop) (hq : Q (.tup []) (hE3 c F)) : CallA ap 71 0 [0, 0] [.ptr 19 0, .ptr 17 0] ((hE2 c F).set 19 (.box [(.int .i64 ((c + 2 : Nat) : Int)), (.int .i64 1), (.int .i64 3), .nili, (.ptr 18 0), (.sl .clip []), (.vec 21 0 0 1 7), (.ptr 17 0), (.msl 22 0 1 1 1), .nilp, (.bool true)])) Q :=
  runsO ov_ok 3000 (v := .tup []) (h' := (hE3 c F)) (by clear hq; as_aux_lemma => kernel_rfl) hq

theorem roundE2 (c : Nat) (F G : Int) (hG : 0 < G) (hG2 : G < 2147483648) {σ : St} (h0 : σ.r 0 = .ptr 19 0) (h1 : σ.r 1 = .int .i64 G) (hh : σ.h = hE2 c F) (Q : AX → St → Prop)
    (hq : ∀ σ' : St, σ'.r 0 = .ptr 19 0 → σ'.r 1 = .int .i64 (G - 1) → σ'.h = hE3 c F → Q .normal σ') : wpA (CallA ap) [0, 0] bodyE Q (forget [0, 1] [] σ) := by
  obtain ⟨r, lo, h'⟩ := σ
  simp only at h0 h1 hh
  subst hh
  have e19 : (hE2 c F)[19]? = some (.box [(.int .i64 ((c + 2 : Nat) : Int)), (.int .i64 1), (.int .i64 2), .nili, (.ptr 18 0), (.sl .clip []), (.vec 21 0 0 1 7), (.ptr 17 0), (.msl 22 0 1 1 1), .nilp, (.bool true)]) := rfl
  have e18 : (hE2 c F)[18]? = some (.box [.nilp, (.bool true), (.ptr 4 0), (.sl .clip [])]) := rfl
  have len : ∀ x, ((hE2 c F).set 19 x)[19]? = some x := fun _ => rfl
  have f19 : (hE3 c F)[19]? = some (.box [(.int .i64 ((c + 2 : Nat) : Int)), (.int .i64 1), (.int .i64 3), .nili, (.ptr 18 0), (.sl .clip []), (.vec 21 1 0 2 7), (.ptr 11 0), (.msl 24 0 1 1 1), .nilp, (.bool true)]) := rfl
  have flen : ∀ x, ((hE3 c F).set 19 x)[19]? = some x := fun _ => rfl
  have hw : IntKind.wrap .i64 (G - 1) = G - 1 := wr64 (by omega) (by omega)
  have hs : IntKind.wrap .i64 3 = 3 := wr64 (by omega) (by omega)
  have hd : decide (G ≤ 0) = false := decide_eq_false (by omega)
  simp [bodyE, ac47, forget, noLoc, h0, h1, e19, e18, len, hd, hs, hw, splice, okStore]
  refine callE2 c F _ ?_
  simp [f19, h0]
  refine hq _ ?_ ?_ ?_ <;> first | rfl | simp [h0]

theorem callE3 (c : Nat) (F : Int) (Q : V → List Ob → Prop) (hq : Q (.tup []) (hE4 c F)) : CallA ap 71 0 [0, 0] [.ptr 19 0, .ptr 11 0] ((hE3 c F).set 19 (.box [(.int .i64 ((c + 2 : Nat) : Int)), (.int .i64 1), (.int .i64 4), .nili, (.ptr 18 0), (.sl .clip []), (.vec 21 1 0 2 7), (.ptr 11 0), (.msl 24 0 1 1 1), .nilp, (.bool true)])) Q :=
  runsO ov_ok 3000 (v := .tup []) (h' := (hE4 c F)) (by clear hq; as_aux_lemma => kernel_rfl) hq

theorem roundE3 (c : Nat) (F G : Int) (hG : 0 < G) (hG2 : G < 2147483648) {σ : St} (h0 : σ.r 0 = .ptr 19 0) (h1 : σ.r 1 = .int .i64 G) (hh : σ.h = hE3 c F) (Q : AX → St → Prop)
    (hq : ∀ σ' : St, σ'.r 0 = .ptr 19 0 → σ'.r 1 = .int .i64 (G - 1) → σ'.h = hE4 c F → Q .normal σ') : wpA (CallA ap) [0, 0] bodyE Q (forget [0, 1] [] σ) := by
  obtain ⟨r, lo, h'⟩ := σ
  simp only at h0 h1 hh
  subst hh
  have e19 : (hE3 c F)[19]? = some (.box [(.int .i64 ((c + 2 : Nat) : Int)), (.int .i64 1), (.int .i64 3), .nili, (.ptr 18 0), (.sl .clip []), (.vec 21 1 0 2 7), (.ptr 11 0), (.msl 24 0 1 1 1), .nilp, (.bool true)]) := rfl
  have e18 : (hE3 c F)[18]? = some (.box [.nilp, (.bool true), (.ptr 4 0), (.sl .clip [])]) := rfl
  have len : ∀ x, ((hE3 c F).set 19 x)[19]? = some x := fun _ => rfl
  have f19 : (hE4 c F)[19]? = some (.box [(.int .i64 ((c + 2 : Nat) : Int)), (.int .i64 1), (.int .i64 4), .nili, (.ptr 18 0), (.sl .clip []), (.vec 21 2 0 3 7), (.ptr 12 0), (.msl 24 0 1 1 1), .nilp, (.bool true)]) := rfl
  have flen : ∀ x, ((hE4 c F).set 19 x)[19]? = some x := fun _ => rfl
  have hw : IntKind.wrap .i64 (G - 1) = G - 1 := wr64 (by omega) (by omega)
  have hs : IntKind.wrap .i64 4 = 4 := wr64 (by omega) (by omega)
  have hd : decide (G ≤ 0) = false := decide_eq_false (by omega)
  simp [bodyE, ac47, forget, noLoc, h0, h1, e19, e18, len, hd, hs, hw, splice, okStore]
  refine callE3 c F _ ?_
  simp [f19, h0]
  refine hq _ ?_ ?_ ?_ <;> first | rfl | simp [h0]

theorem callE4 (c : Nat) (F : Int) (Q : V → List Ob → Prop) (hq : Q (.tup []) (hE5 c F)) : CallA ap 71 0 [0, 0] [.ptr 19 0, .ptr 12 0] ((hE4 c F).set 19 (.box [(.int .i64 ((c + 2 : Nat) : Int)), (.int .i64 1), (.int .i64 5), .nili, (.ptr 18 0), (.sl .clip []), (.vec 21 2 0 3 7), (.ptr 12 0), (.msl 24 0 1 1 1), .nilp, (.bool true)])) Q :=
  runsO ov_ok 3000 (v := .tup []) (h' := (hE5 c F)) (by clear hq; as_aux_lemma => kernel_rfl) hq

theorem roundE4 (c : Nat) (F G : Int) (hG : 0 < G) (hG2 : G < 2147483648) {σ : St} (h0 : σ.r 0 = .ptr 19 0) (h1 : σ.r 1 = .int .i64 G) (hh : σ.h = hE4 c F) (Q : AX → St → Prop)
    (hq : ∀ σ' : St, σ'.r 0 = .ptr 19 0 → σ'.r 1 = .int .i64 (G - 1) → σ'.h = hE5 c F → Q .normal σ') : wpA (CallA ap) [0, 0] bodyE Q (forget [0, 1] [] σ) := by
  obtain ⟨r, lo, h'⟩ := σ
  simp only at h0 h1 hh
  subst hh
  have e19 : (hE4 c F)[19]? = some (.box [(.int .i64 ((c + 2 : Nat) : Int)), (.int .i64 1), (.int .i64 4), .nili, (.ptr 18 0), (.sl .clip []), (.vec 21 2 0 3 7), (.ptr 12 0), (.msl 24 0 1 1 1), .nilp, (.bool true)]) := rfl
  have e18 : (hE4 c F)[18]? = some (.box [.nilp, (.bool true), (.ptr 4 0), (.sl .clip [])]) := rfl
  have len : ∀ x, ((hE4 c F).set 19 x)[19]? = some x := fun _ => rfl
  have f19 : (hE5 c F)[19]? = some (.box [(.int .i64 ((c + 2 : Nat) : Int)), (.int .i64 2), (.int .i64 5), .nili, (.ptr 18 0), (.sl .clip []), (.vec 21 3 0 4 7), (.ptr 13 0), (.msl 24 0 1 1 1), .nilp, (.bool true)]) := rfl
  have flen : ∀ x, ((hE5 c F).set 19 x)[19]? = some x := fun _ => rfl
  have hw : IntKind.wrap .i64 (G - 1) = G - 1 := wr64 (by omega) (by omega)
  have hs : IntKind.wrap .i64 5 = 5 := wr64 (by omega) (by omega)
  have hd : decide (G ≤ 0) = false := decide_eq_false (by omega)
  simp [bodyE, ac47, forget, noLoc, h0, h1, e19, e18, len, hd, hs, hw, splice, okStore]
  refine callE4 c F _ ?_
  simp [f19, h0]
  refine hq _ ?_ ?_ ?_ <;> first | rfl | simp [h0]

theorem callE5 (c : Nat) (F : Int) (Q : V → List Ob → Prop) (hq : Q (.tup []) (hE6 c F)) : CallA ap 71 0 [0, 0] [.ptr 19 0, .ptr 13 0] ((hE5 c F).set 19 (.box [(.int .i64 ((c + 2 : Nat) : Int)), (.int .i64 2), (.int .i64 6), .nili, (.ptr 18 0), (.sl .clip []), (.vec 21 3 0 4 7), (.ptr 13 0), (.msl 24 0 1 1 1), .nilp, (.bool true)])) Q :=
  runsO ov_ok 3000 (v := .tup []) (h' := (hE6 c F)) (by clear hq; as_aux_lemma => kernel_rfl) hq

theorem roundE5 (c : Nat) (F G : Int) (hG : 0 < G) (hG2 : G < 2147483648) {σ : St} (h0 : σ.r 0 = .ptr 19 0) (h1 : σ.r 1 = .int .i64 G) (hh : σ.h = hE5 c F) (Q : AX → St → Prop)
    (hq : ∀ σ' : St, σ'.r 0 = .ptr 19 0 → σ'.r 1 = .int .i64 (G - 1) → σ'.h = hE6 c F → Q .normal σ') : wpA (CallA ap) [0, 0] bodyE Q (forget [0, 1] [] σ) := by
  obtain ⟨r, lo, h'⟩ := σ
  simp only at h0 h1 hh
  subst hh
  have e19 : (hE5 c F)[19]? = some (.box [(.int .i64 ((c + 2 : Nat) : Int)), (.int .i64 2), (.int .i64 5), .nili, (.ptr 18 0), (.sl .clip []), (.vec 21 3 0 4 7), (.ptr 13 0), (.msl 24 0 1 1 1), .nilp, (.bool true)]) := rfl
  have e18 : (hE5 c F)[18]? = some (.box [.nilp, (.bool true), (.ptr 4 0), (.sl .clip [])]) := rfl
  have len : ∀ x, ((hE5 c F).set 19 x)[19]? = some x := fun _ => rfl
  have f19 : (hE6 c F)[19]? = some (.box [(.int .i64 ((c + 2 : Nat) : Int)), (.int .i64 2), (.int .i64 6), .nili, (.ptr 18 0), (.sl .clip []), (.vec 21 3 0 4 7), .nilp, (.sl .clip []), (.ptr 27 0), (.bool true)]) := rfl
  have flen : ∀ x, ((hE6 c F).set 19 x)[19]? = some x := fun _ => rfl
  have hw : IntKind.wrap .i64 (G - 1) = G - 1 := wr64 (by omega) (by omega)
  have hs : IntKind.wrap .i64 6 = 6 := wr64 (by omega) (by omega)
  have hd : decide (G ≤ 0) = false := decide_eq_false (by omega)
  simp [bodyE, ac47, forget, noLoc, h0, h1, e19, e18, len, hd, hs, hw, splice, okStore]
  refine callE5 c F _ ?_
  simp [f19, h0]
  refine hq _ ?_ ?_ ?_ <;> first | rfl | simp [h0]

theorem callE6 (c : Nat) (F : Int) (Q : V → List Ob → Prop) (hq : Q (.tup []) (hE7 c F)) : CallA ap 72 0 [0, 0] [.ptr 19 0] ((hE6 c F).set 19 (.box [(.int .i64 ((c + 2 : Nat) : Int)), (.int .i64 2), (.int .i64 7), .nili, (.ptr 18 0), (.sl .clip []), (.vec 21 3 0 4 7), .nilp, (.sl .clip []), (.ptr 27 0), (.bool true)])) Q :=
  runsO ov_ok 3000 (v := .tup []) (h' := (hE7 c F)) (by clear hq; as_aux_lemma => kernel_rfl) hq

theorem roundE6 (c : Nat) (F G : Int) (hG : 0 < G) (hG2 : G < 2147483648) {σ : St} (h0 : σ.r 0 = .ptr 19 0) (h1 : σ.r 1 = .int .i64 G) (hh : σ.h = hE6 c F) (Q : AX → St → Prop)
    (hq : ∀ σ' : St, σ'.r 0 = .ptr 19 0 → σ'.r 1 = .int .i64 (G - 1) → σ'.h = hE7 c F → Q .normal σ') : wpA (CallA ap) [0, 0] bodyE Q (forget [0, 1] [] σ) := by
  obtain ⟨r, lo, h'⟩ := σ
  simp only at h0 h1 hh
  subst hh
  have e19 : (hE6 c F)[19]? = some (.box [(.int .i64 ((c + 2 : Nat) : Int)), (.int .i64 2), (.int .i64 6), .nili, (.ptr 18 0), (.sl .clip []), (.vec 21 3 0 4 7), .nilp, (.sl .clip []), (.ptr 27 0), (.bool true)]) := rfl
  have e18 : (hE6 c F)[18]? = some (.box [.nilp, (.bool true), (.ptr 4 0), (.sl .clip [])]) := rfl
  have len : ∀ x, ((hE6 c F).set 19 x)[19]? = some x := fun _ => rfl
  have f19 : (hE7 c F)[19]? = some (.box [(.int .i64 ((c + 2 : Nat) : Int)), (.int .i64 2), (.int .i64 7), .nili, (.ptr 18 0), (.sl .clip []), (.vec 21 3 0 3 7), .nilp, (.sl .clip []), (.ptr 29 0), (.bool true)]) := rfl
  have flen : ∀ x, ((hE7 c F).set 19 x)[19]? = some x := fun _ => rfl
  have hw : IntKind.wrap .i64 (G - 1) = G - 1 := wr64 (by omega) (by omega)
  have hs : IntKind.wrap .i64 7 = 7 := wr64 (by omega) (by omega)
  have hd : decide (G ≤ 0) = false := decide_eq_false (by omega)
  simp [bodyE, ac47, forget, noLoc, h0, h1, e19, e18, len, hd, hs, hw, splice, okStore]
  refine callE6 c F _ ?_
  simp [f19, h0]
  refine hq _ ?_ ?_ ?_ <;> first | rfl | simp [h0]

theorem callE7 (c : Nat) (F : Int) (Q : V → List Ob → Prop) (hq : Q (.tup []) (hE8 c F)) : CallA ap 72 0 [0, 0] [.ptr 19 0] ((hE7 c F).set 19 (.box [(.int .i64 ((c + 2 : Nat) : Int)), (.int .i64 2), (.int .i64 8), .nili, (.ptr 18 0), (.sl .clip []), (.vec 21 3 0 3 7), .nilp, (.sl .clip []), (.ptr 29 0), (.bool true)])) Q :=
  runsO ov_ok 3000 (v := .tup []) (h' := (hE8 c F)) (by clear hq; as_aux_lemma => kernel_rfl) hq

theorem roundE7 (c : Nat) (F G : Int) (hG : 0 < G) (hG2 : G < 2147483648) {σ : St} (h0 : σ.r 0 = .ptr 19 0) (h1 : σ.r 1 = .int .i64 G) (hh : σ.h = hE7 c F) (Q : AX → St → Prop)
    (hq : ∀ σ' : St, σ'.r 0 = .ptr 19 0 → σ'.r 1 = .int .i64 (G - 1) → σ'.h = hE8 c F → Q .normal σ') : wpA (CallA ap) [0, 0] bodyE Q (forget [0, 1] [] σ) := by
  obtain ⟨r, lo, h'⟩ := σ
  simp only at h0 h1 hh
  subst hh
  have e19 : (hE7 c F)[19]? = some (.box [(.int .i64 ((c + 2 : Nat) : Int)), (.int .i64 2), (.int .i64 7), .nili, (.ptr 18 0), (.sl .clip []), (.vec 21 3 0 3 7), .nilp, (.sl .clip []), (.ptr 29 0), (.bool true)]) := rfl
  have e18 : (hE7 c F)[18]? = some (.box [.nilp, (.bool true), (.ptr 4 0), (.sl .clip [])]) := rfl
  have len : ∀ x, ((hE7 c F).set 19 x)[19]? = some x := fun _ => rfl
  have f19 : (hE8 c F)[19]? = some (.box [(.int .i64 ((c + 2 : Nat) : Int)), (.int .i64 2), (.int .i64 8), .nili, (.ptr 18 0), (.sl .clip []), (.vec 21 3 0 2 7), .nilp, (.sl .clip []), (.ptr 31 0), (.bool true)]) := rfl
  have flen : ∀ x, ((hE8 c F).set 19 x)[19]? = some x := fun _ => rfl
  have hw : IntKind.wrap .i64 (G - 1) = G - 1 := wr64 (by omega) (by omega)
  have hs : IntKind.wrap .i64 8 = 8 := wr64 (by omega) (by omega)
  have hd : decide (G ≤ 0) = false := decide_eq_false (by omega)
  simp [bodyE, ac47, forget, noLoc, h0, h1, e19, e18, len, hd, hs, hw, splice, okStore]
  refine callE7 c F _ ?_
  simp [f19, h0]
  refine hq _ ?_ ?_ ?_ <;> first | rfl | simp [h0]

theorem callE8 (c : Nat) (F : Int) (Q : V → List Ob → Prop) (hq : Q (.tup []) (hE9 c F)) : CallA ap 72 0 [0, 0] [.ptr 19 0] ((hE8 c F).set 19 (.box [(.int .i64 ((c + 2 : Nat) : Int)), (.int .i64 2), (.int .i64 9), .nili, (.ptr 18 0), (.sl .clip []), (.vec 21 3 0 2 7), .nilp, (.sl .clip []), (.ptr 31 0), (.bool true)])) Q :=
  runsO ov_ok 3000 (v := .tup []) (h' := (hE9 c F)) (by clear hq; as_aux_lemma => kernel_rfl) hq

theorem roundE8 (c : Nat) (F G : Int) (hG : 0 < G) (hG2 : G < 2147483648) {σ : St} (h0 : σ.r 0 = .ptr 19 0) (h1 : σ.r 1 = .int .i64 G) (hh : σ.h = hE8 c F) (Q : AX → St → Prop)
    (hq : ∀ σ' : St, σ'.r 0 = .ptr 19 0 → σ'.r 1 = .int .i64 (G - 1) → σ'.h = hE9 c F → Q .normal σ') : wpA (CallA ap) [0, 0] bodyE Q (forget [0, 1] [] σ) := by
  obtain ⟨r, lo, h'⟩ := σ
  simp only at h0 h1 hh
  subst hh
  have e19 : (hE8 c F)[19]? = some (.box [(.int .i64 ((c + 2 : Nat) : Int)), (.int .i64 2), (.int .i64 8), .nili, (.ptr 18 0), (.sl .clip []), (.vec 21 3 0 2 7), .nilp, (.sl .clip []), (.ptr 31 0), (.bool true)]) := rfl
  have e18 : (hE8 c F)[18]? = some (.box [.nilp, (.bool true), (.ptr 4 0), (.sl .clip [])]) := rfl
  have len : ∀ x, ((hE8 c F).set 19 x)[19]? = some x := fun _ => rfl
  have f19 : (hE9 c F)[19]? = some (.box [(.int .i64 ((c + 2 : Nat) : Int)), (.int .i64 2), (.int .i64 9), .nili, (.ptr 18 0), (.sl .clip []), (.vec 21 3 0 1 7), .nilp, (.sl .clip []), (.ptr 31 0), (.bool true)]) := rfl
  have flen : ∀ x, ((hE9 c F).set 19 x)[19]? = some x := fun _ => rfl
  have hw : IntKind.wrap .i64 (G - 1) = G - 1 := wr64 (by omega) (by omega)
  have hs : IntKind.wrap .i64 9 = 9 := wr64 (by omega) (by omega)
  have hd : decide (G ≤ 0) = false := decide_eq_false (by omega)
  simp [bodyE, ac47, forget, noLoc, h0, h1, e19, e18, len, hd, hs, hw, splice, okStore]
  refine callE8 c F _ ?_
  simp [f19, h0]
  refine hq _ ?_ ?_ ?_ <;> first | rfl | simp [h0]

theorem callE9 (c : Nat) (F : Int) (Q : V → List Ob → Prop) (hq : Q (.tup []) ((hE10 c F).set 19 (.box [(.int .i64 ((c + 2 : Nat) : Int)), (.int .i64 2), (.int .i64 10), .nili, (.ptr 18 0), (.sl .clip []), (.vec 21 3 0 0 7), .nilp, (.sl .clip []), (.ptr 31 0), (.bool true)]))) : CallA ap 72 0 [0, 0] [.ptr 19 0] ((hE9 c F).set 19 (.box [(.int .i64 ((c + 2 : Nat) : Int)), (.int .i64 2), (.int .i64 10), .nili, (.ptr 18 0), (.sl .clip []), (.vec 21 3 0 1 7), .nilp, (.sl .clip []), (.ptr 31 0), (.bool true)])) Q :=
  runsO ov_ok 3000 (v := .tup []) (h' := ((hE10 c F).set 19 (.box [(.int .i64 ((c + 2 : Nat) : Int)), (.int .i64 2), (.int .i64 10), .nili, (.ptr 18 0), (.sl .clip []), (.vec 21 3 0 0 7), .nilp, (.sl .clip []), (.ptr 31 0), (.bool true)]))) (by clear hq; as_aux_lemma => kernel_rfl) hq

theorem roundE9 (c : Nat) (F G : Int) (hG : 0 < G) (hG2 : G < 2147483648) {σ : St} (h0 : σ.r 0 = .ptr 19 0) (h1 : σ.r 1 = .int .i64 G) (hh : σ.h = hE9 c F) (Q : AX → St → Prop)
    (hq : ∀ σ' : St, σ'.r 0 = .ptr 19 0 → σ'.r 1 = .int .i64 (G - 1) → σ'.h = hE10 c F → Q .normal σ') : wpA (CallA ap) [0, 0] bodyE Q (forget [0, 1] [] σ) := by
  obtain ⟨r, lo, h'⟩ := σ
  simp only at h0 h1 hh
  subst hh
  have e19 : (hE9 c F)[19]? = some (.box [(.int .i64 ((c + 2 : Nat) : Int)), (.int .i64 2), (.int .i64 9), .nili, (.ptr 18 0), (.sl .clip []), (.vec 21 3 0 1 7), .nilp, (.sl .clip []), (.ptr 31 0), (.bool true)]) := rfl
  have e18 : (hE9 c F)[18]? = some (.box [.nilp, (.bool true), (.ptr 4 0), (.sl .clip [])]) := rfl
  have len : ∀ x, ((hE9 c F).set 19 x)[19]? = some x := fun _ => rfl
  have f19 : (hE10 c F)[19]? = some (.box [(.int .i64 ((c + 2 : Nat) : Int)), (.int .i64 2), (.int .i64 10), .nili, (.ptr 18 0), (.sl .clip []), (.vec 21 3 0 0 7), .nilp, (.sl .clip []), (.ptr 31 0), (.bool false)]) := rfl
  have flen : ∀ x, ((hE10 c F).set 19 x)[19]? = some x := fun _ => rfl
  have hw : IntKind.wrap .i64 (G - 1) = G - 1 := wr64 (by omega) (by omega)
  have hs : IntKind.wrap .i64 10 = 10 := wr64 (by omega) (by omega)
  have hd : decide (G ≤ 0) = false := decide_eq_false (by omega)
  simp [bodyE, ac47, forget, noLoc, h0, h1, e19, e18, len, hd, hs, hw, splice, okStore]
  refine callE9 c F _ ?_
  simp [flen, splice, okStore, h0]
  refine hq _ ?_ ?_ ?_ <;> first | rfl | simp [h0]

end Go.Rt
