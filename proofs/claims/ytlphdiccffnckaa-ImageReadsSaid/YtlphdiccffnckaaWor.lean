/- The words for the functions. -/
import Derived.Test.YtlphdiccffnckaaTab
namespace Go.Proofs.Ytlphdiccffnckaa
open Go Go.Abs

def w24 : Words := { fl := [(8, 7, .own)], gh := [(5, .own 5 1)] }
def w31 : Words := { fl := [(4, 1, .gen), (8, 2, .gen)] }
def w32 : Words := { fl := [(4, 1, .gen)] }
def w33 : Words := { fl := [(6, 6, .own), (6, 7, .own), (6, 8, .own)], gh := [(2, .own 3 1)], adopt := true }
def w34 : Words := { fl := [(8, 11, .own)], gh := [(5, .own 7 1)] }
def w36 : Words := { fl := [(9, 9, .cln)] }
def w39 : Words := { fl := [(8, 11, .own)], gh := [(5, .own 7 1)] }
def w40 : Words := { fl := [(8, 3, .gen), (8, 4, .own)], gh := [(5, .own 8 3)] }
def w41 : Words := { fl := [(14, 7, .own)], gh := [(5, .own 8 3)] }
def w51 : Words := { fl := [(5, 7, .own)], gh := [(2, .own 3 1)] }
def w65 : Words := { fl := [(5, 2, .gen), (9, 5, .own)], gh := [(5, .ownAt 5 0 1)] }
def w67 : Words := { fl := [(14, 2, .cln), (16, 2, .own), (16, 3, .own), (17, 3, .own), (18, 3, .own)], gh := [(9, .frz 8), (11, .own 9 8), (11, .own 10 1)] }
def w72 : Words := { fl := [(5, 4, .gen), (6, 5, .gen)] }
def w73 : Words := { fl := [(8, 5, .own)], gh := [(5, .own 9 1), (13, .freeze 11)] }
def w75 : Words := { fl := [(4, 1, .gen)] }
def w89 : Words := { fl := [(1, 2, .own), (5, 5, .own)] }
def w98 : Words := { fl := [(1, 1, .gen)], adopt := true }
def w100 : Words := { fl := [(3, 2, .gen), (7, 4, .own)], gh := [(2, .ownAt 5 0 2)] }
def w103 : Words := { fl := [(3, 0, .own), (3, 2, .own)], adopt := true }
def w105 : Words := { fl := [(9, 4, .own)], gh := [(2, .own 5 2)] }
def w106 : Words := { fl := [(1, 2, .own), (5, 3, .gen), (5, 5, .own)] }
def w116 : Words := { fl := [(1, 1, .gen)] }
def w117 : Words := { fl := [(7, 1, .lend)] }
def w119 : Words := { fl := [(5, 7, .own), (9, 7, .own), (10, 1, .lend)], gh := [(2, .own 5 1)] }
def w141 : Words := { fl := [(3, 0, .own), (3, 2, .own)], adopt := true }
def w148 : Words := { fl := [(1, 0, .own), (5, 7, .own)] }
def w156 : Words := { adopt := true }
def w162 : Words := { fl := [(9, 23, .gen)], gh := [(2, .own 9 1), (3, .cut [0, 1, 2, 3, 9, 13, 14, 15] 1), (6, .own 11 8), (11, .freeze 11)] }
def w166 : Words := { gh := [(2, .own 3 2)] }
def w177 : Words := { fl := [(1, 2, .own), (5, 5, .own)] }
def w180 : Words := { fl := [(1, 2, .own), (5, 3, .gen), (5, 4, .own), (5, 5, .own)], adopt := true }
def w181 : Words := { adopt := true }
def w195 : Words := { fl := [(1, 1, .gen)] }
def w197 : Words := { fl := [(8, 8, .own)], gh := [(2, .own 3 1)] }
def w224 : Words := { fl := [(3, 0, .own), (3, 2, .own)], adopt := true }
def ws : List (Nat × Words) := [(24, w24), (31, w31), (32, w32), (33, w33), (34, w34), (36, w36), (39, w39), (40, w40), (41, w41), (51, w51), (65, w65), (67, w67), (72, w72), (73, w73), (75, w75), (89, w89), (98, w98), (100, w100), (103, w103), (105, w105), (106, w106), (116, w116), (117, w117), (119, w119), (141, w141), (148, w148), (156, w156), (162, w162), (166, w166), (177, w177), (180, w180), (181, w181), (195, w195), (197, w197), (224, w224)]
noncomputable def fs : Nat → Option AFn := fnOf Go.Proofs.Try.prog ws

end Go.Proofs.Ytlphdiccffnckaa
