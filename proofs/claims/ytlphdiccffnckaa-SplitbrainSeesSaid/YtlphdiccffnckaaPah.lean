/- Texts put together: Wor, Fun, Ima. -/
import Derived.Test.YtlphdiccffnckaaPaf
import Derived.Test.YtlphdiccffnckaaPag
import Derived.Test.YtlphdiccffnckaaPae

/- The words for the functions. -/
namespace Go.Proofs.Ytlphdiccffnckaa
open Go Go.Abs

def w16 : Words := { gh := [(9, .cut [1, 2, 5, 6, 55, 56, 57] 2), (19, .frz 6), (19, .frz 2)] }
def w17 : Words := { fl := [(21, 5, .gen)], gh := [(14, .cut [0, 5, 8, 11, 12, 14, 18, 21, 153, 154] 1), (19, .cut [0, 5, 8, 11, 12, 14, 18, 21, 23, 153, 154, 215, 216] 1)] }
def w18 : Words := { gh := [(8, .weak 10 3), (8, .weak 13 3)] }
def w24 : Words := { fl := [(8, 7, .own)], gh := [(5, .own 5 1)] }
def w31 : Words := { fl := [(4, 1, .gen), (8, 2, .gen)] }
def w32 : Words := { fl := [(4, 1, .gen)] }
def w33 : Words := { fl := [(6, 6, .own), (6, 7, .own), (6, 8, .own)], gh := [(2, .own 3 1)], adopt := true }
def w34 : Words := { fl := [(8, 11, .own)], gh := [(5, .own 7 1)] }
def w36 : Words := { fl := [(9, 9, .cln)] }
def w39 : Words := { fl := [(8, 11, .own)], gh := [(5, .own 7 1)] }
def w40 : Words := { fl := [(8, 3, .gen), (8, 4, .own)], gh := [(5, .own 8 3)] }
def w41 : Words := { fl := [(14, 7, .own)], gh := [(5, .own 8 3)] }
def w51 : Words := { fl := [(5, 7, .own)], gh := [(2, .own 3 1)] }
def w65 : Words := { fl := [(5, 2, .gen), (9, 5, .own)], gh := [(5, .ownAt 5 0 1)] }
def w66 : Words := { gh := [(5, .own 5 1)] }
def w67 : Words := { fl := [(14, 2, .cln), (16, 2, .own), (16, 3, .own)], gh := [(9, .frz 8), (11, .own 9 8), (11, .own 10 1), (12, .cut [0, 1, 8, 9, 10, 43, 44, 45] 3)] }
def w68 : Words := { fl := [(16, 2, .own), (16, 3, .own)], gh := [(9, .frz 8), (11, .own 9 8), (11, .own 10 1), (12, .cut [0, 1, 8, 9, 10, 11] 3)] }
def w70 : Words := { gh := [(4, .cut [1, 2, 15, 16, 17] 0)] }
def w72 : Words := { fl := [(5, 4, .gen), (6, 5, .gen)] }
def w73 : Words := { fl := [(8, 5, .own)], gh := [(5, .own 9 1), (6, .cut [0, 1, 2, 9, 10] 1), (13, .freeze 11)] }
def w75 : Words := { fl := [(4, 1, .gen)] }
def w81 : Words := { fl := [(1, 2, .gen)] }
def w84 : Words := { fl := [(4, 1, .gen)], gh := [(4, .ownAt 5 0 3)] }
def w89 : Words := { fl := [(1, 2, .own), (5, 5, .own)] }
def w98 : Words := { fl := [(1, 1, .gen)], adopt := true }
def w100 : Words := { fl := [(3, 2, .gen), (7, 4, .own)], gh := [(2, .ownAt 5 0 2)] }
def w103 : Words := { fl := [(3, 0, .own), (3, 2, .own)], adopt := true }
def w105 : Words := { fl := [(9, 4, .own)], gh := [(2, .own 5 2)] }
def w106 : Words := { fl := [(1, 2, .own), (5, 3, .gen), (5, 5, .own)] }
def w116 : Words := { fl := [(1, 1, .gen)] }
def w117 : Words := { fl := [(7, 1, .lend)] }
def w119 : Words := { fl := [(5, 7, .own), (9, 7, .own), (10, 1, .lend)], gh := [(2, .own 5 1)] }
def w141 : Words := { fl := [(3, 0, .own), (3, 2, .own)], adopt := true }
def w148 : Words := { fl := [(1, 0, .own), (5, 7, .own)] }
def w155 : Words := { gh := [(4, .cut [9, 10, 11] 0)] }
def w156 : Words := { adopt := true }
def w162 : Words := { fl := [(9, 23, .gen)], gh := [(2, .own 9 1), (3, .cut [0, 1, 2, 3, 9, 13, 14, 15] 1), (6, .own 11 8), (11, .freeze 11)] }
def w166 : Words := { gh := [(2, .own 3 2)] }
def w172 : Words := { fl := [(4, 5, .gen)] }
def w173 : Words := { fl := [(5, 6, .own), (5, 7, .gen), (8, 1, .gen)] }
def w174 : Words := { fl := [(1, 1, .gen), (4, 8, .own), (4, 9, .gen)], gh := [(0, .weak 0 3)] }
def w175 : Words := { adopt := true }
def w177 : Words := { fl := [(1, 2, .own), (5, 5, .own)] }
def w180 : Words := { fl := [(1, 2, .own), (5, 3, .gen), (5, 4, .own), (5, 5, .own)], adopt := true }
def w181 : Words := { adopt := true }
def w195 : Words := { fl := [(1, 1, .gen)] }
def w197 : Words := { fl := [(8, 8, .own)], gh := [(2, .own 3 1)] }
def w212 : Words := { gh := [(0, .weak 0 3)] }
def w213 : Words := { fl := [(4, 2, .gen)], gh := [(2, .cut [0, 5, 6, 7] 0)] }
def w222 : Words := { gh := [(2, .cut [0, 1, 3, 7, 8, 9] 1)] }
def w224 : Words := { fl := [(3, 0, .own), (3, 2, .own)], adopt := true }
def ws : List (Nat × Words) := [(16, w16), (17, w17), (18, w18), (24, w24), (31, w31), (32, w32), (33, w33), (34, w34), (36, w36), (39, w39), (40, w40), (41, w41), (51, w51), (65, w65), (66, w66), (67, w67), (68, w68), (70, w70), (72, w72), (73, w73), (75, w75), (81, w81), (84, w84), (89, w89), (98, w98), (100, w100), (103, w103), (105, w105), (106, w106), (116, w116), (117, w117), (119, w119), (141, w141), (148, w148), (155, w155), (156, w156), (162, w162), (166, w166), (172, w172), (173, w173), (174, w174), (175, w175), (177, w177), (180, w180), (181, w181), (195, w195), (197, w197), (212, w212), (213, w213), (222, w222), (224, w224)]
noncomputable def fs : Nat → Option AFn := fnOf Go.Proofs.Try.prog ws

end Go.Proofs.Ytlphdiccffnckaa

/- Each function, as it is evaluated. -/
namespace Go.Proofs.Ytlphdiccffnckaa
open Go Go.Abs

@[go_sem] theorem w0_gh : ({} : Words).gh = [] := rfl
@[go_sem] theorem w0_fl : ({} : Words).fl = [] := rfl
@[go_sem] theorem w0_ad : ({} : Words).adopt = false := rfl
@[go_sem] theorem w16_gh : w16.gh = [(9, .cut [1, 2, 5, 6, 55, 56, 57] 2), (19, .frz 6), (19, .frz 2)] := rfl
@[go_sem] theorem w16_fl : w16.fl = [] := rfl
@[go_sem] theorem w16_ad : w16.adopt = false := rfl
@[go_sem] theorem w17_gh : w17.gh = [(14, .cut [0, 5, 8, 11, 12, 14, 18, 21, 153, 154] 1), (19, .cut [0, 5, 8, 11, 12, 14, 18, 21, 23, 153, 154, 215, 216] 1)] := rfl
@[go_sem] theorem w17_fl : w17.fl = [(21, 5, .gen)] := rfl
@[go_sem] theorem w17_ad : w17.adopt = false := rfl
@[go_sem] theorem w18_gh : w18.gh = [(8, .weak 10 3), (8, .weak 13 3)] := rfl
@[go_sem] theorem w18_fl : w18.fl = [] := rfl
@[go_sem] theorem w18_ad : w18.adopt = false := rfl
@[go_sem] theorem w24_gh : w24.gh = [(5, .own 5 1)] := rfl
@[go_sem] theorem w24_fl : w24.fl = [(8, 7, .own)] := rfl
@[go_sem] theorem w24_ad : w24.adopt = false := rfl
@[go_sem] theorem w31_gh : w31.gh = [] := rfl
@[go_sem] theorem w31_fl : w31.fl = [(4, 1, .gen), (8, 2, .gen)] := rfl
@[go_sem] theorem w31_ad : w31.adopt = false := rfl
@[go_sem] theorem w32_gh : w32.gh = [] := rfl
@[go_sem] theorem w32_fl : w32.fl = [(4, 1, .gen)] := rfl
@[go_sem] theorem w32_ad : w32.adopt = false := rfl
@[go_sem] theorem w33_gh : w33.gh = [(2, .own 3 1)] := rfl
@[go_sem] theorem w33_fl : w33.fl = [(6, 6, .own), (6, 7, .own), (6, 8, .own)] := rfl
@[go_sem] theorem w33_ad : w33.adopt = true := rfl
@[go_sem] theorem w34_gh : w34.gh = [(5, .own 7 1)] := rfl
@[go_sem] theorem w34_fl : w34.fl = [(8, 11, .own)] := rfl
@[go_sem] theorem w34_ad : w34.adopt = false := rfl
@[go_sem] theorem w36_gh : w36.gh = [] := rfl
@[go_sem] theorem w36_fl : w36.fl = [(9, 9, .cln)] := rfl
@[go_sem] theorem w36_ad : w36.adopt = false := rfl
@[go_sem] theorem w39_gh : w39.gh = [(5, .own 7 1)] := rfl
@[go_sem] theorem w39_fl : w39.fl = [(8, 11, .own)] := rfl
@[go_sem] theorem w39_ad : w39.adopt = false := rfl
@[go_sem] theorem w40_gh : w40.gh = [(5, .own 8 3)] := rfl
@[go_sem] theorem w40_fl : w40.fl = [(8, 3, .gen), (8, 4, .own)] := rfl
@[go_sem] theorem w40_ad : w40.adopt = false := rfl
@[go_sem] theorem w41_gh : w41.gh = [(5, .own 8 3)] := rfl
@[go_sem] theorem w41_fl : w41.fl = [(14, 7, .own)] := rfl
@[go_sem] theorem w41_ad : w41.adopt = false := rfl
@[go_sem] theorem w51_gh : w51.gh = [(2, .own 3 1)] := rfl
@[go_sem] theorem w51_fl : w51.fl = [(5, 7, .own)] := rfl
@[go_sem] theorem w51_ad : w51.adopt = false := rfl
@[go_sem] theorem w65_gh : w65.gh = [(5, .ownAt 5 0 1)] := rfl
@[go_sem] theorem w65_fl : w65.fl = [(5, 2, .gen), (9, 5, .own)] := rfl
@[go_sem] theorem w65_ad : w65.adopt = false := rfl
@[go_sem] theorem w66_gh : w66.gh = [(5, .own 5 1)] := rfl
@[go_sem] theorem w66_fl : w66.fl = [] := rfl
@[go_sem] theorem w66_ad : w66.adopt = false := rfl
@[go_sem] theorem w67_gh : w67.gh = [(9, .frz 8), (11, .own 9 8), (11, .own 10 1), (12, .cut [0, 1, 8, 9, 10, 43, 44, 45] 3)] := rfl
@[go_sem] theorem w67_fl : w67.fl = [(14, 2, .cln), (16, 2, .own), (16, 3, .own)] := rfl
@[go_sem] theorem w67_ad : w67.adopt = false := rfl
@[go_sem] theorem w68_gh : w68.gh = [(9, .frz 8), (11, .own 9 8), (11, .own 10 1), (12, .cut [0, 1, 8, 9, 10, 11] 3)] := rfl
@[go_sem] theorem w68_fl : w68.fl = [(16, 2, .own), (16, 3, .own)] := rfl
@[go_sem] theorem w68_ad : w68.adopt = false := rfl
@[go_sem] theorem w70_gh : w70.gh = [(4, .cut [1, 2, 15, 16, 17] 0)] := rfl
@[go_sem] theorem w70_fl : w70.fl = [] := rfl
@[go_sem] theorem w70_ad : w70.adopt = false := rfl
@[go_sem] theorem w72_gh : w72.gh = [] := rfl
@[go_sem] theorem w72_fl : w72.fl = [(5, 4, .gen), (6, 5, .gen)] := rfl
@[go_sem] theorem w72_ad : w72.adopt = false := rfl
@[go_sem] theorem w73_gh : w73.gh = [(5, .own 9 1), (6, .cut [0, 1, 2, 9, 10] 1), (13, .freeze 11)] := rfl
@[go_sem] theorem w73_fl : w73.fl = [(8, 5, .own)] := rfl
@[go_sem] theorem w73_ad : w73.adopt = false := rfl
@[go_sem] theorem w75_gh : w75.gh = [] := rfl
@[go_sem] theorem w75_fl : w75.fl = [(4, 1, .gen)] := rfl
@[go_sem] theorem w75_ad : w75.adopt = false := rfl
@[go_sem] theorem w81_gh : w81.gh = [] := rfl
@[go_sem] theorem w81_fl : w81.fl = [(1, 2, .gen)] := rfl
@[go_sem] theorem w81_ad : w81.adopt = false := rfl
@[go_sem] theorem w84_gh : w84.gh = [(4, .ownAt 5 0 3)] := rfl
@[go_sem] theorem w84_fl : w84.fl = [(4, 1, .gen)] := rfl
@[go_sem] theorem w84_ad : w84.adopt = false := rfl
@[go_sem] theorem w89_gh : w89.gh = [] := rfl
@[go_sem] theorem w89_fl : w89.fl = [(1, 2, .own), (5, 5, .own)] := rfl
@[go_sem] theorem w89_ad : w89.adopt = false := rfl
@[go_sem] theorem w98_gh : w98.gh = [] := rfl
@[go_sem] theorem w98_fl : w98.fl = [(1, 1, .gen)] := rfl
@[go_sem] theorem w98_ad : w98.adopt = true := rfl
@[go_sem] theorem w100_gh : w100.gh = [(2, .ownAt 5 0 2)] := rfl
@[go_sem] theorem w100_fl : w100.fl = [(3, 2, .gen), (7, 4, .own)] := rfl
@[go_sem] theorem w100_ad : w100.adopt = false := rfl
@[go_sem] theorem w103_gh : w103.gh = [] := rfl
@[go_sem] theorem w103_fl : w103.fl = [(3, 0, .own), (3, 2, .own)] := rfl
@[go_sem] theorem w103_ad : w103.adopt = true := rfl
@[go_sem] theorem w105_gh : w105.gh = [(2, .own 5 2)] := rfl
@[go_sem] theorem w105_fl : w105.fl = [(9, 4, .own)] := rfl
@[go_sem] theorem w105_ad : w105.adopt = false := rfl
@[go_sem] theorem w106_gh : w106.gh = [] := rfl
@[go_sem] theorem w106_fl : w106.fl = [(1, 2, .own), (5, 3, .gen), (5, 5, .own)] := rfl
@[go_sem] theorem w106_ad : w106.adopt = false := rfl
@[go_sem] theorem w116_gh : w116.gh = [] := rfl
@[go_sem] theorem w116_fl : w116.fl = [(1, 1, .gen)] := rfl
@[go_sem] theorem w116_ad : w116.adopt = false := rfl
@[go_sem] theorem w117_gh : w117.gh = [] := rfl
@[go_sem] theorem w117_fl : w117.fl = [(7, 1, .lend)] := rfl
@[go_sem] theorem w117_ad : w117.adopt = false := rfl
@[go_sem] theorem w119_gh : w119.gh = [(2, .own 5 1)] := rfl
@[go_sem] theorem w119_fl : w119.fl = [(5, 7, .own), (9, 7, .own), (10, 1, .lend)] := rfl
@[go_sem] theorem w119_ad : w119.adopt = false := rfl
@[go_sem] theorem w141_gh : w141.gh = [] := rfl
@[go_sem] theorem w141_fl : w141.fl = [(3, 0, .own), (3, 2, .own)] := rfl
@[go_sem] theorem w141_ad : w141.adopt = true := rfl
@[go_sem] theorem w148_gh : w148.gh = [] := rfl
@[go_sem] theorem w148_fl : w148.fl = [(1, 0, .own), (5, 7, .own)] := rfl
@[go_sem] theorem w148_ad : w148.adopt = false := rfl
@[go_sem] theorem w155_gh : w155.gh = [(4, .cut [9, 10, 11] 0)] := rfl
@[go_sem] theorem w155_fl : w155.fl = [] := rfl
@[go_sem] theorem w155_ad : w155.adopt = false := rfl
@[go_sem] theorem w156_gh : w156.gh = [] := rfl
@[go_sem] theorem w156_fl : w156.fl = [] := rfl
@[go_sem] theorem w156_ad : w156.adopt = true := rfl
@[go_sem] theorem w162_gh : w162.gh = [(2, .own 9 1), (3, .cut [0, 1, 2, 3, 9, 13, 14, 15] 1), (6, .own 11 8), (11, .freeze 11)] := rfl
@[go_sem] theorem w162_fl : w162.fl = [(9, 23, .gen)] := rfl
@[go_sem] theorem w162_ad : w162.adopt = false := rfl
@[go_sem] theorem w166_gh : w166.gh = [(2, .own 3 2)] := rfl
@[go_sem] theorem w166_fl : w166.fl = [] := rfl
@[go_sem] theorem w166_ad : w166.adopt = false := rfl
@[go_sem] theorem w172_gh : w172.gh = [] := rfl
@[go_sem] theorem w172_fl : w172.fl = [(4, 5, .gen)] := rfl
@[go_sem] theorem w172_ad : w172.adopt = false := rfl
@[go_sem] theorem w173_gh : w173.gh = [] := rfl
@[go_sem] theorem w173_fl : w173.fl = [(5, 6, .own), (5, 7, .gen), (8, 1, .gen)] := rfl
@[go_sem] theorem w173_ad : w173.adopt = false := rfl
@[go_sem] theorem w174_gh : w174.gh = [(0, .weak 0 3)] := rfl
@[go_sem] theorem w174_fl : w174.fl = [(1, 1, .gen), (4, 8, .own), (4, 9, .gen)] := rfl
@[go_sem] theorem w174_ad : w174.adopt = false := rfl
@[go_sem] theorem w175_gh : w175.gh = [] := rfl
@[go_sem] theorem w175_fl : w175.fl = [] := rfl
@[go_sem] theorem w175_ad : w175.adopt = true := rfl
@[go_sem] theorem w177_gh : w177.gh = [] := rfl
@[go_sem] theorem w177_fl : w177.fl = [(1, 2, .own), (5, 5, .own)] := rfl
@[go_sem] theorem w177_ad : w177.adopt = false := rfl
@[go_sem] theorem w180_gh : w180.gh = [] := rfl
@[go_sem] theorem w180_fl : w180.fl = [(1, 2, .own), (5, 3, .gen), (5, 4, .own), (5, 5, .own)] := rfl
@[go_sem] theorem w180_ad : w180.adopt = true := rfl
@[go_sem] theorem w181_gh : w181.gh = [] := rfl
@[go_sem] theorem w181_fl : w181.fl = [] := rfl
@[go_sem] theorem w181_ad : w181.adopt = true := rfl
@[go_sem] theorem w195_gh : w195.gh = [] := rfl
@[go_sem] theorem w195_fl : w195.fl = [(1, 1, .gen)] := rfl
@[go_sem] theorem w195_ad : w195.adopt = false := rfl
@[go_sem] theorem w197_gh : w197.gh = [(2, .own 3 1)] := rfl
@[go_sem] theorem w197_fl : w197.fl = [(8, 8, .own)] := rfl
@[go_sem] theorem w197_ad : w197.adopt = false := rfl
@[go_sem] theorem w212_gh : w212.gh = [(0, .weak 0 3)] := rfl
@[go_sem] theorem w212_fl : w212.fl = [] := rfl
@[go_sem] theorem w212_ad : w212.adopt = false := rfl
@[go_sem] theorem w213_gh : w213.gh = [(2, .cut [0, 5, 6, 7] 0)] := rfl
@[go_sem] theorem w213_fl : w213.fl = [(4, 2, .gen)] := rfl
@[go_sem] theorem w213_ad : w213.adopt = false := rfl
@[go_sem] theorem w222_gh : w222.gh = [(2, .cut [0, 1, 3, 7, 8, 9] 1)] := rfl
@[go_sem] theorem w222_fl : w222.fl = [] := rfl
@[go_sem] theorem w222_ad : w222.adopt = false := rfl
@[go_sem] theorem w224_gh : w224.gh = [] := rfl
@[go_sem] theorem w224_fl : w224.fl = [(3, 0, .own), (3, 2, .own)] := rfl
@[go_sem] theorem w224_ad : w224.adopt = true := rfl
theorem f3_eq : fs 3 = some (mkFn {} Go.Proofs.Try.f3 (bodyOf Go.Proofs.Try.f3)) := by kernel_rfl
theorem f4_eq : fs 4 = some (mkFn {} Go.Proofs.Try.f4 (bodyOf Go.Proofs.Try.f4)) := by kernel_rfl
theorem f5_eq : fs 5 = some (mkFn {} Go.Proofs.Try.f5 (bodyOf Go.Proofs.Try.f5)) := by kernel_rfl
theorem f6_eq : fs 6 = some (mkFn {} Go.Proofs.Try.f6 (bodyOf Go.Proofs.Try.f6)) := by kernel_rfl
theorem f7_eq : fs 7 = some (mkFn {} Go.Proofs.Try.f7 (bodyOf Go.Proofs.Try.f7)) := by kernel_rfl
theorem f8_eq : fs 8 = some (mkFn {} Go.Proofs.Try.f8 (bodyOf Go.Proofs.Try.f8)) := by kernel_rfl
theorem f10_eq : fs 10 = some (mkFn {} Go.Proofs.Try.f10 (bodyOf Go.Proofs.Try.f10)) := by kernel_rfl
theorem f11_eq : fs 11 = some (mkFn {} Go.Proofs.Try.f11 (bodyOf Go.Proofs.Try.f11)) := by kernel_rfl
theorem f19_eq : fs 19 = some (mkFn {} Go.Proofs.Try.f19 (bodyOf Go.Proofs.Try.f19)) := by kernel_rfl
theorem f20_eq : fs 20 = some (mkFn {} Go.Proofs.Try.f20 (bodyOf Go.Proofs.Try.f20)) := by kernel_rfl
theorem f21_eq : fs 21 = some (mkFn {} Go.Proofs.Try.f21 (bodyOf Go.Proofs.Try.f21)) := by kernel_rfl
theorem f23_eq : fs 23 = some (mkFn {} Go.Proofs.Try.f23 (bodyOf Go.Proofs.Try.f23)) := by kernel_rfl
theorem f24_eq : fs 24 = some (mkFn w24 Go.Proofs.Try.f24 (bodyOf Go.Proofs.Try.f24)) := by kernel_rfl
theorem f25_eq : fs 25 = some (mkFn {} Go.Proofs.Try.f25 (bodyOf Go.Proofs.Try.f25)) := by kernel_rfl
theorem f26_eq : fs 26 = some (mkFn {} Go.Proofs.Try.f26 (bodyOf Go.Proofs.Try.f26)) := by kernel_rfl
theorem f27_eq : fs 27 = some (mkFn {} Go.Proofs.Try.f27 (bodyOf Go.Proofs.Try.f27)) := by kernel_rfl
theorem f28_eq : fs 28 = some (mkFn {} Go.Proofs.Try.f28 (bodyOf Go.Proofs.Try.f28)) := by kernel_rfl
theorem f29_eq : fs 29 = some (mkFn {} Go.Proofs.Try.f29 (bodyOf Go.Proofs.Try.f29)) := by kernel_rfl
theorem f30_eq : fs 30 = some (mkFn {} Go.Proofs.Try.f30 (bodyOf Go.Proofs.Try.f30)) := by kernel_rfl
theorem f31_eq : fs 31 = some (mkFn w31 Go.Proofs.Try.f31 (bodyOf Go.Proofs.Try.f31)) := by kernel_rfl
theorem f32_eq : fs 32 = some (mkFn w32 Go.Proofs.Try.f32 (bodyOf Go.Proofs.Try.f32)) := by kernel_rfl
theorem f33_eq : fs 33 = some (mkFn w33 Go.Proofs.Try.f33 (bodyOf Go.Proofs.Try.f33)) := by kernel_rfl
theorem f34_eq : fs 34 = some (mkFn w34 Go.Proofs.Try.f34 (bodyOf Go.Proofs.Try.f34)) := by kernel_rfl
theorem f35_eq : fs 35 = some (mkFn {} Go.Proofs.Try.f35 (bodyOf Go.Proofs.Try.f35)) := by kernel_rfl
theorem f36_eq : fs 36 = some (mkFn w36 Go.Proofs.Try.f36 (bodyOf Go.Proofs.Try.f36)) := by kernel_rfl
theorem f37_eq : fs 37 = some (mkFn {} Go.Proofs.Try.f37 (bodyOf Go.Proofs.Try.f37)) := by kernel_rfl
theorem f38_eq : fs 38 = some (mkFn {} Go.Proofs.Try.f38 (bodyOf Go.Proofs.Try.f38)) := by kernel_rfl
theorem f39_eq : fs 39 = some (mkFn w39 Go.Proofs.Try.f39 (bodyOf Go.Proofs.Try.f39)) := by kernel_rfl
theorem f40_eq : fs 40 = some (mkFn w40 Go.Proofs.Try.f40 (bodyOf Go.Proofs.Try.f40)) := by kernel_rfl
theorem f41_eq : fs 41 = some (mkFn w41 Go.Proofs.Try.f41 (bodyOf Go.Proofs.Try.f41)) := by kernel_rfl
theorem f42_eq : fs 42 = some (mkFn {} Go.Proofs.Try.f42 (bodyOf Go.Proofs.Try.f42)) := by kernel_rfl
theorem f50_eq : fs 50 = some (mkFn {} Go.Proofs.Try.f50 (bodyOf Go.Proofs.Try.f50)) := by kernel_rfl
theorem f51_eq : fs 51 = some (mkFn w51 Go.Proofs.Try.f51 (bodyOf Go.Proofs.Try.f51)) := by kernel_rfl
theorem f85_eq : fs 85 = some (mkFn {} Go.Proofs.Try.f85 (bodyOf Go.Proofs.Try.f85)) := by kernel_rfl
theorem f86_eq : fs 86 = some (mkFn {} Go.Proofs.Try.f86 (bodyOf Go.Proofs.Try.f86)) := by kernel_rfl
theorem f87_eq : fs 87 = some (mkFn {} Go.Proofs.Try.f87 (bodyOf Go.Proofs.Try.f87)) := by kernel_rfl
theorem f88_eq : fs 88 = some (mkFn {} Go.Proofs.Try.f88 (bodyOf Go.Proofs.Try.f88)) := by kernel_rfl
theorem f89_eq : fs 89 = some (mkFn w89 Go.Proofs.Try.f89 (bodyOf Go.Proofs.Try.f89)) := by kernel_rfl
theorem f90_eq : fs 90 = some (mkFn {} Go.Proofs.Try.f90 (bodyOf Go.Proofs.Try.f90)) := by kernel_rfl
theorem f91_eq : fs 91 = some (mkFn {} Go.Proofs.Try.f91 (bodyOf Go.Proofs.Try.f91)) := by kernel_rfl
theorem f92_eq : fs 92 = some (mkFn {} Go.Proofs.Try.f92 (bodyOf Go.Proofs.Try.f92)) := by kernel_rfl
theorem f93_eq : fs 93 = some (mkFn {} Go.Proofs.Try.f93 (bodyOf Go.Proofs.Try.f93)) := by kernel_rfl
theorem f94_eq : fs 94 = some (mkFn {} Go.Proofs.Try.f94 (bodyOf Go.Proofs.Try.f94)) := by kernel_rfl
theorem f95_eq : fs 95 = some (mkFn {} Go.Proofs.Try.f95 (bodyOf Go.Proofs.Try.f95)) := by kernel_rfl
theorem f96_eq : fs 96 = some (mkFn {} Go.Proofs.Try.f96 (bodyOf Go.Proofs.Try.f96)) := by kernel_rfl
theorem f97_eq : fs 97 = some (mkFn {} Go.Proofs.Try.f97 (bodyOf Go.Proofs.Try.f97)) := by kernel_rfl
theorem f98_eq : fs 98 = some (mkFn w98 Go.Proofs.Try.f98 (bodyOf Go.Proofs.Try.f98)) := by kernel_rfl
theorem f99_eq : fs 99 = some (mkFn {} Go.Proofs.Try.f99 (bodyOf Go.Proofs.Try.f99)) := by kernel_rfl
theorem f100_eq : fs 100 = some (mkFn w100 Go.Proofs.Try.f100 (bodyOf Go.Proofs.Try.f100)) := by kernel_rfl
theorem f101_eq : fs 101 = some (mkFn {} Go.Proofs.Try.f101 (bodyOf Go.Proofs.Try.f101)) := by kernel_rfl
theorem f102_eq : fs 102 = some (mkFn {} Go.Proofs.Try.f102 (bodyOf Go.Proofs.Try.f102)) := by kernel_rfl
theorem f103_eq : fs 103 = some (mkFn w103 Go.Proofs.Try.f103 (bodyOf Go.Proofs.Try.f103)) := by kernel_rfl
theorem f104_eq : fs 104 = some (mkFn {} Go.Proofs.Try.f104 (bodyOf Go.Proofs.Try.f104)) := by kernel_rfl
theorem f105_eq : fs 105 = some (mkFn w105 Go.Proofs.Try.f105 (bodyOf Go.Proofs.Try.f105)) := by kernel_rfl
theorem f106_eq : fs 106 = some (mkFn w106 Go.Proofs.Try.f106 (bodyOf Go.Proofs.Try.f106)) := by kernel_rfl
theorem f107_eq : fs 107 = some (mkFn {} Go.Proofs.Try.f107 (bodyOf Go.Proofs.Try.f107)) := by kernel_rfl
theorem f108_eq : fs 108 = some (mkFn {} Go.Proofs.Try.f108 (bodyOf Go.Proofs.Try.f108)) := by kernel_rfl
theorem f109_eq : fs 109 = some (mkFn {} Go.Proofs.Try.f109 (bodyOf Go.Proofs.Try.f109)) := by kernel_rfl
theorem f176_eq : fs 176 = some (mkFn {} Go.Proofs.Try.f176 (bodyOf Go.Proofs.Try.f176)) := by kernel_rfl
theorem f177_eq : fs 177 = some (mkFn w177 Go.Proofs.Try.f177 (bodyOf Go.Proofs.Try.f177)) := by kernel_rfl
theorem f178_eq : fs 178 = some (mkFn {} Go.Proofs.Try.f178 (bodyOf Go.Proofs.Try.f178)) := by kernel_rfl
theorem f179_eq : fs 179 = some (mkFn {} Go.Proofs.Try.f179 (bodyOf Go.Proofs.Try.f179)) := by kernel_rfl
theorem f180_eq : fs 180 = some (mkFn w180 Go.Proofs.Try.f180 (bodyOf Go.Proofs.Try.f180)) := by kernel_rfl
theorem f181_eq : fs 181 = some (mkFn w181 Go.Proofs.Try.f181 (bodyOf Go.Proofs.Try.f181)) := by kernel_rfl
theorem f223_eq : fs 223 = some (mkFn {} Go.Proofs.Try.f223 (bodyOf Go.Proofs.Try.f223)) := by kernel_rfl
theorem f52_eq : fs 52 = some (mkFn {} Go.Proofs.Try.f52 (bodyOf Go.Proofs.Try.f52)) := by kernel_rfl
theorem f53_eq : fs 53 = some (mkFn {} Go.Proofs.Try.f53 (bodyOf Go.Proofs.Try.f53)) := by kernel_rfl
theorem f116_eq : fs 116 = some (mkFn w116 Go.Proofs.Try.f116 (bodyOf Go.Proofs.Try.f116)) := by kernel_rfl
theorem f117_eq : fs 117 = some (mkFn w117 Go.Proofs.Try.f117 (bodyOf Go.Proofs.Try.f117)) := by kernel_rfl
theorem f118_eq : fs 118 = some (mkFn {} Go.Proofs.Try.f118 (bodyOf Go.Proofs.Try.f118)) := by kernel_rfl
theorem f119_eq : fs 119 = some (mkFn w119 Go.Proofs.Try.f119 (bodyOf Go.Proofs.Try.f119)) := by kernel_rfl
theorem f193_eq : fs 193 = some (mkFn {} Go.Proofs.Try.f193 (bodyOf Go.Proofs.Try.f193)) := by kernel_rfl
theorem f194_eq : fs 194 = some (mkFn {} Go.Proofs.Try.f194 (bodyOf Go.Proofs.Try.f194)) := by kernel_rfl
theorem f195_eq : fs 195 = some (mkFn w195 Go.Proofs.Try.f195 (bodyOf Go.Proofs.Try.f195)) := by kernel_rfl
theorem f196_eq : fs 196 = some (mkFn {} Go.Proofs.Try.f196 (bodyOf Go.Proofs.Try.f196)) := by kernel_rfl
theorem f197_eq : fs 197 = some (mkFn w197 Go.Proofs.Try.f197 (bodyOf Go.Proofs.Try.f197)) := by kernel_rfl
theorem f233_eq : fs 233 = some (mkFn {} Go.Proofs.Try.f233 (bodyOf Go.Proofs.Try.f233)) := by kernel_rfl
end Go.Proofs.Ytlphdiccffnckaa

/- Layer 7: sizes. -/
namespace Go.Proofs.Ytlphdiccffnckaa
open Go Go.Abs

@[go_sem] def zI (n : Int) : AV := .sc (.int .i64 n)
@[go_sem] def zB (b : Bool) : AV := .sc (.bool b)
@[go_sem] def zInts (xs : List Int) : AV := .sl false 1 (xs.map fun n => [.sc (.int .i64 n)])
/-- A sector: eight bytes. -/
abbrev Sec := { l : List Int // l.length = 8 }
abbrev Vol := List Sec
abbrev Img := List Vol
def secRow (s : Sec) : List AV := s.1.map fun b => .sc (.int .u8 b)
@[go_sem] theorem secRow_len (s : Sec) : (secRow s).length = 8 := by simp [secRow, s.2]
@[go_sem] theorem secRow_take (s : Sec) : (secRow s).take 8 = secRow s := List.take_of_length_le (by simp [secRow_len])
theorem pureL_ints : ∀ (k : IntKind) (l : List Int), AV.pureL (l.map fun b => .sc (.int k b)) = true
  | _, [] => rfl
  | k, _ :: l => by simp only [List.map_cons, AV.pureL, AV.pure, Bool.true_and]; exact pureL_ints k l
theorem stillL_ints : ∀ (k : IntKind) (l : List Int), AV.stillL (l.map fun b => .sc (.int k b)) = true
  | _, [] => rfl
  | k, _ :: l => by simp only [List.map_cons, AV.stillL, AV.still, Bool.true_and]; exact stillL_ints k l
@[go_sem] theorem secRow_pure (s : Sec) : AV.pureL (secRow s) = true := pureL_ints _ _
@[go_sem] theorem secRow_still (s : Sec) : AV.stillL (secRow s) = true := stillL_ints _ _
theorem aggEq_ints (k : IntKind) : ∀ (a b : List Int), a.length = b.length → aggEq (a.map fun x => .sc (.int k x)) (b.map fun x => .sc (.int k x)) = some (decide (a = b))
  | [], [], _ => rfl
  | [], _ :: _, h => by simp at h
  | _ :: _, [], h => by simp at h
  | x :: a, y :: b, h => by
    simp only [List.map_cons, aggEq, scEq, if_true, Option.bind_some, aggEq_ints k a b (by simpa using h), Option.map_some]
    congr 1
    by_cases h1 : x = y <;> by_cases h2 : a = b <;> simp [h1, h2]
theorem secRow_eq (a b : Sec) : aggEq (secRow a) (secRow b) = some (decide (a = b)) := by
  unfold secRow
  rw [aggEq_ints _ _ _ (by rw [a.2, b.2])]
  congr 1
  simp [Subtype.ext_iff]
theorem shape_ints (k : IntKind) : ∀ (l : List Int), shapeOk (List.replicate l.length true) (l.map fun x => .sc (.int k x)) = true
  | [] => rfl
  | _ :: l => shape_ints k l
theorem shape_sec (s : Sec) : eqShape (ev.T.eqc 52) (secRow s) = true := by
  have h : ev.T.eqc 52 = some (List.replicate s.1.length true) := by rw [s.2]; rfl
  rw [h]
  exact shape_ints _ _
@[go_sem] theorem neq_sec (a b : Sec) : aBin ev.T .neq 52 (.agg (secRow a)) (.agg (secRow b)) = some (.sc (.bool (!decide (a = b)))) := by
  simp only [aBin, shape_sec, if_true, secRow_eq, Option.map_some]
@[go_sem] theorem eql_sec (a b : Sec) : aBin ev.T .eql 52 (.agg (secRow a)) (.agg (secRow b)) = some (.sc (.bool (decide (a = b)))) := by
  simp only [aBin, shape_sec, if_true, secRow_eq, Option.map_some]
@[go_sem] def zVol (v : Vol) : AV := .sl false 8 (v.map secRow)
@[go_sem] def zImg (im : Img) : AV := .sl false 1 (im.map fun v => [.sl false 8 (v.map secRow)])

def mFew (im : Img) : Bool := decide (im.length ≤ 9) && im.all fun v => decide (v.length ≤ 24)

theorem f19_spec (im : Img) (Y : List YF) : callS ev fs 19 [zImg im] [] Y = some (.ret (zB (mFew im)), []) := by
  refine callS_by f19_eq rfl ?_
  simp only [bodyOf, Go.Proofs.Try.f19, Option.getD_some]
  by_cases h1 : 9 < im.length
  · have hm : mFew im = false := by simp [mFew]; omega
    simp [go_sem, h1, hm]
  have hm : mFew im = !im.any fun v => decide (24 < v.length) := by
    simp only [mFew, show im.length ≤ 9 by omega, decide_true, Bool.true_and, List.not_any_eq_all_not]
    congr 1
    funext v
    rw [← decide_not]
    simp
  obtain ⟨R, hR⟩ := fold_loop (E := ev) (C := callS ev fs) (Y := Y) (w := {}) (a := (loopsOf (bodyOf Go.Proofs.Try.f19))[0]?.getD .skip) (b := 0) 
    im (fun _ (_ : Unit) v => if decide (24 < v.length) = true then .inr () else .inl ()) () (ex := fun _ => .ret)
    (fun i _ => Live [(0, zImg im), (3, zI i)] [] 0) (fun _ => Live [] [] 0) (fun _ => Live [(2, zB false)] [] 0)
    (fun i s st hi h => by
      obtain ⟨tm, H, b⟩ := st
      simp only [bodyOf, Go.Proofs.Try.f19, Option.getD_some, loopsOf, rangesOf, List.nil_append, List.append_nil, List.cons_append, List.getElem?_cons_zero, List.getElem?_cons_succ]
      simp only [go_sem] at h
      obtain ⟨h0, h3, rfl, rfl⟩ := h
      by_cases hp : 24 < im[i].length
      · simp [go_sem, h0, h3, hi, hp]
      · simp [go_sem, h0, h3, hi, hp, show i < 1000000000 by omega])
    (fun s st h => by
      obtain ⟨tm, H, b⟩ := st
      simp only [bodyOf, Go.Proofs.Try.f19, Option.getD_some, loopsOf, rangesOf, List.nil_append, List.append_nil, List.cons_append, List.getElem?_cons_zero, List.getElem?_cons_succ]
      simp only [go_sem] at h
      obtain ⟨h0, h3, rfl, rfl⟩ := h
      simp [go_sem, h0, h3])
    (fun _ h => by cases h)
  simp only [bodyOf, Go.Proofs.Try.f19, Option.getD_some, loopsOf, rangesOf, List.nil_append, List.append_nil, List.cons_append, List.getElem?_cons_zero, List.getElem?_cons_succ] at hR
  rw [foldE_any] at hR
  rw [hm]
  generalize im.any (fun v => decide (24 < v.length)) = r at hR ⊢
  cases r <;> simp [go_sem] at hR <;> simp [go_sem, h1, hR]

/-- The index of the first element of which a function says true. -/
theorem f85_spec (xs : List Int) (g : Nat) (caps : List AV) (p : Int → Bool) (hc : AV.pureL caps = true) (hl : xs.length < 1000000000)
    (hg : ∀ x ∈ xs, callS ev fs g (zI x :: caps) [] [] = some (.ret (zB (p x)), [])) (Y : List YF) :
    callS ev fs 85 [zInts xs, .fn g caps] [] Y = some (.ret (zI (match xs.findIdx? p with | some j => (j : Int) | none => -1)), []) := by
  refine callS_by f85_eq rfl ?_
  simp only [bodyOf, Go.Proofs.Try.f85, Option.getD_some]
  obtain ⟨R, hR⟩ := fold_loop (E := ev) (C := callS ev fs) (Y := Y) (w := {}) (a := (loopsOf (bodyOf Go.Proofs.Try.f85))[0]?.getD .skip) (b := 0) 
    xs (fun i (_ : Unit) x => if p x = true then .inr i else .inl ()) () (ex := fun _ => .ret)
    (fun i _ => Live [(0, zInts xs), (1, .fn g caps), (7, zI xs.length), (8, zI i)] [] 0) (fun _ => Live [] [] 0) (fun j => Live [(4, zI j)] [] 0)
    (fun i s st hi h => by
      obtain ⟨tm, H, b⟩ := st
      simp only [bodyOf, Go.Proofs.Try.f85, Option.getD_some, loopsOf, rangesOf, List.nil_append, List.append_nil, List.cons_append, List.getElem?_cons_zero, List.getElem?_cons_succ]
      simp only [go_sem] at h
      obtain ⟨h0, h1, h7, h8, rfl, rfl⟩ := h
      have hgx := hg xs[i] (List.getElem_mem hi)
      simp only [go_sem] at hgx
      cases hp : p xs[i] <;> simp [go_sem, h0, h1, h7, h8, hi, hp, hgx, hc, show i < 1000000000 by omega])
    (fun s st h => by
      obtain ⟨tm, H, b⟩ := st
      simp only [bodyOf, Go.Proofs.Try.f85, Option.getD_some, loopsOf, rangesOf, List.nil_append, List.append_nil, List.cons_append, List.getElem?_cons_zero, List.getElem?_cons_succ]
      simp only [go_sem] at h
      obtain ⟨h0, h1, h7, h8, rfl, rfl⟩ := h
      simp [go_sem, h0, h1, h7, h8])
    (fun _ h => by cases h)
  simp only [bodyOf, Go.Proofs.Try.f85, Option.getD_some, loopsOf, rangesOf, List.nil_append, List.append_nil, List.cons_append, List.getElem?_cons_zero, List.getElem?_cons_succ] at hR
  rw [foldE_idx] at hR
  cases hf : xs.findIdx? p <;> simp [go_sem, hf] at hR <;> simp [go_sem, hR]

theorem f20_spec (xs : List Int) (g : Nat) (caps : List AV) (p : Int → Bool) (hc : AV.pureL caps = true) (hl : xs.length < 1000000000)
    (hg : ∀ x ∈ xs, callS ev fs g (zI x :: caps) [] [] = some (.ret (zB (p x)), [])) (Y : List YF) :
    callS ev fs 20 [zInts xs, .fn g caps] [] Y = some (.ret (zB (xs.any p)), []) := by
  refine callS_by f20_eq rfl ?_
  simp only [bodyOf, Go.Proofs.Try.f20, Option.getD_some]
  have h := f85_spec xs g caps p hc hl hg []
  simp only [go_sem] at h
  have hm : xs.any p = (xs.findIdx? p).isSome := by rw [List.findIdx?_isSome]
  rw [hm]
  cases hf : xs.findIdx? p <;> simp [go_sem, hf] at h <;> simp [go_sem, h, hc]

theorem f21_spec (n : Int) (Y : List YF) : callS ev fs 21 [zI n] [] Y = some (.ret (zB (decide (100 < n) && decide (n < 4096))), []) := by
  refine callS_by f21_eq rfl ?_
  simp only [bodyOf, Go.Proofs.Try.f21, Option.getD_some]
  by_cases h1 : 100 < n
  · by_cases h2 : n < 4096 <;> simp [go_sem, h1, h2]
  · simp [go_sem, h1]

def badSize (n : Int) : Bool := decide (n < 1) || decide (4096 < n)
theorem f176_spec (n : Int) (Y : List YF) : callS ev fs 176 [zI n] [] Y = some (.ret (zB (badSize n)), []) := by
  refine callS_by f176_eq rfl ?_
  simp only [bodyOf, Go.Proofs.Try.f176, Option.getD_some]
  by_cases h1 : n < 1
  · simp [go_sem, h1, badSize]
  · by_cases h2 : 4096 < n <;> simp [go_sem, h1, h2, badSize]

def mSizes (xs : List Int) : Int := if xs.length < 1 ∨ xs.length > 8 then 6 else if xs.any badSize then 2 else 0
theorem mSizes_many {xs : List Int} (h : xs.length < 1 ∨ 8 < xs.length) : mSizes xs = 6 := if_pos h
theorem mSizes_fit {xs : List Int} (h1 : ¬ xs.length < 1) (h2 : ¬ 8 < xs.length) : mSizes xs = if xs.any badSize then 2 else 0 := if_neg (by omega)

theorem f88_spec (xs : List Int) (Y : List YF) : callS ev fs 88 [zInts xs] [] Y = some (.ret (zI (mSizes xs)), []) := by
  refine callS_by f88_eq rfl ?_
  simp only [bodyOf, Go.Proofs.Try.f88, Option.getD_some]
  by_cases h1 : xs.length < 1
  · simp [go_sem, h1, mSizes_many (.inl h1)]
  by_cases h2 : 8 < xs.length
  · simp [go_sem, h1, h2, mSizes_many (.inr h2)]
  have h := f20_spec xs 176 [] badSize rfl (by omega) (fun x _ => f176_spec x []) []
  simp only [go_sem] at h
  rw [mSizes_fit h1 h2]
  cases hb : xs.any badSize <;> rw [hb] at h <;> simp [go_sem, h1, h2, h]

theorem f91_spec (xs : List Int) (Y : List YF) : callS ev fs 91 [zInts xs] [] Y = some (.ret (zI (mSizes xs)), []) := by
  refine callS_by f91_eq rfl ?_
  simp only [bodyOf, Go.Proofs.Try.f91, Option.getD_some]
  by_cases h1 : xs.length < 1
  · simp [go_sem, h1, mSizes_many (.inl h1)]
  by_cases h2 : 8 < xs.length
  · simp [go_sem, h1, h2, mSizes_many (.inr h2)]
  obtain ⟨R, hR⟩ := fold_loop (E := ev) (C := callS ev fs) (Y := Y) (w := {}) (a := (loopsOf (bodyOf Go.Proofs.Try.f91))[0]?.getD .skip) (b := 0) 
    xs (fun _ (_ : Unit) x => if badSize x = true then .inr () else .inl ()) () (ex := fun _ => .ret)
    (fun i _ => Live [(0, zInts xs), (3, zI i)] [] 0) (fun _ => Live [] [] 0) (fun _ => Live [(2, zI 2)] [] 0)
    (fun i s st hi h => by
      obtain ⟨tm, H, b⟩ := st
      simp only [bodyOf, Go.Proofs.Try.f91, Option.getD_some, loopsOf, rangesOf, List.nil_append, List.append_nil, List.cons_append, List.getElem?_cons_zero, List.getElem?_cons_succ]
      simp only [go_sem] at h
      obtain ⟨h0, h3, rfl, rfl⟩ := h
      by_cases hp : xs[i] < 1
      · simp [go_sem, h0, h3, hi, hp, badSize]
      · by_cases hq : 4096 < xs[i] <;> simp [go_sem, h0, h3, hi, hp, hq, badSize, show i < 1000000000 by omega])
    (fun s st h => by
      obtain ⟨tm, H, b⟩ := st
      simp only [bodyOf, Go.Proofs.Try.f91, Option.getD_some, loopsOf, rangesOf, List.nil_append, List.append_nil, List.cons_append, List.getElem?_cons_zero, List.getElem?_cons_succ]
      simp only [go_sem] at h
      obtain ⟨h0, h3, rfl, rfl⟩ := h
      simp [go_sem, h0, h3])
    (fun _ h => by cases h)
  simp only [bodyOf, Go.Proofs.Try.f91, Option.getD_some, loopsOf, rangesOf, List.nil_append, List.append_nil, List.cons_append, List.getElem?_cons_zero, List.getElem?_cons_succ] at hR
  rw [foldE_any] at hR
  rw [mSizes_fit h1 h2]
  generalize xs.any badSize = r at hR ⊢
  cases r <;> simp [go_sem] at hR <;> simp [go_sem, h1, h2, hR]
end Go.Proofs.Ytlphdiccffnckaa

