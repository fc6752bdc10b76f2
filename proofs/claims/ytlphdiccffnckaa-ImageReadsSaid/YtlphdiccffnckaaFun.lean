/- Each function, as it is evaluated. -/
import Derived.Test.YtlphdiccffnckaaTys
import Derived.Test.YtlphdiccffnckaaWor
namespace Go.Proofs.Ytlphdiccffnckaa
open Go Go.Abs

@[go_sem] theorem w0_gh : ({} : Words).gh = [] := rfl
@[go_sem] theorem w0_fl : ({} : Words).fl = [] := rfl
@[go_sem] theorem w0_ad : ({} : Words).adopt = false := rfl
@[go_sem] theorem w24_gh : w24.gh = [(5, .own 5 1)] := rfl
@[go_sem] theorem w24_fl : w24.fl = [(8, 7, .own)] := rfl
@[go_sem] theorem w24_ad : w24.adopt = false := rfl
@[go_sem] theorem w31_gh : w31.gh = [] := rfl
@[go_sem] theorem w31_fl : w31.fl = [(4, 1, .gen), (8, 2, .gen)] := rfl
@[go_sem] theorem w31_ad : w31.adopt = false := rfl
@[go_sem] theorem w32_gh : w32.gh = [] := rfl
@[go_sem] theorem w32_fl : w32.fl = [(4, 1, .gen)] := rfl
@[go_sem] theorem w32_ad : w32.adopt = false := rfl
@[go_sem] theorem w33_gh : w33.gh = [(2, .own 3 1)] := rfl
@[go_sem] theorem w33_fl : w33.fl = [(6, 6, .own), (6, 7, .own), (6, 8, .own)] := rfl
@[go_sem] theorem w33_ad : w33.adopt = true := rfl
@[go_sem] theorem w34_gh : w34.gh = [(5, .own 7 1)] := rfl
@[go_sem] theorem w34_fl : w34.fl = [(8, 11, .own)] := rfl
@[go_sem] theorem w34_ad : w34.adopt = false := rfl
@[go_sem] theorem w36_gh : w36.gh = [] := rfl
@[go_sem] theorem w36_fl : w36.fl = [(9, 9, .cln)] := rfl
@[go_sem] theorem w36_ad : w36.adopt = false := rfl
@[go_sem] theorem w39_gh : w39.gh = [(5, .own 7 1)] := rfl
@[go_sem] theorem w39_fl : w39.fl = [(8, 11, .own)] := rfl
@[go_sem] theorem w39_ad : w39.adopt = false := rfl
@[go_sem] theorem w40_gh : w40.gh = [(5, .own 8 3)] := rfl
@[go_sem] theorem w40_fl : w40.fl = [(8, 3, .gen), (8, 4, .own)] := rfl
@[go_sem] theorem w40_ad : w40.adopt = false := rfl
@[go_sem] theorem w41_gh : w41.gh = [(5, .own 8 3)] := rfl
@[go_sem] theorem w41_fl : w41.fl = [(14, 7, .own)] := rfl
@[go_sem] theorem w41_ad : w41.adopt = false := rfl
@[go_sem] theorem w51_gh : w51.gh = [(2, .own 3 1)] := rfl
@[go_sem] theorem w51_fl : w51.fl = [(5, 7, .own)] := rfl
@[go_sem] theorem w51_ad : w51.adopt = false := rfl
@[go_sem] theorem w65_gh : w65.gh = [(5, .ownAt 5 0 1)] := rfl
@[go_sem] theorem w65_fl : w65.fl = [(5, 2, .gen), (9, 5, .own)] := rfl
@[go_sem] theorem w65_ad : w65.adopt = false := rfl
@[go_sem] theorem w67_gh : w67.gh = [(9, .frz 8), (11, .own 9 8), (11, .own 10 1)] := rfl
@[go_sem] theorem w67_fl : w67.fl = [(14, 2, .cln), (16, 2, .own), (16, 3, .own), (17, 3, .own), (18, 3, .own)] := rfl
@[go_sem] theorem w67_ad : w67.adopt = false := rfl
@[go_sem] theorem w72_gh : w72.gh = [] := rfl
@[go_sem] theorem w72_fl : w72.fl = [(5, 4, .gen), (6, 5, .gen)] := rfl
@[go_sem] theorem w72_ad : w72.adopt = false := rfl
@[go_sem] theorem w73_gh : w73.gh = [(5, .own 9 1), (13, .freeze 11)] := rfl
@[go_sem] theorem w73_fl : w73.fl = [(8, 5, .own)] := rfl
@[go_sem] theorem w73_ad : w73.adopt = false := rfl
@[go_sem] theorem w75_gh : w75.gh = [] := rfl
@[go_sem] theorem w75_fl : w75.fl = [(4, 1, .gen)] := rfl
@[go_sem] theorem w75_ad : w75.adopt = false := rfl
@[go_sem] theorem w89_gh : w89.gh = [] := rfl
@[go_sem] theorem w89_fl : w89.fl = [(1, 2, .own), (5, 5, .own)] := rfl
@[go_sem] theorem w89_ad : w89.adopt = false := rfl
@[go_sem] theorem w98_gh : w98.gh = [] := rfl
@[go_sem] theorem w98_fl : w98.fl = [(1, 1, .gen)] := rfl
@[go_sem] theorem w98_ad : w98.adopt = true := rfl
@[go_sem] theorem w100_gh : w100.gh = [(2, .ownAt 5 0 2)] := rfl
@[go_sem] theorem w100_fl : w100.fl = [(3, 2, .gen), (7, 4, .own)] := rfl
@[go_sem] theorem w100_ad : w100.adopt = false := rfl
@[go_sem] theorem w103_gh : w103.gh = [] := rfl
@[go_sem] theorem w103_fl : w103.fl = [(3, 0, .own), (3, 2, .own)] := rfl
@[go_sem] theorem w103_ad : w103.adopt = true := rfl
@[go_sem] theorem w105_gh : w105.gh = [(2, .own 5 2)] := rfl
@[go_sem] theorem w105_fl : w105.fl = [(9, 4, .own)] := rfl
@[go_sem] theorem w105_ad : w105.adopt = false := rfl
@[go_sem] theorem w106_gh : w106.gh = [] := rfl
@[go_sem] theorem w106_fl : w106.fl = [(1, 2, .own), (5, 3, .gen), (5, 5, .own)] := rfl
@[go_sem] theorem w106_ad : w106.adopt = false := rfl
@[go_sem] theorem w116_gh : w116.gh = [] := rfl
@[go_sem] theorem w116_fl : w116.fl = [(1, 1, .gen)] := rfl
@[go_sem] theorem w116_ad : w116.adopt = false := rfl
@[go_sem] theorem w117_gh : w117.gh = [] := rfl
@[go_sem] theorem w117_fl : w117.fl = [(7, 1, .lend)] := rfl
@[go_sem] theorem w117_ad : w117.adopt = false := rfl
@[go_sem] theorem w119_gh : w119.gh = [(2, .own 5 1)] := rfl
@[go_sem] theorem w119_fl : w119.fl = [(5, 7, .own), (9, 7, .own), (10, 1, .lend)] := rfl
@[go_sem] theorem w119_ad : w119.adopt = false := rfl
@[go_sem] theorem w141_gh : w141.gh = [] := rfl
@[go_sem] theorem w141_fl : w141.fl = [(3, 0, .own), (3, 2, .own)] := rfl
@[go_sem] theorem w141_ad : w141.adopt = true := rfl
@[go_sem] theorem w148_gh : w148.gh = [] := rfl
@[go_sem] theorem w148_fl : w148.fl = [(1, 0, .own), (5, 7, .own)] := rfl
@[go_sem] theorem w148_ad : w148.adopt = false := rfl
@[go_sem] theorem w156_gh : w156.gh = [] := rfl
@[go_sem] theorem w156_fl : w156.fl = [] := rfl
@[go_sem] theorem w156_ad : w156.adopt = true := rfl
@[go_sem] theorem w162_gh : w162.gh = [(2, .own 9 1), (3, .cut [0, 1, 2, 3, 9, 13, 14, 15] 1), (6, .own 11 8), (11, .freeze 11)] := rfl
@[go_sem] theorem w162_fl : w162.fl = [(9, 23, .gen)] := rfl
@[go_sem] theorem w162_ad : w162.adopt = false := rfl
@[go_sem] theorem w166_gh : w166.gh = [(2, .own 3 2)] := rfl
@[go_sem] theorem w166_fl : w166.fl = [] := rfl
@[go_sem] theorem w166_ad : w166.adopt = false := rfl
@[go_sem] theorem w177_gh : w177.gh = [] := rfl
@[go_sem] theorem w177_fl : w177.fl = [(1, 2, .own), (5, 5, .own)] := rfl
@[go_sem] theorem w177_ad : w177.adopt = false := rfl
@[go_sem] theorem w180_gh : w180.gh = [] := rfl
@[go_sem] theorem w180_fl : w180.fl = [(1, 2, .own), (5, 3, .gen), (5, 4, .own), (5, 5, .own)] := rfl
@[go_sem] theorem w180_ad : w180.adopt = true := rfl
@[go_sem] theorem w181_gh : w181.gh = [] := rfl
@[go_sem] theorem w181_fl : w181.fl = [] := rfl
@[go_sem] theorem w181_ad : w181.adopt = true := rfl
@[go_sem] theorem w195_gh : w195.gh = [] := rfl
@[go_sem] theorem w195_fl : w195.fl = [(1, 1, .gen)] := rfl
@[go_sem] theorem w195_ad : w195.adopt = false := rfl
@[go_sem] theorem w197_gh : w197.gh = [(2, .own 3 1)] := rfl
@[go_sem] theorem w197_fl : w197.fl = [(8, 8, .own)] := rfl
@[go_sem] theorem w197_ad : w197.adopt = false := rfl
@[go_sem] theorem w224_gh : w224.gh = [] := rfl
@[go_sem] theorem w224_fl : w224.fl = [(3, 0, .own), (3, 2, .own)] := rfl
@[go_sem] theorem w224_ad : w224.adopt = true := rfl
theorem f3_eq : fs 3 = some (mkFn {} Go.Proofs.Try.f3 (bodyOf Go.Proofs.Try.f3)) := by kernel_rfl
theorem f4_eq : fs 4 = some (mkFn {} Go.Proofs.Try.f4 (bodyOf Go.Proofs.Try.f4)) := by kernel_rfl
theorem f5_eq : fs 5 = some (mkFn {} Go.Proofs.Try.f5 (bodyOf Go.Proofs.Try.f5)) := by kernel_rfl
theorem f6_eq : fs 6 = some (mkFn {} Go.Proofs.Try.f6 (bodyOf Go.Proofs.Try.f6)) := by kernel_rfl
theorem f7_eq : fs 7 = some (mkFn {} Go.Proofs.Try.f7 (bodyOf Go.Proofs.Try.f7)) := by kernel_rfl
theorem f8_eq : fs 8 = some (mkFn {} Go.Proofs.Try.f8 (bodyOf Go.Proofs.Try.f8)) := by kernel_rfl
theorem f10_eq : fs 10 = some (mkFn {} Go.Proofs.Try.f10 (bodyOf Go.Proofs.Try.f10)) := by kernel_rfl
theorem f11_eq : fs 11 = some (mkFn {} Go.Proofs.Try.f11 (bodyOf Go.Proofs.Try.f11)) := by kernel_rfl
theorem f19_eq : fs 19 = some (mkFn {} Go.Proofs.Try.f19 (bodyOf Go.Proofs.Try.f19)) := by kernel_rfl
theorem f20_eq : fs 20 = some (mkFn {} Go.Proofs.Try.f20 (bodyOf Go.Proofs.Try.f20)) := by kernel_rfl
theorem f21_eq : fs 21 = some (mkFn {} Go.Proofs.Try.f21 (bodyOf Go.Proofs.Try.f21)) := by kernel_rfl
theorem f23_eq : fs 23 = some (mkFn {} Go.Proofs.Try.f23 (bodyOf Go.Proofs.Try.f23)) := by kernel_rfl
theorem f24_eq : fs 24 = some (mkFn w24 Go.Proofs.Try.f24 (bodyOf Go.Proofs.Try.f24)) := by kernel_rfl
theorem f25_eq : fs 25 = some (mkFn {} Go.Proofs.Try.f25 (bodyOf Go.Proofs.Try.f25)) := by kernel_rfl
theorem f26_eq : fs 26 = some (mkFn {} Go.Proofs.Try.f26 (bodyOf Go.Proofs.Try.f26)) := by kernel_rfl
theorem f27_eq : fs 27 = some (mkFn {} Go.Proofs.Try.f27 (bodyOf Go.Proofs.Try.f27)) := by kernel_rfl
theorem f28_eq : fs 28 = some (mkFn {} Go.Proofs.Try.f28 (bodyOf Go.Proofs.Try.f28)) := by kernel_rfl
theorem f29_eq : fs 29 = some (mkFn {} Go.Proofs.Try.f29 (bodyOf Go.Proofs.Try.f29)) := by kernel_rfl
theorem f30_eq : fs 30 = some (mkFn {} Go.Proofs.Try.f30 (bodyOf Go.Proofs.Try.f30)) := by kernel_rfl
theorem f31_eq : fs 31 = some (mkFn w31 Go.Proofs.Try.f31 (bodyOf Go.Proofs.Try.f31)) := by kernel_rfl
theorem f32_eq : fs 32 = some (mkFn w32 Go.Proofs.Try.f32 (bodyOf Go.Proofs.Try.f32)) := by kernel_rfl
theorem f33_eq : fs 33 = some (mkFn w33 Go.Proofs.Try.f33 (bodyOf Go.Proofs.Try.f33)) := by kernel_rfl
theorem f34_eq : fs 34 = some (mkFn w34 Go.Proofs.Try.f34 (bodyOf Go.Proofs.Try.f34)) := by kernel_rfl
theorem f35_eq : fs 35 = some (mkFn {} Go.Proofs.Try.f35 (bodyOf Go.Proofs.Try.f35)) := by kernel_rfl
theorem f36_eq : fs 36 = some (mkFn w36 Go.Proofs.Try.f36 (bodyOf Go.Proofs.Try.f36)) := by kernel_rfl
theorem f37_eq : fs 37 = some (mkFn {} Go.Proofs.Try.f37 (bodyOf Go.Proofs.Try.f37)) := by kernel_rfl
theorem f38_eq : fs 38 = some (mkFn {} Go.Proofs.Try.f38 (bodyOf Go.Proofs.Try.f38)) := by kernel_rfl
theorem f39_eq : fs 39 = some (mkFn w39 Go.Proofs.Try.f39 (bodyOf Go.Proofs.Try.f39)) := by kernel_rfl
theorem f40_eq : fs 40 = some (mkFn w40 Go.Proofs.Try.f40 (bodyOf Go.Proofs.Try.f40)) := by kernel_rfl
theorem f41_eq : fs 41 = some (mkFn w41 Go.Proofs.Try.f41 (bodyOf Go.Proofs.Try.f41)) := by kernel_rfl
theorem f42_eq : fs 42 = some (mkFn {} Go.Proofs.Try.f42 (bodyOf Go.Proofs.Try.f42)) := by kernel_rfl
theorem f50_eq : fs 50 = some (mkFn {} Go.Proofs.Try.f50 (bodyOf Go.Proofs.Try.f50)) := by kernel_rfl
theorem f51_eq : fs 51 = some (mkFn w51 Go.Proofs.Try.f51 (bodyOf Go.Proofs.Try.f51)) := by kernel_rfl
theorem f85_eq : fs 85 = some (mkFn {} Go.Proofs.Try.f85 (bodyOf Go.Proofs.Try.f85)) := by kernel_rfl
theorem f86_eq : fs 86 = some (mkFn {} Go.Proofs.Try.f86 (bodyOf Go.Proofs.Try.f86)) := by kernel_rfl
theorem f87_eq : fs 87 = some (mkFn {} Go.Proofs.Try.f87 (bodyOf Go.Proofs.Try.f87)) := by kernel_rfl
theorem f88_eq : fs 88 = some (mkFn {} Go.Proofs.Try.f88 (bodyOf Go.Proofs.Try.f88)) := by kernel_rfl
theorem f89_eq : fs 89 = some (mkFn w89 Go.Proofs.Try.f89 (bodyOf Go.Proofs.Try.f89)) := by kernel_rfl
theorem f90_eq : fs 90 = some (mkFn {} Go.Proofs.Try.f90 (bodyOf Go.Proofs.Try.f90)) := by kernel_rfl
theorem f91_eq : fs 91 = some (mkFn {} Go.Proofs.Try.f91 (bodyOf Go.Proofs.Try.f91)) := by kernel_rfl
theorem f92_eq : fs 92 = some (mkFn {} Go.Proofs.Try.f92 (bodyOf Go.Proofs.Try.f92)) := by kernel_rfl
theorem f93_eq : fs 93 = some (mkFn {} Go.Proofs.Try.f93 (bodyOf Go.Proofs.Try.f93)) := by kernel_rfl
theorem f94_eq : fs 94 = some (mkFn {} Go.Proofs.Try.f94 (bodyOf Go.Proofs.Try.f94)) := by kernel_rfl
theorem f95_eq : fs 95 = some (mkFn {} Go.Proofs.Try.f95 (bodyOf Go.Proofs.Try.f95)) := by kernel_rfl
theorem f96_eq : fs 96 = some (mkFn {} Go.Proofs.Try.f96 (bodyOf Go.Proofs.Try.f96)) := by kernel_rfl
theorem f97_eq : fs 97 = some (mkFn {} Go.Proofs.Try.f97 (bodyOf Go.Proofs.Try.f97)) := by kernel_rfl
theorem f98_eq : fs 98 = some (mkFn w98 Go.Proofs.Try.f98 (bodyOf Go.Proofs.Try.f98)) := by kernel_rfl
theorem f99_eq : fs 99 = some (mkFn {} Go.Proofs.Try.f99 (bodyOf Go.Proofs.Try.f99)) := by kernel_rfl
theorem f100_eq : fs 100 = some (mkFn w100 Go.Proofs.Try.f100 (bodyOf Go.Proofs.Try.f100)) := by kernel_rfl
theorem f101_eq : fs 101 = some (mkFn {} Go.Proofs.Try.f101 (bodyOf Go.Proofs.Try.f101)) := by kernel_rfl
theorem f102_eq : fs 102 = some (mkFn {} Go.Proofs.Try.f102 (bodyOf Go.Proofs.Try.f102)) := by kernel_rfl
theorem f103_eq : fs 103 = some (mkFn w103 Go.Proofs.Try.f103 (bodyOf Go.Proofs.Try.f103)) := by kernel_rfl
theorem f104_eq : fs 104 = some (mkFn {} Go.Proofs.Try.f104 (bodyOf Go.Proofs.Try.f104)) := by kernel_rfl
theorem f105_eq : fs 105 = some (mkFn w105 Go.Proofs.Try.f105 (bodyOf Go.Proofs.Try.f105)) := by kernel_rfl
theorem f106_eq : fs 106 = some (mkFn w106 Go.Proofs.Try.f106 (bodyOf Go.Proofs.Try.f106)) := by kernel_rfl
theorem f107_eq : fs 107 = some (mkFn {} Go.Proofs.Try.f107 (bodyOf Go.Proofs.Try.f107)) := by kernel_rfl
theorem f108_eq : fs 108 = some (mkFn {} Go.Proofs.Try.f108 (bodyOf Go.Proofs.Try.f108)) := by kernel_rfl
theorem f109_eq : fs 109 = some (mkFn {} Go.Proofs.Try.f109 (bodyOf Go.Proofs.Try.f109)) := by kernel_rfl
theorem f176_eq : fs 176 = some (mkFn {} Go.Proofs.Try.f176 (bodyOf Go.Proofs.Try.f176)) := by kernel_rfl
theorem f177_eq : fs 177 = some (mkFn w177 Go.Proofs.Try.f177 (bodyOf Go.Proofs.Try.f177)) := by kernel_rfl
theorem f178_eq : fs 178 = some (mkFn {} Go.Proofs.Try.f178 (bodyOf Go.Proofs.Try.f178)) := by kernel_rfl
theorem f179_eq : fs 179 = some (mkFn {} Go.Proofs.Try.f179 (bodyOf Go.Proofs.Try.f179)) := by kernel_rfl
theorem f180_eq : fs 180 = some (mkFn w180 Go.Proofs.Try.f180 (bodyOf Go.Proofs.Try.f180)) := by kernel_rfl
theorem f181_eq : fs 181 = some (mkFn w181 Go.Proofs.Try.f181 (bodyOf Go.Proofs.Try.f181)) := by kernel_rfl
theorem f223_eq : fs 223 = some (mkFn {} Go.Proofs.Try.f223 (bodyOf Go.Proofs.Try.f223)) := by kernel_rfl
theorem f52_eq : fs 52 = some (mkFn {} Go.Proofs.Try.f52 (bodyOf Go.Proofs.Try.f52)) := by kernel_rfl
theorem f53_eq : fs 53 = some (mkFn {} Go.Proofs.Try.f53 (bodyOf Go.Proofs.Try.f53)) := by kernel_rfl
theorem f116_eq : fs 116 = some (mkFn w116 Go.Proofs.Try.f116 (bodyOf Go.Proofs.Try.f116)) := by kernel_rfl
theorem f117_eq : fs 117 = some (mkFn w117 Go.Proofs.Try.f117 (bodyOf Go.Proofs.Try.f117)) := by kernel_rfl
theorem f118_eq : fs 118 = some (mkFn {} Go.Proofs.Try.f118 (bodyOf Go.Proofs.Try.f118)) := by kernel_rfl
theorem f119_eq : fs 119 = some (mkFn w119 Go.Proofs.Try.f119 (bodyOf Go.Proofs.Try.f119)) := by kernel_rfl
theorem f193_eq : fs 193 = some (mkFn {} Go.Proofs.Try.f193 (bodyOf Go.Proofs.Try.f193)) := by kernel_rfl
theorem f194_eq : fs 194 = some (mkFn {} Go.Proofs.Try.f194 (bodyOf Go.Proofs.Try.f194)) := by kernel_rfl
theorem f195_eq : fs 195 = some (mkFn w195 Go.Proofs.Try.f195 (bodyOf Go.Proofs.Try.f195)) := by kernel_rfl
theorem f196_eq : fs 196 = some (mkFn {} Go.Proofs.Try.f196 (bodyOf Go.Proofs.Try.f196)) := by kernel_rfl
theorem f197_eq : fs 197 = some (mkFn w197 Go.Proofs.Try.f197 (bodyOf Go.Proofs.Try.f197)) := by kernel_rfl
theorem f233_eq : fs 233 = some (mkFn {} Go.Proofs.Try.f233 (bodyOf Go.Proofs.Try.f233)) := by kernel_rfl
end Go.Proofs.Ytlphdiccffnckaa
