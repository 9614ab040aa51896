/- Calls with slices, run once. No condition. -/
import Derived.Test.YtcgohilnkdnmoaaGreatZN
set_option linter.unusedVariables false
set_option linter.unusedSimpArgs false
namespace Go.Proofs.YtcgohilnkdnmoaaGreat
open Go Go.Ab Go.Proofs
noncomputable section
def winE : List (List MA × MR) := [([.s .i64 40 0, .i (.int .i64 16)], .sc (.bool true)),
  ([.s .i64 5 0, .i (.int .i64 128)], .sc (.bool true)),
  ([.s .i64 10 0xffffffffffffffd6400000000000001b3000000000000008940000000000000056000000000000004b00000000000000396ffffffffffffffdd3fffffffffffffe5c000000000000004d3ffffffffffffff43, .i (.int .i64 131072)], .sc (.bool true))]
def pcmE : List (List MA × MR) := [([.s .i64 80 0], .bl .i64 80 0 none)]
def skE : List (List MA × MR) := [([.i (.int .i64 0)], .sc (.int .i64 0))]
def ekE : List (List MA × MR) := [([.i (.int .i64 0)], .sc (.int .i64 0))]
def mkE : List (List MA × MR) := [([.i (.int .i64 0)], .sc (.int .i64 0))]
def mgE : List (List MA × MR) := [([.i (.int .i64 80), .i (.int .i64 20)], .sc (.bool true)),
  ([.i (.int .i64 20), .i (.int .i64 20)], .sc (.bool true)),
  ([.i (.int .i64 160), .i (.int .i64 20)], .sc (.bool true)),
  ([.i (.int .i64 40), .i (.int .i64 20)], .sc (.bool true)),
  ([.i (.int .i64 160), .i (.int .i64 40)], .sc (.bool true)),
  ([.i (.int .i64 40), .i (.int .i64 40)], .sc (.bool true)),
  ([.i (.int .i64 320), .i (.int .i64 40)], .sc (.bool true)),
  ([.i (.int .i64 80), .i (.int .i64 40)], .sc (.bool true)),
  ([.i (.int .i64 240), .i (.int .i64 60)], .sc (.bool true)),
  ([.i (.int .i64 60), .i (.int .i64 60)], .sc (.bool true)),
  ([.i (.int .i64 480), .i (.int .i64 60)], .sc (.bool true)),
  ([.i (.int .i64 120), .i (.int .i64 60)], .sc (.bool true))]
def ordE : List (List MA × MR) := [([.i (.int .i64 8000)], .sc (.int .i64 10)),
  ([.i (.int .i64 16000)], .sc (.int .i64 16))]
def kept_kD (f : FuncId) (l : List (List MA × MR)) : Bool := l.all fun p => memoOk (callK Tryz.prog 100000 SL (hkU hk1) 60) f p.1 p.2
theorem win_run : kept_kD 308 winE = true := by kernel_rfl
theorem pcm_run : kept_kD 270 pcmE = true := by kernel_rfl
theorem sk_run : kept_kD 301 skE = true := by kernel_rfl
theorem ek_run : kept_kD 226 ekE = true := by kernel_rfl
theorem mk_run : kept_kD 51 mkE = true := by kernel_rfl
theorem mg_run : kept_kD 168 mgE = true := by kernel_rfl
theorem ord_run : kept_kD 70 ordE = true := by kernel_rfl
def kDL : List (Nat × List (List MA × MR)) := [(308, winE), (270, pcmE), (301, skE), (226, ekE), (51, mkE), (168, mgE), (70, ordE)]
theorem kDL_ok : ∀ p ∈ kDL, ∀ q ∈ p.2, memoOk (callK Tryz.prog 100000 SL (hkU hk1) 60) p.1 q.1 q.2 = true := fun p hp => by
  unfold kDL at hp
  simp only [List.mem_cons, List.not_mem_nil, or_false] at hp
  rcases hp with rfl | rfl | rfl | rfl | rfl | rfl | rfl
  · exact List.all_eq_true.1 win_run
  · exact List.all_eq_true.1 pcm_run
  · exact List.all_eq_true.1 sk_run
  · exact List.all_eq_true.1 ek_run
  · exact List.all_eq_true.1 mk_run
  · exact List.all_eq_true.1 mg_run
  · exact List.all_eq_true.1 ord_run
def kD (hk : CallI) : CallI := hkX (2 ^ 308 + 2 ^ 270 + 2 ^ 301 + 2 ^ 226 + 2 ^ 51 + 2 ^ 168 + 2 ^ 70) kDL hk
theorem kD_ok {hk : CallI} (h : HkOk Tryz.prog hk) : HkOk Tryz.prog (kD hk) := hkX_ok (calls_ok hk1_ok) kDL_ok h
end
end Go.Proofs.YtcgohilnkdnmoaaGreat
