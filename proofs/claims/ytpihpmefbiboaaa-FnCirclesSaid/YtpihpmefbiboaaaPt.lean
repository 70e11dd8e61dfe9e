/-
The 64 phasors of 64ths of turns as words, and 64 times their angles: by reckoning. Plain, no program in sight. Conditions: none.
-/
import Derived.Test.YtpihpmefbiboaaaCi
namespace Fl
open Ieee Go

def PT : List (Nat × Nat) := [(1065353216, 0), (1065272429, 1036565814), (1065030846, 1044891074), (1064630795, 1049927729), (1064076126, 1053028117), (1063372184, 1056004842), (1062525745, 1057896922), (1061544963, 1059219353), (1060439283, 1060439283), (1059219353, 1061544963), (1057896922, 1062525745), (1056004842, 1063372184), (1053028117, 1064076126), (1049927729, 1064630795), (1044891074, 1065030846), (1036565814, 1065272429), (0, 1065353216), (3184049462, 1065272429), (3192374722, 1065030846), (3197411377, 1064630795), (3200511765, 1064076126), (3203488490, 1063372184), (3205380570, 1062525745), (3206703001, 1061544963), (3207922931, 1060439283), (3209028611, 1059219353), (3210009393, 1057896922), (3210855832, 1056004842), (3211559774, 1053028117), (3212114443, 1049927729), (3212514494, 1044891074), (3212756077, 1036565814), (3212836864, 0), (3212756077, 3184049462), (3212514494, 3192374722), (3212114443, 3197411377), (3211559774, 3200511765), (3210855832, 3203488490), (3210009393, 3205380570), (3209028611, 3206703001), (3207922931, 3207922931), (3206703001, 3209028611), (3205380570, 3210009393), (3203488490, 3210855832), (3200511765, 3211559774), (3197411377, 3212114443), (3192374722, 3212514494), (3184049462, 3212756077), (0, 3212836864), (1036565814, 3212756077), (1044891074, 3212514494), (1049927729, 3212114443), (1053028117, 3211559774), (1056004842, 3210855832), (1057896922, 3210009393), (1059219353, 3209028611), (1060439283, 3207922931), (1061544963, 3206703001), (1062525745, 3205380570), (1063372184, 3203488490), (1064076126, 3200511765), (1064630795, 3197411377), (1065030846, 3192374722), (1065272429, 3184049462)]
def pt (c : Nat) : Nat × Nat := PT.getD c (0, 0)
def AN : List Nat := [0, 4607182418800017408, 4611686018427387904, 4613937817704202240, 4616189618054758400, 4617315517961601024, 4618441417868443648, 4619567317775286272, 4620693217682128896, 4621256167635550208, 4621819117588971520, 4622382067542392832, 4622945017495814144, 4623507967449235456, 4624070917402656768, 4624633867356078080, 4625196817309499392, 4625478292286210048, 4625759767262920704, 4626041242239631360, 4626322717216342016, 4626604192193052672, 4626885667169763328, 4627167142146473984, 4627448617123184640, 4627730092099895296, 4628011567076605952, 4628293042053316608, 4628574517030027264, 4628855992006737920, 4629137466983448576, 4629418941960159232, 4629700416936869888, 13852790978814935040, 13852509503838224384, 13852228028861513728, 13851946553884803072, 13851665078908092416, 13851383603931381760, 13851102128954671104, 13850820653977960448, 13850539179001249792, 13850257704024539136, 13849976229047828480, 13849694754071117824, 13849413279094407168, 13849131804117696512, 13848850329140985856, 13848568854164275200, 13848005904210853888, 13847442954257432576, 13846880004304011264, 13846317054350589952, 13845754104397168640, 13845191154443747328, 13844628204490326016, 13844065254536904704, 13842939354630062080, 13841813454723219456, 13840687554816376832, 13839561654909534208, 13837309854558978048, 13835058055282163712, 13830554455654793216]
def an (c : Nat) : Nat := AN.getD c 0
def okPt (c : Nat) : Bool := phRe (qt (c : Int)) == (pt c).1 && phIm (qt (c : Int)) == (pt c).2
def okFr (j : Nat) : Bool := fracF (qt ((j : Int) - 256)) == fracF (qt (((j : Int) - 256) % 64))
def okAn (c : Nat) : Bool := okA1 (pt c) && an64 (pt c) == an c
def okTu (j : Nat) : Bool := okA2 (an (((j : Int) - 128) % 64).toNat) ((j : Int) - 128)
theorem aPt0 : ((List.range 16).all fun d => okPt (0 + d)) = true := by decide +kernel
theorem aPt1 : ((List.range 16).all fun d => okPt (16 + d)) = true := by decide +kernel
theorem aPt2 : ((List.range 16).all fun d => okPt (32 + d)) = true := by decide +kernel
theorem aPt3 : ((List.range 16).all fun d => okPt (48 + d)) = true := by decide +kernel
theorem aPt_at {c : Nat} (h : c < 64) : okPt c = true := by
  by_cases h0 : c < 16
  · have e := List.all_eq_true.1 aPt0 (c - 0) (List.mem_range.2 (by omega))
    rwa [show 0 + (c - 0) = c by omega] at e
  by_cases h1 : c < 32
  · have e := List.all_eq_true.1 aPt1 (c - 16) (List.mem_range.2 (by omega))
    rwa [show 16 + (c - 16) = c by omega] at e
  by_cases h2 : c < 48
  · have e := List.all_eq_true.1 aPt2 (c - 32) (List.mem_range.2 (by omega))
    rwa [show 32 + (c - 32) = c by omega] at e
  have e := List.all_eq_true.1 aPt3 (c - 48) (List.mem_range.2 (by omega))
  rwa [show 48 + (c - 48) = c by omega] at e
theorem aFr0 : ((List.range 128).all fun d => okFr (0 + d)) = true := by decide +kernel
theorem aFr1 : ((List.range 128).all fun d => okFr (128 + d)) = true := by decide +kernel
theorem aFr2 : ((List.range 128).all fun d => okFr (256 + d)) = true := by decide +kernel
theorem aFr3 : ((List.range 128).all fun d => okFr (384 + d)) = true := by decide +kernel
theorem aFr_at {c : Nat} (h : c < 512) : okFr c = true := by
  by_cases h0 : c < 128
  · have e := List.all_eq_true.1 aFr0 (c - 0) (List.mem_range.2 (by omega))
    rwa [show 0 + (c - 0) = c by omega] at e
  by_cases h1 : c < 256
  · have e := List.all_eq_true.1 aFr1 (c - 128) (List.mem_range.2 (by omega))
    rwa [show 128 + (c - 128) = c by omega] at e
  by_cases h2 : c < 384
  · have e := List.all_eq_true.1 aFr2 (c - 256) (List.mem_range.2 (by omega))
    rwa [show 256 + (c - 256) = c by omega] at e
  have e := List.all_eq_true.1 aFr3 (c - 384) (List.mem_range.2 (by omega))
  rwa [show 384 + (c - 384) = c by omega] at e
theorem aAn0 : ((List.range 16).all fun d => okAn (0 + d)) = true := by decide +kernel
theorem aAn1 : ((List.range 16).all fun d => okAn (16 + d)) = true := by decide +kernel
theorem aAn2 : ((List.range 16).all fun d => okAn (32 + d)) = true := by decide +kernel
theorem aAn3 : ((List.range 16).all fun d => okAn (48 + d)) = true := by decide +kernel
theorem aAn_at {c : Nat} (h : c < 64) : okAn c = true := by
  by_cases h0 : c < 16
  · have e := List.all_eq_true.1 aAn0 (c - 0) (List.mem_range.2 (by omega))
    rwa [show 0 + (c - 0) = c by omega] at e
  by_cases h1 : c < 32
  · have e := List.all_eq_true.1 aAn1 (c - 16) (List.mem_range.2 (by omega))
    rwa [show 16 + (c - 16) = c by omega] at e
  by_cases h2 : c < 48
  · have e := List.all_eq_true.1 aAn2 (c - 32) (List.mem_range.2 (by omega))
    rwa [show 32 + (c - 32) = c by omega] at e
  have e := List.all_eq_true.1 aAn3 (c - 48) (List.mem_range.2 (by omega))
  rwa [show 48 + (c - 48) = c by omega] at e
theorem aTu0 : ((List.range 128).all fun d => okTu (0 + d)) = true := by decide +kernel
theorem aTu1 : ((List.range 128).all fun d => okTu (128 + d)) = true := by decide +kernel
theorem aTu_at {c : Nat} (h : c < 256) : okTu c = true := by
  by_cases h0 : c < 128
  · have e := List.all_eq_true.1 aTu0 (c - 0) (List.mem_range.2 (by omega))
    rwa [show 0 + (c - 0) = c by omega] at e
  have e := List.all_eq_true.1 aTu1 (c - 128) (List.mem_range.2 (by omega))
  rwa [show 128 + (c - 128) = c by omega] at e
/-! ### two phasors -/
def okPr (c d : Nat) : Bool := okAB (pt c) (pt d) (pt ((c + d) % 64))
def okRw (c : Nat) : Bool := (List.range (c + 1)).all fun d => okPr c d
theorem aZe : (okA3 (pt 0) && okA3 (pt 16) && okA3 (pt 32) && okA3 (pt 48)) = true := by decide +kernel
end Fl
