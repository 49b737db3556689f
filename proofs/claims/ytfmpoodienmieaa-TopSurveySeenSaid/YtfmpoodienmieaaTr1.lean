/- The code of functions of the program as plain terms (printed by tree.py), each compared with the code by the kernel. -/
import Derived.Test.YtfmpoodienmieaaAm38
import Derived.Test.YtfmpoodienmieaaProg
import Derived.KernelRfl
set_option linter.unusedVariables false
namespace Go.AM.W
open Go Go.AM

noncomputable abbrev P : Program := Go.Proofs.Try.prog
abbrev f_main_main : FuncId := 0
abbrev f_gosem_cut : FuncId := 1
abbrev f_gosem_cut_init : FuncId := 2
abbrev f_top_TopSurveySeen : FuncId := 3
abbrev f_top_surveyShown : FuncId := 4
abbrev f_base_Within : FuncId := 5
abbrev f_ref04_SceneErr : FuncId := 6
abbrev f_sonar_StatesOf : FuncId := 7
abbrev f_survey_GapsIn : FuncId := 8
abbrev f_base_CopyRanges : FuncId := 9
abbrev f_base_Ranges : FuncId := 10
abbrev f_survey_SpansIn : FuncId := 11
abbrev f_law09_Stations : FuncId := 12
abbrev f_survey_ChangesOf : FuncId := 13
abbrev f_law09_First : FuncId := 14
abbrev f_law09_Second : FuncId := 15
abbrev f_ref04_CheckScene : FuncId := 16
abbrev f_sonar_sceneErr : FuncId := 17
abbrev f_sonar_states : FuncId := 18
abbrev f_survey_GapsIn_1 : FuncId := 19
abbrev f_survey_first : FuncId := 20
abbrev f_survey_unless : FuncId := 21
abbrev f_survey_span_isWithin : FuncId := 22
abbrev f_survey_span_isOrdered : FuncId := 23
abbrev f_survey_each_api_Range : FuncId := 24
abbrev f_survey_within : FuncId := 25
abbrev f_survey_runs : FuncId := 26
abbrev f_survey_GapsIn_2 : FuncId := 27
abbrev f_survey_spans : FuncId := 28
abbrev f_survey_SpansIn_1 : FuncId := 29
abbrev f_survey_open : FuncId := 30
abbrev f_survey_surveys_match : FuncId := 31
abbrev f_ref04_gridErr : FuncId := 32
abbrev f_ref04_RayErr : FuncId := 33
abbrev f_sonar_CheckScene : FuncId := 34
abbrev f_slices_Contains_int_int : FuncId := 35
abbrev f_sonar_said : FuncId := 36
abbrev f_survey_pipeErr : FuncId := 37
abbrev f_survey_spans_1 : FuncId := 38
abbrev f_survey_gap : FuncId := 39
abbrev f_survey_featuresErr : FuncId := 40
abbrev f_survey_surveys_next : FuncId := 41
abbrev f_survey_surveys_rest : FuncId := 42
abbrev f_ref04_isCell : FuncId := 43
abbrev f_sonar_gridErr : FuncId := 44
abbrev f_sonar_each_api_SonarRay : FuncId := 45
abbrev f_sonar_CheckScene_1 : FuncId := 46
abbrev f_sonar_rayErr : FuncId := 47
abbrev f_slices_Index_int_int : FuncId := 48
abbrev f_sonar_said_1 : FuncId := 49
abbrev f_sonar_crossed : FuncId := 50
abbrev f_sonar_cell : FuncId := 51
abbrev f_survey_stationsErr : FuncId := 52
abbrev f_survey_span_minus : FuncId := 53
abbrev f_survey_CheckFeatures : FuncId := 54
abbrev f_survey_surveys_cost : FuncId := 55
abbrev f_survey_surveys_distance : FuncId := 56
abbrev f_sonar_gridErr_1 : FuncId := 57
abbrev f_sonar_within : FuncId := 58
abbrev f_sonar_first : FuncId := 59
abbrev f_sonar_unless : FuncId := 60
abbrev f_sonar_isCell : FuncId := 61
abbrev f_sonar_size : FuncId := 62
abbrev f_survey_CheckStations : FuncId := 63
abbrev f_survey_each_api_SurveyFeature : FuncId := 64
abbrev f_survey_CheckFeatures_1 : FuncId := 65
abbrev f_survey_surveys_potentials : FuncId := 66
abbrev f_survey_each_api_SurveyStation : FuncId := 67
abbrev f_survey_CheckStations_1 : FuncId := 68
abbrev f_survey_stationErr : FuncId := 69
abbrev f_survey_isAt : FuncId := 70
abbrev f_survey_span_isSized : FuncId := 71
abbrev f_survey_isSized : FuncId := 72
abbrev f_runtime_boundsError_Error : FuncId := 73
abbrev f_runtime_boundsError_RuntimeError : FuncId := 74
abbrev f_runtime_errorString_Error : FuncId := 75
abbrev f_runtime_errorString_RuntimeError : FuncId := 76
abbrev f_runtime_plainError_Error : FuncId := 77
abbrev f_runtime_plainError_RuntimeError : FuncId := 78
abbrev f_runtime_errorAddressString_Error : FuncId := 79
abbrev f_runtime_errorAddressString_RuntimeError : FuncId := 80
abbrev f_runtime_TypeAssertionError_Error : FuncId := 81
abbrev f_runtime_TypeAssertionError_RuntimeError : FuncId := 82
abbrev f_runtime_PanicNilError_Error : FuncId := 83
abbrev f_runtime_PanicNilError_RuntimeError : FuncId := 84
abbrev f_internal_abi_Type_Align : FuncId := 85
abbrev f_internal_runtime_maps_unhashableTypeError_Error : FuncId := 86
abbrev f_internal_runtime_maps_unhashableTypeError_RuntimeError : FuncId := 87
abbrev f_survey_point_isPart : FuncId := 88
abbrev f_internal_abi_Kind_String : FuncId := 89
theorem t_base_Within (rec : Rec) (σ0 : St) (n0 n1 n2 : Int) : (reS { σ0 with low := σ0.next } fun σ1 =>
 bc (leI n1 n0) (
 retT σ0 (BL (leI n0 n2)) σ1) (
 retT σ0 (BL false) σ1)) = callC P rec 5 [I64 n0, I64 n1, I64 n2] σ0 := by kernel_rfl
theorem t_base_CopyRanges (rec : Rec) (σ0 : St) (a0 : Option Addr) (m0 c0 : Nat) : (reS { σ0 with low := σ0.next } fun σ1 =>
 newZ 2 [] σ1 fun σ2 =>
 appT 2 16 (SL (some ⟨σ1.next, 0, Option.none⟩) 0 1) (SL a0 m0 c0) σ2 fun d3 e4 f5 σ6 =>
 retT σ0 (SL d3 e4 f5) σ6) = callC P rec 9 [SL a0 m0 c0] σ0 := by kernel_rfl
noncomputable def c_base_Ranges_1 : Code := loopC (dn [1, 1, 0, 1, 0] (bodyOf P 10))
noncomputable def k_base_Ranges_1 (rec : Rec) (σ0 : St) : KX := after P rec (keptIn P 10) [1, 1, 0, 1, 0] (bodyOf P 10) (fun e fr => endT P σ0 (resOf P 10) e fr)
noncomputable abbrev h_base_Ranges_1 (σ : St) (a0 : Option Addr) (m0 c0 : Nat) (a1 : Option Addr) (m1 c1 : Nat) (n5 : Int) (j4 j10 j14 j25 : Value) : Fr := (F P 10 σ [j4, SL a0 m0 c0, SL a1 m1 c1, j10, I64 n5, j14, j25])
noncomputable abbrev x_base_Ranges_1_0 (σ : St)  (j4 j0 j1 j10 j5 j14 j25 : Value) : Fr := (F P 10 σ [j4, j0, j1, j10, j5, j14, j25])
noncomputable abbrev x_base_Ranges_1_ret (σ : St) (b4 : Bool) (j0 j1 j10 j5 j14 j25 : Value) : Fr := (F P 10 σ [BL b4, j0, j1, j10, j5, j14, j25])
theorem t_base_Ranges (rec : Rec) (σ0 : St) (a0 : Option Addr) (m0 c0 : Nat) (a1 : Option Addr) (m1 c1 : Nat) : (reS { σ0 with low := σ0.next } fun σ1 =>
 lenT (SL a0 m0 c0) fun x2 =>
 lenT (SL a1 m1 c1) fun x3 =>
 bc (bc (eqI x2 x3) false true) (
 retT σ0 (BL false) σ1) (
 loopT rec c_base_Ranges_1 (keptIn P 10) (F P 10 σ1 [BL false, SL a0 m0 c0, SL a1 m1 c1, BL false, I64 0, poison, poison]) (k_base_Ranges_1 rec σ0))) = callC P rec 10 [SL a0 m0 c0, SL a1 m1 c1] σ0 := by kernel_rfl
theorem l_base_Ranges_1 (rec : Rec) (σ : St) (a0 : Option Addr) (m0 c0 : Nat) (a1 : Option Addr) (m1 c1 : Nat) (n5 : Int) (j4 j10 j14 j25 : Value) : (lenT (SL a0 m0 c0) fun x2 =>
 bc (ltI n5 x2) (
 atT (SL a0 m0 c0) n5 2 fun g3 h4 =>
 ldN σ.heap g3 h4 2 fun l5 =>
 hdI .i64 l5 fun x7 l6 =>
 hdI .i64 l6 fun x9 l8 =>
 nl l8 (
 atT (SL a1 m1 c1) n5 2 fun g10 h11 =>
 ldN σ.heap g10 h11 2 fun l12 =>
 hdI .i64 l12 fun x14 l13 =>
 hdI .i64 l13 fun x16 l15 =>
 nl l15 (
 ob (binA P .neq 34 (.tmp 20) (.tmp 24) (AG [I64 x7, I64 x9]) (AG [I64 x14, I64 x16])) fun v17 =>
 asB v17 fun p18 =>
 bc p18 (
 some (.ex .ret (F P 10 σ [BL false, SL a0 m0 c0, SL a1 m1 c1, j10, I64 n5, BL true, BL true]))) (
 zadd n5 1 fun x19 =>
 rec (.loop c_base_Ranges_1 (keptIn P 10) (F P 10 σ [j4, SL a0 m0 c0, SL a1 m1 c1, j10, I64 x19, BL true, BL false])))))) (
 some (.ex (.exit 0) (F P 10 σ [j4, SL a0 m0 c0, SL a1 m1 c1, j10, I64 n5, BL false, j25])))) = execT P rec c_base_Ranges_1 (keptIn P 10) (h_base_Ranges_1 σ a0 m0 c0 a1 m1 c1 n5 j4 j10 j14 j25) (loopEnd rec c_base_Ranges_1 (keptIn P 10)) := by kernel_rfl
theorem a_base_Ranges_1_0 (rec : Rec) (σ0 : St) (σ : St)  (j4 j0 j1 j10 j5 j14 j25 : Value) : (retT σ0 (BL true) σ) = k_base_Ranges_1 rec σ0 (.exit 0) (x_base_Ranges_1_0 σ j4 j0 j1 j10 j5 j14 j25) := by kernel_rfl
theorem a_base_Ranges_1_ret (rec : Rec) (σ0 : St) (σ : St) (b4 : Bool) (j0 j1 j10 j5 j14 j25 : Value) : (retT σ0 (BL b4) σ) = k_base_Ranges_1 rec σ0 .ret (x_base_Ranges_1_ret σ b4 j0 j1 j10 j5 j14 j25) := by kernel_rfl
theorem t_ref04_SceneErr (rec : Rec) (σ0 : St) (n0_0 n0_1 : Int) (a0_2 : Option Addr) (m0_2 c0_2 : Nat) : (reS { σ0 with low := σ0.next } fun σ1 =>
 newC [I64 n0_0, I64 n0_1, SL a0_2 m0_2 c0_2] σ1 fun σ2 =>
 ldN σ2.heap σ1.next 0 3 fun l3 =>
 hdI .i64 l3 fun x5 l4 =>
 hdI .i64 l4 fun x7 l6 =>
 hdL l6 fun d9 e10 f11 l8 =>
 nl l8 (
 callT rec 16 [AG [I64 x5, I64 x7, SL d9 e10 f11]] σ2 fun v12 σ13 =>
 asT v12 fun l14 =>
 hdI .i64 l14 fun x16 l15 =>
 hdI .i64 l15 fun x18 l17 =>
 nl l17 (
 retT σ0 (I64 x18) σ13))) = callC P rec 6 [AG [I64 n0_0, I64 n0_1, SL a0_2 m0_2 c0_2]] σ0 := by kernel_rfl
noncomputable def c_ref04_CheckScene_1 : Code := loopC (dn [1, 1, 1, 0, 1, 0] (bodyOf P 16))
noncomputable def k_ref04_CheckScene_1 (rec : Rec) (σ0 : St) : KX := after P rec (keptIn P 16) [1, 1, 1, 0, 1, 0] (bodyOf P 16) (fun e fr => endT P σ0 (resOf P 16) e fr)
noncomputable abbrev h_ref04_CheckScene_1 (σ : St) (i1 o1 : Nat) (n5 : Int) (j2 j3 j0 j4 j13 j18 j23 j6 j37 : Value) : Fr := (F P 16 σ [j2, j3, j0, PT i1 o1, j4, j13, j18, I64 n5, j23, j6, j37])
noncomputable abbrev x_ref04_CheckScene_1_0 (σ : St)  (j2 j3 j0 j1 j4 j13 j18 j5 j23 j6 j37 : Value) : Fr := (F P 16 σ [j2, j3, j0, j1, j4, j13, j18, j5, j23, j6, j37])
noncomputable abbrev x_ref04_CheckScene_1_ret (σ : St) (n2 n3 : Int) (j0 j1 j4 j13 j18 j5 j23 j6 j37 : Value) : Fr := (F P 16 σ [I64 n2, I64 n3, j0, j1, j4, j13, j18, j5, j23, j6, j37])
theorem t_ref04_CheckScene (rec : Rec) (σ0 : St) (n0_0 n0_1 : Int) (a0_2 : Option Addr) (m0_2 c0_2 : Nat) : (reS { σ0 with low := σ0.next } fun σ1 =>
 newC [I64 n0_0, I64 n0_1, SL a0_2 m0_2 c0_2] σ1 fun σ2 =>
 ld1 σ2.heap σ1.next 0 fun v3 =>
 asI .i64 v3 fun x4 =>
 ld1 σ2.heap σ1.next 1 fun v5 =>
 asI .i64 v5 fun x6 =>
 callT rec 32 [I64 x4, I64 x6] σ2 fun v7 σ8 =>
 asI .i64 v7 fun x9 =>
 bc (bc (eqI x9 0) false true) (
 retT σ0 (TU [I64 0, I64 x9]) σ8) (
 ld1 σ8.heap σ1.next 2 fun v10 =>
 asL v10 fun d11 e12 f13 =>
 lenT (SL d11 e12 f13) fun x14 =>
 bc (ltI 10 x14) (
 retT σ0 (TU [I64 0, I64 8]) σ8) (
 loopT rec c_ref04_CheckScene_1 (keptIn P 16) (F P 16 σ8 [I64 0, I64 0, AG [I64 n0_0, I64 n0_1, SL a0_2 m0_2 c0_2], PT σ1.next 0, I64 x9, BL false, BL false, I64 0, poison, poison, poison]) (k_ref04_CheckScene_1 rec σ0)))) = callC P rec 16 [AG [I64 n0_0, I64 n0_1, SL a0_2 m0_2 c0_2]] σ0 := by kernel_rfl
theorem l_ref04_CheckScene_1 (rec : Rec) (σ : St) (i1 o1 : Nat) (n5 : Int) (j2 j3 j0 j4 j13 j18 j23 j6 j37 : Value) : (ld1 σ.heap i1 (Nat.add o1 2) fun v2 =>
 asL v2 fun d3 e4 f5 =>
 lenT (SL d3 e4 f5) fun x6 =>
 bc (ltI n5 x6) (
 ld1 σ.heap i1 (Nat.add o1 2) fun v7 =>
 asL v7 fun d8 e9 f10 =>
 atT (SL d8 e9 f10) n5 5 fun g11 h12 =>
 ldN σ.heap g11 h12 5 fun l13 =>
 hdI .i64 l13 fun x15 l14 =>
 hdI .i64 l14 fun x17 l16 =>
 hdI .i64 l16 fun x19 l18 =>
 hdI .i64 l18 fun x21 l20 =>
 hdB l20 fun p23 l22 =>
 nl l22 (
 ld1 σ.heap i1 (Nat.add o1 0) fun v24 =>
 asI .i64 v24 fun x25 =>
 ld1 σ.heap i1 (Nat.add o1 1) fun v26 =>
 asI .i64 v26 fun x27 =>
 callT rec 33 [AG [I64 x15, I64 x17, I64 x19, I64 x21, BL p23], I64 x25, I64 x27] σ fun v28 σ29 =>
 asI .i64 v28 fun x30 =>
 bc (bc (eqI x30 0) false true) (
 some (.ex .ret (F P 16 σ29 [I64 n5, I64 x30, j0, PT i1 o1, j4, j13, j18, I64 n5, BL true, I64 x30, BL true]))) (
 zadd n5 1 fun x31 =>
 rec (.loop c_ref04_CheckScene_1 (keptIn P 16) (F P 16 σ29 [j2, j3, j0, PT i1 o1, j4, j13, j18, I64 x31, BL true, I64 x30, BL false]))))) (
 some (.ex (.exit 0) (F P 16 σ [j2, j3, j0, PT i1 o1, j4, j13, j18, I64 n5, BL false, j6, j37])))) = execT P rec c_ref04_CheckScene_1 (keptIn P 16) (h_ref04_CheckScene_1 σ i1 o1 n5 j2 j3 j0 j4 j13 j18 j23 j6 j37) (loopEnd rec c_ref04_CheckScene_1 (keptIn P 16)) := by kernel_rfl
theorem a_ref04_CheckScene_1_0 (rec : Rec) (σ0 : St) (σ : St)  (j2 j3 j0 j1 j4 j13 j18 j5 j23 j6 j37 : Value) : (retT σ0 (TU [I64 0, I64 0]) σ) = k_ref04_CheckScene_1 rec σ0 (.exit 0) (x_ref04_CheckScene_1_0 σ j2 j3 j0 j1 j4 j13 j18 j5 j23 j6 j37) := by kernel_rfl
theorem a_ref04_CheckScene_1_ret (rec : Rec) (σ0 : St) (σ : St) (n2 n3 : Int) (j0 j1 j4 j13 j18 j5 j23 j6 j37 : Value) : (retT σ0 (TU [I64 n2, I64 n3]) σ) = k_ref04_CheckScene_1 rec σ0 .ret (x_ref04_CheckScene_1_ret σ n2 n3 j0 j1 j4 j13 j18 j5 j23 j6 j37) := by kernel_rfl
theorem t_ref04_gridErr (rec : Rec) (σ0 : St) (n0 n1 : Int) : (reS { σ0 with low := σ0.next } fun σ1 =>
 callT rec 5 [I64 n0, I64 1, I64 12] σ1 fun v2 σ3 =>
 asB v2 fun p4 =>
 bc (!p4) (
 retT σ0 (I64 2) σ3) (
 callT rec 5 [I64 n1, I64 1, I64 12] σ3 fun v5 σ6 =>
 asB v5 fun p7 =>
 bc (!p7) (
 retT σ0 (I64 2) σ6) (
 retT σ0 (I64 0) σ6))) = callC P rec 32 [I64 n0, I64 n1] σ0 := by kernel_rfl
theorem t_ref04_RayErr (rec : Rec) (σ0 : St) (n0_0 n0_1 n0_2 n0_3 : Int) (b0_4 : Bool) (n1 n2 : Int) : (reS { σ0 with low := σ0.next } fun σ1 =>
 newC [I64 n0_0, I64 n0_1, I64 n0_2, I64 n0_3, BL b0_4] σ1 fun σ2 =>
 ldN σ2.heap σ1.next 0 2 fun l3 =>
 hdI .i64 l3 fun x5 l4 =>
 hdI .i64 l4 fun x7 l6 =>
 nl l6 (
 callT rec 43 [AG [I64 x5, I64 x7], I64 n1, I64 n2] σ2 fun v8 σ9 =>
 asB v8 fun p10 =>
 bc (!p10) (
 retT σ0 (I64 6) σ9) (
 ldN σ9.heap σ1.next 2 2 fun l11 =>
 hdI .i64 l11 fun x13 l12 =>
 hdI .i64 l12 fun x15 l14 =>
 nl l14 (
 callT rec 43 [AG [I64 x13, I64 x15], I64 n1, I64 n2] σ9 fun v16 σ17 =>
 asB v16 fun p18 =>
 bc (!p18) (
 retT σ0 (I64 6) σ17) (
 retT σ0 (I64 0) σ17))))) = callC P rec 33 [AG [I64 n0_0, I64 n0_1, I64 n0_2, I64 n0_3, BL b0_4], I64 n1, I64 n2] σ0 := by kernel_rfl
theorem t_ref04_isCell (rec : Rec) (σ0 : St) (n0_0 n0_1 n1 n2 : Int) : (reS { σ0 with low := σ0.next } fun σ1 =>
 newC [I64 n0_0, I64 n0_1] σ1 fun σ2 =>
 ld1 σ2.heap σ1.next 0 fun v3 =>
 asI .i64 v3 fun x4 =>
 zsub n1 1 fun x5 =>
 callT rec 5 [I64 x4, I64 0, I64 x5] σ2 fun v6 σ7 =>
 asB v6 fun p8 =>
 bc p8 (
 ld1 σ7.heap σ1.next 1 fun v9 =>
 asI .i64 v9 fun x10 =>
 zsub n2 1 fun x11 =>
 callT rec 5 [I64 x10, I64 0, I64 x11] σ7 fun v12 σ13 =>
 asB v12 fun p14 =>
 retT σ0 (BL p14) σ13) (
 retT σ0 (BL false) σ7)) = callC P rec 43 [AG [I64 n0_0, I64 n0_1], I64 n1, I64 n2] σ0 := by kernel_rfl
theorem t_sonar_StatesOf (rec : Rec) (σ0 : St) (n0_0 n0_1 : Int) (a0_2 : Option Addr) (m0_2 c0_2 : Nat) : (reS { σ0 with low := σ0.next } fun σ1 =>
 newC [I64 n0_0, I64 n0_1, SL a0_2 m0_2 c0_2] σ1 fun σ2 =>
 ldN σ2.heap σ1.next 0 3 fun l3 =>
 hdI .i64 l3 fun x5 l4 =>
 hdI .i64 l4 fun x7 l6 =>
 hdL l6 fun d9 e10 f11 l8 =>
 nl l8 (
 callT rec 17 [AG [I64 x5, I64 x7, SL d9 e10 f11]] σ2 fun v12 σ13 =>
 asI .i64 v12 fun x14 =>
 bc (bc (eqI x14 0) false true) (
 retT σ0 (TU [SL none 0 0, I64 x14]) σ13) (
 ldN σ13.heap σ1.next 0 3 fun l15 =>
 hdI .i64 l15 fun x17 l16 =>
 hdI .i64 l16 fun x19 l18 =>
 hdL l18 fun d21 e22 f23 l20 =>
 nl l20 (
 callT rec 18 [AG [I64 x17, I64 x19, SL d21 e22 f23], SL none 0 0] σ13 fun v24 σ25 =>
 asL v24 fun d26 e27 f28 =>
 retT σ0 (TU [SL d26 e27 f28, I64 0]) σ25)))) = callC P rec 7 [AG [I64 n0_0, I64 n0_1, SL a0_2 m0_2 c0_2]] σ0 := by kernel_rfl
theorem t_sonar_sceneErr (rec : Rec) (σ0 : St) (n0_0 n0_1 : Int) (a0_2 : Option Addr) (m0_2 c0_2 : Nat) : (reS { σ0 with low := σ0.next } fun σ1 =>
 newC [I64 n0_0, I64 n0_1, SL a0_2 m0_2 c0_2] σ1 fun σ2 =>
 ldN σ2.heap σ1.next 0 3 fun l3 =>
 hdI .i64 l3 fun x5 l4 =>
 hdI .i64 l4 fun x7 l6 =>
 hdL l6 fun d9 e10 f11 l8 =>
 nl l8 (
 callT rec 34 [AG [I64 x5, I64 x7, SL d9 e10 f11]] σ2 fun v12 σ13 =>
 asT v12 fun l14 =>
 hdI .i64 l14 fun x16 l15 =>
 hdI .i64 l15 fun x18 l17 =>
 nl l17 (
 retT σ0 (I64 x18) σ13))) = callC P rec 17 [AG [I64 n0_0, I64 n0_1, SL a0_2 m0_2 c0_2]] σ0 := by kernel_rfl
theorem t_sonar_CheckScene (rec : Rec) (σ0 : St) (n0_0 n0_1 : Int) (a0_2 : Option Addr) (m0_2 c0_2 : Nat) : (reS { σ0 with low := σ0.next } fun σ1 =>
 newC [I64 n0_0, I64 n0_1, SL a0_2 m0_2 c0_2] σ1 fun σ2 =>
 ld1 σ2.heap σ1.next 0 fun v3 =>
 asI .i64 v3 fun x4 =>
 ld1 σ2.heap σ1.next 1 fun v5 =>
 asI .i64 v5 fun x6 =>
 ld1 σ2.heap σ1.next 2 fun v7 =>
 asL v7 fun d8 e9 f10 =>
 lenT (SL d8 e9 f10) fun x11 =>
 callT rec 44 [I64 x4, I64 x6, I64 x11] σ2 fun v12 σ13 =>
 asI .i64 v12 fun x14 =>
 bc (bc (eqI x14 0) false true) (
 retT σ0 (TU [I64 0, I64 x14]) σ13) (
 ld1 σ13.heap σ1.next 2 fun v15 =>
 asL v15 fun d16 e17 f18 =>
 callT rec 45 [SL d16 e17 f18, FN 46 [] [PT σ1.next 0]] σ13 fun v19 σ20 =>
 asT v19 fun l21 =>
 hdI .i64 l21 fun x23 l22 =>
 hdI .i64 l22 fun x25 l24 =>
 nl l24 (
 retT σ0 (TU [I64 x23, I64 x25]) σ20))) = callC P rec 34 [AG [I64 n0_0, I64 n0_1, SL a0_2 m0_2 c0_2]] σ0 := by kernel_rfl
theorem t_sonar_gridErr (rec : Rec) (σ0 : St) (n0 n1 n2 : Int) : (reS { σ0 with low := σ0.next } fun σ1 =>
 callT rec 57 [I64 n0] σ1 fun v2 σ3 =>
 asB v2 fun p4 =>
 bc p4 (
 callT rec 57 [I64 n1] σ3 fun v5 σ6 =>
 asB v5 fun p7 =>
 callT rec 60 [BL p7, I64 2] σ6 fun v8 σ9 =>
 asI .i64 v8 fun x10 =>
 callT rec 60 [BL (leI n2 10), I64 8] σ9 fun v11 σ12 =>
 asI .i64 v11 fun x13 =>
 newZ 1 [I64 x10, I64 x13] σ12 fun σ14 =>
 callT rec 59 [SL (some ⟨σ12.next, 0, Option.none⟩) 2 3] σ14 fun v15 σ16 =>
 asI .i64 v15 fun x17 =>
 retT σ0 (I64 x17) σ16) (
 callT rec 60 [BL false, I64 2] σ3 fun v18 σ19 =>
 asI .i64 v18 fun x20 =>
 callT rec 60 [BL (leI n2 10), I64 8] σ19 fun v21 σ22 =>
 asI .i64 v21 fun x23 =>
 newZ 1 [I64 x20, I64 x23] σ22 fun σ24 =>
 callT rec 59 [SL (some ⟨σ22.next, 0, Option.none⟩) 2 3] σ24 fun v25 σ26 =>
 asI .i64 v25 fun x27 =>
 retT σ0 (I64 x27) σ26)) = callC P rec 44 [I64 n0, I64 n1, I64 n2] σ0 := by kernel_rfl
theorem t_sonar_gridErr_1 (rec : Rec) (σ0 : St) (n0 : Int) : (reS { σ0 with low := σ0.next } fun σ1 =>
 callT rec 58 [I64 n0, I64 1, I64 12] σ1 fun v2 σ3 =>
 asB v2 fun p4 =>
 retT σ0 (BL p4) σ3) = callC P rec 57 [I64 n0] σ0 := by kernel_rfl
theorem t_sonar_within (rec : Rec) (σ0 : St) (n0 n1 n2 : Int) : (reS { σ0 with low := σ0.next } fun σ1 =>
 bc (leI n1 n0) (
 retT σ0 (BL (leI n0 n2)) σ1) (
 retT σ0 (BL false) σ1)) = callC P rec 58 [I64 n0, I64 n1, I64 n2] σ0 := by kernel_rfl
noncomputable def c_sonar_first_1 : Code := loopC (dn [1, 0, 1, 0] (bodyOf P 59))
noncomputable def k_sonar_first_1 (rec : Rec) (σ0 : St) : KX := after P rec (keptIn P 59) [1, 0, 1, 0] (bodyOf P 59) (fun e fr => endT P σ0 (resOf P 59) e fr)
noncomputable abbrev h_sonar_first_1 (σ : St) (n7 n6 : Int) (a5 : Option Addr) (m5 c5 : Nat) (j2 j0 j8 j4 j12 : Value) : Fr := (F P 59 σ [j2, j0, I64 n7, I64 n6, j8, SL a5 m5 c5, j4, j12])
noncomputable abbrev x_sonar_first_1_0 (σ : St)  (j2 j0 j7 j6 j8 j5 j4 j12 : Value) : Fr := (F P 59 σ [j2, j0, j7, j6, j8, j5, j4, j12])
noncomputable abbrev x_sonar_first_1_ret (σ : St) (n2 : Int) (j0 j7 j6 j8 j5 j4 j12 : Value) : Fr := (F P 59 σ [I64 n2, j0, j7, j6, j8, j5, j4, j12])
theorem t_sonar_first (rec : Rec) (σ0 : St) (a0 : Option Addr) (m0 c0 : Nat) : (reS { σ0 with low := σ0.next } fun σ1 =>
 lenT (SL a0 m0 c0) fun x2 =>
 loopT rec c_sonar_first_1 (keptIn P 59) (F P 59 σ1 [I64 0, SL a0 m0 c0, I64 0, I64 x2, poison, SL a0 m0 c0, poison, poison]) (k_sonar_first_1 rec σ0)) = callC P rec 59 [SL a0 m0 c0] σ0 := by kernel_rfl
theorem l_sonar_first_1 (rec : Rec) (σ : St) (n7 n6 : Int) (a5 : Option Addr) (m5 c5 : Nat) (j2 j0 j8 j4 j12 : Value) : (bc (ltI n7 n6) (
 atT (SL a5 m5 c5) n7 1 fun g2 h3 =>
 ld1 σ.heap g2 h3 fun v4 =>
 asI .i64 v4 fun x5 =>
 bc (bc (eqI x5 0) false true) (
 some (.ex .ret (F P 59 σ [I64 x5, j0, I64 n7, I64 n6, BL true, SL a5 m5 c5, I64 x5, BL true]))) (
 zadd n7 1 fun x6 =>
 rec (.loop c_sonar_first_1 (keptIn P 59) (F P 59 σ [j2, j0, I64 x6, I64 n6, BL true, SL a5 m5 c5, I64 x5, BL false])))) (
 some (.ex (.exit 0) (F P 59 σ [j2, j0, I64 n7, I64 n6, BL false, SL a5 m5 c5, j4, j12])))) = execT P rec c_sonar_first_1 (keptIn P 59) (h_sonar_first_1 σ n7 n6 a5 m5 c5 j2 j0 j8 j4 j12) (loopEnd rec c_sonar_first_1 (keptIn P 59)) := by kernel_rfl
theorem a_sonar_first_1_0 (rec : Rec) (σ0 : St) (σ : St)  (j2 j0 j7 j6 j8 j5 j4 j12 : Value) : (retT σ0 (I64 0) σ) = k_sonar_first_1 rec σ0 (.exit 0) (x_sonar_first_1_0 σ j2 j0 j7 j6 j8 j5 j4 j12) := by kernel_rfl
theorem a_sonar_first_1_ret (rec : Rec) (σ0 : St) (σ : St) (n2 : Int) (j0 j7 j6 j8 j5 j4 j12 : Value) : (retT σ0 (I64 n2) σ) = k_sonar_first_1 rec σ0 .ret (x_sonar_first_1_ret σ n2 j0 j7 j6 j8 j5 j4 j12) := by kernel_rfl
theorem t_sonar_unless (rec : Rec) (σ0 : St) (b0 : Bool) (n1 : Int) : (reS { σ0 with low := σ0.next } fun σ1 =>
 bc b0 (
 retT σ0 (I64 0) σ1) (
 retT σ0 (I64 n1) σ1)) = callC P rec 60 [BL b0, I64 n1] σ0 := by kernel_rfl
theorem t_sonar_isCell (rec : Rec) (σ0 : St) (n0_0 n0_1 n1 n2 : Int) : (reS { σ0 with low := σ0.next } fun σ1 =>
 newC [I64 n0_0, I64 n0_1] σ1 fun σ2 =>
 ld1 σ2.heap σ1.next 0 fun v3 =>
 asI .i64 v3 fun x4 =>
 zsub n1 1 fun x5 =>
 callT rec 58 [I64 x4, I64 0, I64 x5] σ2 fun v6 σ7 =>
 asB v6 fun p8 =>
 bc p8 (
 ld1 σ7.heap σ1.next 1 fun v9 =>
 asI .i64 v9 fun x10 =>
 zsub n2 1 fun x11 =>
 callT rec 58 [I64 x10, I64 0, I64 x11] σ7 fun v12 σ13 =>
 asB v12 fun p14 =>
 retT σ0 (BL p14) σ13) (
 retT σ0 (BL false) σ7)) = callC P rec 61 [AG [I64 n0_0, I64 n0_1], I64 n1, I64 n2] σ0 := by kernel_rfl
theorem t_sonar_size (rec : Rec) (σ0 : St) (n0 : Int) : (reS { σ0 with low := σ0.next } fun σ1 =>
 zop (IntKind.wrap .i64 (0 - n0)) fun x2 =>
 zop (if n0 < x2 then x2 else n0) fun x3 =>
 retT σ0 (I64 x3) σ1) = callC P rec 62 [I64 n0] σ0 := by kernel_rfl
theorem t_sonar_cell (rec : Rec) (σ0 : St) (n0_0 n0_1 n1 : Int) : (reS { σ0 with low := σ0.next } fun σ1 =>
 newC [I64 n0_0, I64 n0_1] σ1 fun σ2 =>
 ld1 σ2.heap σ1.next 1 fun v3 =>
 asI .i64 v3 fun x4 =>
 zmul x4 n1 fun x5 =>
 ld1 σ2.heap σ1.next 0 fun v6 =>
 asI .i64 v6 fun x7 =>
 zadd x5 x7 fun x8 =>
 retT σ0 (I64 x8) σ2) = callC P rec 51 [AG [I64 n0_0, I64 n0_1], I64 n1] σ0 := by kernel_rfl
theorem t_sonar_rayErr (rec : Rec) (σ0 : St) (n0_0 n0_1 n0_2 n0_3 : Int) (b0_4 : Bool) (n1 n2 : Int) : (reS { σ0 with low := σ0.next } fun σ1 =>
 newC [I64 n0_0, I64 n0_1, I64 n0_2, I64 n0_3, BL b0_4] σ1 fun σ2 =>
 ldN σ2.heap σ1.next 0 2 fun l3 =>
 hdI .i64 l3 fun x5 l4 =>
 hdI .i64 l4 fun x7 l6 =>
 nl l6 (
 callT rec 61 [AG [I64 x5, I64 x7], I64 n1, I64 n2] σ2 fun v8 σ9 =>
 asB v8 fun p10 =>
 bc p10 (
 ldN σ9.heap σ1.next 2 2 fun l11 =>
 hdI .i64 l11 fun x13 l12 =>
 hdI .i64 l12 fun x15 l14 =>
 nl l14 (
 callT rec 61 [AG [I64 x13, I64 x15], I64 n1, I64 n2] σ9 fun v16 σ17 =>
 asB v16 fun p18 =>
 callT rec 60 [BL p18, I64 6] σ17 fun v19 σ20 =>
 asI .i64 v19 fun x21 =>
 retT σ0 (I64 x21) σ20)) (
 callT rec 60 [BL false, I64 6] σ9 fun v22 σ23 =>
 asI .i64 v22 fun x24 =>
 retT σ0 (I64 x24) σ23))) = callC P rec 47 [AG [I64 n0_0, I64 n0_1, I64 n0_2, I64 n0_3, BL b0_4], I64 n1, I64 n2] σ0 := by kernel_rfl
noncomputable def c_sonar_each_api_SonarRay_1 : Code := loopC (dn [1, 0, 1, 0] (bodyOf P 45))
noncomputable def k_sonar_each_api_SonarRay_1 (rec : Rec) (σ0 : St) : KX := after P rec (keptIn P 45) [1, 0, 1, 0] (bodyOf P 45) (fun e fr => endT P σ0 (resOf P 45) e fr)
noncomputable abbrev h_sonar_each_api_SonarRay_1 (σ : St) (n11 n10 : Int) (a9 : Option Addr) (m9 c9 : Nat) (k1 : Fn) (ka1 kb1 : Array Value) (j4 j5 j0 j12 j6 j7 j8 j21 : Value) : Fr := (F P 45 σ [j4, j5, j0, I64 n11, I64 n10, j12, SL a9 m9 c9, FV k1 ka1 kb1, j6, j7, j8, j21])
noncomputable abbrev x_sonar_each_api_SonarRay_1_0 (σ : St)  (j4 j5 j0 j11 j10 j12 j9 j1 j6 j7 j8 j21 : Value) : Fr := (F P 45 σ [j4, j5, j0, j11, j10, j12, j9, j1, j6, j7, j8, j21])
noncomputable abbrev x_sonar_each_api_SonarRay_1_ret (σ : St) (n4 n5 : Int) (j0 j11 j10 j12 j9 j1 j6 j7 j8 j21 : Value) : Fr := (F P 45 σ [I64 n4, I64 n5, j0, j11, j10, j12, j9, j1, j6, j7, j8, j21])
theorem t_sonar_each_api_SonarRay (rec : Rec) (σ0 : St) (a0 : Option Addr) (m0 c0 : Nat) (k1 : Fn) (ka1 kb1 : Array Value) : (reS { σ0 with low := σ0.next } fun σ1 =>
 lenT (SL a0 m0 c0) fun x2 =>
 loopT rec c_sonar_each_api_SonarRay_1 (keptIn P 45) (F P 45 σ1 [I64 0, I64 0, SL a0 m0 c0, I64 0, I64 x2, poison, SL a0 m0 c0, FV k1 ka1 kb1, poison, poison, poison, poison]) (k_sonar_each_api_SonarRay_1 rec σ0)) = callC P rec 45 [SL a0 m0 c0, FV k1 ka1 kb1] σ0 := by kernel_rfl
theorem l_sonar_each_api_SonarRay_1 (rec : Rec) (σ : St) (n11 n10 : Int) (a9 : Option Addr) (m9 c9 : Nat) (k1 : Fn) (ka1 kb1 : Array Value) (j4 j5 j0 j12 j6 j7 j8 j21 : Value) : (bc (ltI n11 n10) (
 atT (SL a9 m9 c9) n11 5 fun g2 h3 =>
 ldN σ.heap g2 h3 5 fun l4 =>
 hdI .i64 l4 fun x6 l5 =>
 hdI .i64 l5 fun x8 l7 =>
 hdI .i64 l7 fun x10 l9 =>
 hdI .i64 l9 fun x12 l11 =>
 hdB l11 fun p14 l13 =>
 nl l13 (
 newC [I64 0, I64 0, I64 0, I64 0, BL false] σ fun σ15 =>
 wrT σ15 σ.next 0 [I64 x6, I64 x8, I64 x10, I64 x12, BL p14] fun σ16 =>
 ldN σ16.heap σ.next 0 5 fun l17 =>
 hdI .i64 l17 fun x19 l18 =>
 hdI .i64 l18 fun x21 l20 =>
 hdI .i64 l20 fun x23 l22 =>
 hdI .i64 l22 fun x25 l24 =>
 hdB l24 fun p27 l26 =>
 nl l26 (
 callV rec (FV k1 ka1 kb1) [I64 n11, AG [I64 x19, I64 x21, I64 x23, I64 x25, BL p27]] σ16 fun v28 σ29 =>
 asI .i64 v28 fun x30 =>
 bc (bc (eqI x30 0) false true) (
 some (.ex .ret (F P 45 σ29 [I64 n11, I64 x30, j0, I64 n11, I64 n10, BL true, SL a9 m9 c9, FV k1 ka1 kb1, I64 n11, PT σ.next 0, I64 x30, BL true]))) (
 zadd n11 1 fun x31 =>
 rec (.loop c_sonar_each_api_SonarRay_1 (keptIn P 45) (F P 45 σ29 [j4, j5, j0, I64 x31, I64 n10, BL true, SL a9 m9 c9, FV k1 ka1 kb1, I64 n11, PT σ.next 0, I64 x30, BL false])))))) (
 some (.ex (.exit 0) (F P 45 σ [j4, j5, j0, I64 n11, I64 n10, BL false, SL a9 m9 c9, FV k1 ka1 kb1, j6, j7, j8, j21])))) = execT P rec c_sonar_each_api_SonarRay_1 (keptIn P 45) (h_sonar_each_api_SonarRay_1 σ n11 n10 a9 m9 c9 k1 ka1 kb1 j4 j5 j0 j12 j6 j7 j8 j21) (loopEnd rec c_sonar_each_api_SonarRay_1 (keptIn P 45)) := by kernel_rfl
theorem a_sonar_each_api_SonarRay_1_0 (rec : Rec) (σ0 : St) (σ : St)  (j4 j5 j0 j11 j10 j12 j9 j1 j6 j7 j8 j21 : Value) : (retT σ0 (TU [I64 0, I64 0]) σ) = k_sonar_each_api_SonarRay_1 rec σ0 (.exit 0) (x_sonar_each_api_SonarRay_1_0 σ j4 j5 j0 j11 j10 j12 j9 j1 j6 j7 j8 j21) := by kernel_rfl
theorem a_sonar_each_api_SonarRay_1_ret (rec : Rec) (σ0 : St) (σ : St) (n4 n5 : Int) (j0 j11 j10 j12 j9 j1 j6 j7 j8 j21 : Value) : (retT σ0 (TU [I64 n4, I64 n5]) σ) = k_sonar_each_api_SonarRay_1 rec σ0 .ret (x_sonar_each_api_SonarRay_1_ret σ n4 n5 j0 j11 j10 j12 j9 j1 j6 j7 j8 j21) := by kernel_rfl
theorem t_sonar_CheckScene_1 (rec : Rec) (σ0 : St) (n0 n1_0 n1_1 n1_2 n1_3 : Int) (b1_4 : Bool) (i2 o2 : Nat) : (reS { σ0 with low := σ0.next } fun σ1 =>
 newC [I64 n1_0, I64 n1_1, I64 n1_2, I64 n1_3, BL b1_4] σ1 fun σ2 =>
 ldN σ2.heap σ1.next 0 5 fun l3 =>
 hdI .i64 l3 fun x5 l4 =>
 hdI .i64 l4 fun x7 l6 =>
 hdI .i64 l6 fun x9 l8 =>
 hdI .i64 l8 fun x11 l10 =>
 hdB l10 fun p13 l12 =>
 nl l12 (
 ld1 σ2.heap i2 (Nat.add o2 0) fun v14 =>
 asI .i64 v14 fun x15 =>
 ld1 σ2.heap i2 (Nat.add o2 1) fun v16 =>
 asI .i64 v16 fun x17 =>
 callT rec 47 [AG [I64 x5, I64 x7, I64 x9, I64 x11, BL p13], I64 x15, I64 x17] σ2 fun v18 σ19 =>
 asI .i64 v18 fun x20 =>
 retT σ0 (I64 x20) σ19)) = callC P rec 46 [I64 n0, AG [I64 n1_0, I64 n1_1, I64 n1_2, I64 n1_3, BL b1_4], PT i2 o2] σ0 := by kernel_rfl
theorem t_slices_Contains_int_int (rec : Rec) (σ0 : St) (a0 : Option Addr) (m0 c0 : Nat) (n1 : Int) : (reS { σ0 with low := σ0.next } fun σ1 =>
 callT rec 48 [SL a0 m0 c0, I64 n1] σ1 fun v2 σ3 =>
 asI .i64 v2 fun x4 =>
 retT σ0 (BL (leI 0 x4)) σ3) = callC P rec 35 [SL a0 m0 c0, I64 n1] σ0 := by kernel_rfl
noncomputable def c_slices_Index_int_int_1 : Code := loopC (dn [1, 0, 1, 0] (bodyOf P 48))
noncomputable def k_slices_Index_int_int_1 (rec : Rec) (σ0 : St) : KX := after P rec (keptIn P 48) [1, 0, 1, 0] (bodyOf P 48) (fun e fr => endT P σ0 (resOf P 48) e fr)
noncomputable abbrev h_slices_Index_int_int_1 (σ : St) (a0 : Option Addr) (m0 c0 : Nat) (n8 n7 n1 : Int) (j4 j9 j5 j16 : Value) : Fr := (F P 48 σ [j4, SL a0 m0 c0, I64 n8, I64 n7, j9, I64 n1, j5, j16])
noncomputable abbrev x_slices_Index_int_int_1_0 (σ : St)  (j4 j0 j8 j7 j9 j1 j5 j16 : Value) : Fr := (F P 48 σ [j4, j0, j8, j7, j9, j1, j5, j16])
noncomputable abbrev x_slices_Index_int_int_1_ret (σ : St) (n4 : Int) (j0 j8 j7 j9 j1 j5 j16 : Value) : Fr := (F P 48 σ [I64 n4, j0, j8, j7, j9, j1, j5, j16])
theorem t_slices_Index_int_int (rec : Rec) (σ0 : St) (a0 : Option Addr) (m0 c0 : Nat) (n1 : Int) : (reS { σ0 with low := σ0.next } fun σ1 =>
 lenT (SL a0 m0 c0) fun x2 =>
 loopT rec c_slices_Index_int_int_1 (keptIn P 48) (F P 48 σ1 [I64 0, SL a0 m0 c0, I64 0, I64 x2, poison, I64 n1, poison, poison]) (k_slices_Index_int_int_1 rec σ0)) = callC P rec 48 [SL a0 m0 c0, I64 n1] σ0 := by kernel_rfl
theorem l_slices_Index_int_int_1 (rec : Rec) (σ : St) (a0 : Option Addr) (m0 c0 : Nat) (n8 n7 n1 : Int) (j4 j9 j5 j16 : Value) : (bc (ltI n8 n7) (
 atT (SL a0 m0 c0) n8 1 fun g2 h3 =>
 ld1 σ.heap g2 h3 fun v4 =>
 asI .i64 v4 fun x5 =>
 bc (eqI n1 x5) (
 some (.ex .ret (F P 48 σ [I64 n8, SL a0 m0 c0, I64 n8, I64 n7, BL true, I64 n1, I64 n8, BL true]))) (
 zadd n8 1 fun x6 =>
 rec (.loop c_slices_Index_int_int_1 (keptIn P 48) (F P 48 σ [j4, SL a0 m0 c0, I64 x6, I64 n7, BL true, I64 n1, I64 n8, BL false])))) (
 some (.ex (.exit 0) (F P 48 σ [j4, SL a0 m0 c0, I64 n8, I64 n7, BL false, I64 n1, j5, j16])))) = execT P rec c_slices_Index_int_int_1 (keptIn P 48) (h_slices_Index_int_int_1 σ a0 m0 c0 n8 n7 n1 j4 j9 j5 j16) (loopEnd rec c_slices_Index_int_int_1 (keptIn P 48)) := by kernel_rfl
theorem a_slices_Index_int_int_1_0 (rec : Rec) (σ0 : St) (σ : St)  (j4 j0 j8 j7 j9 j1 j5 j16 : Value) : (retT σ0 (I64 (-1)) σ) = k_slices_Index_int_int_1 rec σ0 (.exit 0) (x_slices_Index_int_int_1_0 σ j4 j0 j8 j7 j9 j1 j5 j16) := by kernel_rfl
theorem a_slices_Index_int_int_1_ret (rec : Rec) (σ0 : St) (σ : St) (n4 : Int) (j0 j8 j7 j9 j1 j5 j16 : Value) : (retT σ0 (I64 n4) σ) = k_slices_Index_int_int_1 rec σ0 .ret (x_slices_Index_int_int_1_ret σ n4 j0 j8 j7 j9 j1 j5 j16) := by kernel_rfl
noncomputable def c_sonar_crossed_1 : Code := loopC (dn [1, 1, 1, 0, 1, 0] (bodyOf P 50))
noncomputable def k_sonar_crossed_1 (rec : Rec) (σ0 : St) : KX := after P rec (keptIn P 50) [1, 1, 1, 0, 1, 0] (bodyOf P 50) (fun e fr => endT P σ0 (resOf P 50) e fr)
noncomputable abbrev h_sonar_crossed_1 (σ : St) (i1 o1 : Nat) (n6 n3 n4 : Int) (a5 : Option Addr) (m5 c5 : Nat) (j2 j0 j38 j7 j56 j8 j91 : Value) : Fr := (F P 50 σ [j2, j0, PT i1 o1, I64 n6, j38, j7, j56, I64 n3, I64 n4, j8, j91, SL a5 m5 c5])
noncomputable abbrev x_sonar_crossed_1_0 (σ : St) (a5 : Option Addr) (m5 c5 : Nat) (j2 j0 j1 j6 j38 j7 j56 j3 j4 j8 j91 : Value) : Fr := (F P 50 σ [j2, j0, j1, j6, j38, j7, j56, j3, j4, j8, j91, SL a5 m5 c5])
noncomputable def c_sonar_crossed_2 : Code := loopC (dn [1, 0, 0, 1, 0] (c_sonar_crossed_1))
noncomputable def k_sonar_crossed_2 (rec : Rec) : KX := after P rec (keptIn P 50) [1, 0, 0, 1, 0] (c_sonar_crossed_1) (loopEnd rec c_sonar_crossed_1 (keptIn P 50))
noncomputable abbrev h_sonar_crossed_2 (σ : St) (i1 o1 : Nat) (n6 n7 n3 n4 : Int) (a5 : Option Addr) (m5 c5 : Nat) (j2 j0 j38 j56 j8 j91 : Value) : Fr := (F P 50 σ [j2, j0, PT i1 o1, I64 n6, j38, I64 n7, j56, I64 n3, I64 n4, j8, j91, SL a5 m5 c5])
noncomputable abbrev x_sonar_crossed_2_2 (σ : St) (i1 o1 : Nat) (n6 n3 n4 : Int) (a5 : Option Addr) (m5 c5 : Nat) (j2 j0 j38 j7 j56 j8 j91 : Value) : Fr := (F P 50 σ [j2, j0, PT i1 o1, I64 n6, j38, j7, j56, I64 n3, I64 n4, j8, j91, SL a5 m5 c5])
theorem t_sonar_crossed (rec : Rec) (σ0 : St) (n0_0 n0_1 n0_2 n0_3 : Int) (b0_4 : Bool) : (reS { σ0 with low := σ0.next } fun σ1 =>
 newC [I64 n0_0, I64 n0_1, I64 n0_2, I64 n0_3, BL b0_4] σ1 fun σ2 =>
 ld1 σ2.heap σ1.next 2 fun v3 =>
 asI .i64 v3 fun x4 =>
 ld1 σ2.heap σ1.next 0 fun v5 =>
 asI .i64 v5 fun x6 =>
 zsub x4 x6 fun x7 =>
 ld1 σ2.heap σ1.next 3 fun v8 =>
 asI .i64 v8 fun x9 =>
 ld1 σ2.heap σ1.next 1 fun v10 =>
 asI .i64 v10 fun x11 =>
 zsub x9 x11 fun x12 =>
 ld1 σ2.heap σ1.next 1 fun v13 =>
 asI .i64 v13 fun x14 =>
 ld1 σ2.heap σ1.next 3 fun v15 =>
 asI .i64 v15 fun x16 =>
 zop (if x16 < x14 then x16 else x14) fun x17 =>
 loopT rec c_sonar_crossed_1 (keptIn P 50) (F P 50 σ2 [SL none 0 0, AG [I64 n0_0, I64 n0_1, I64 n0_2, I64 n0_3, BL b0_4], PT σ1.next 0, I64 x17, poison, poison, poison, I64 x7, I64 x12, poison, poison, SL none 0 0]) (k_sonar_crossed_1 rec σ0)) = callC P rec 50 [AG [I64 n0_0, I64 n0_1, I64 n0_2, I64 n0_3, BL b0_4]] σ0 := by kernel_rfl
theorem l_sonar_crossed_1 (rec : Rec) (σ : St) (i1 o1 : Nat) (n6 n3 n4 : Int) (a5 : Option Addr) (m5 c5 : Nat) (j2 j0 j38 j7 j56 j8 j91 : Value) : (ld1 σ.heap i1 (Nat.add (Nat.add o1 0) 1) fun v2 =>
 asI .i64 v2 fun x3 =>
 ld1 σ.heap i1 (Nat.add (Nat.add o1 2) 1) fun v4 =>
 asI .i64 v4 fun x5 =>
 zop (if x3 < x5 then x5 else x3) fun x6 =>
 bc (leI n6 x6) (
 ld1 σ.heap i1 (Nat.add (Nat.add o1 0) 0) fun v7 =>
 asI .i64 v7 fun x8 =>
 ld1 σ.heap i1 (Nat.add (Nat.add o1 2) 0) fun v9 =>
 asI .i64 v9 fun x10 =>
 zop (if x10 < x8 then x10 else x8) fun x11 =>
 loopT rec c_sonar_crossed_2 (keptIn P 50) (F P 50 σ [j2, j0, PT i1 o1, I64 n6, BL true, I64 x11, j56, I64 n3, I64 n4, j8, j91, SL a5 m5 c5]) (k_sonar_crossed_2 rec)) (
 some (.ex (.exit 0) (F P 50 σ [j2, j0, PT i1 o1, I64 n6, BL false, j7, j56, I64 n3, I64 n4, j8, j91, SL a5 m5 c5])))) = execT P rec c_sonar_crossed_1 (keptIn P 50) (h_sonar_crossed_1 σ i1 o1 n6 n3 n4 a5 m5 c5 j2 j0 j38 j7 j56 j8 j91) (loopEnd rec c_sonar_crossed_1 (keptIn P 50)) := by kernel_rfl
theorem a_sonar_crossed_1_0 (rec : Rec) (σ0 : St) (σ : St) (a5 : Option Addr) (m5 c5 : Nat) (j2 j0 j1 j6 j38 j7 j56 j3 j4 j8 j91 : Value) : (retT σ0 (SL a5 m5 c5) σ) = k_sonar_crossed_1 rec σ0 (.exit 0) (x_sonar_crossed_1_0 σ a5 m5 c5 j2 j0 j1 j6 j38 j7 j56 j3 j4 j8 j91) := by kernel_rfl
theorem l_sonar_crossed_2 (rec : Rec) (σ : St) (i1 o1 : Nat) (n6 n7 n3 n4 : Int) (a5 : Option Addr) (m5 c5 : Nat) (j2 j0 j38 j56 j8 j91 : Value) : (ld1 σ.heap i1 (Nat.add (Nat.add o1 0) 0) fun v2 =>
 asI .i64 v2 fun x3 =>
 ld1 σ.heap i1 (Nat.add (Nat.add o1 2) 0) fun v4 =>
 asI .i64 v4 fun x5 =>
 zop (if x3 < x5 then x5 else x3) fun x6 =>
 bc (leI n7 x6) (
 zmul n3 2 fun x7 =>
 ld1 σ.heap i1 (Nat.add (Nat.add o1 0) 1) fun v8 =>
 asI .i64 v8 fun x9 =>
 zsub n6 x9 fun x10 =>
 zmul x7 x10 fun x11 =>
 zmul n4 2 fun x12 =>
 ld1 σ.heap i1 (Nat.add (Nat.add o1 0) 0) fun v13 =>
 asI .i64 v13 fun x14 =>
 zsub n7 x14 fun x15 =>
 zmul x12 x15 fun x16 =>
 zsub x11 x16 fun x17 =>
 callT rec 62 [I64 x17] σ fun v18 σ19 =>
 asI .i64 v18 fun x20 =>
 callT rec 62 [I64 n3] σ19 fun v21 σ22 =>
 asI .i64 v21 fun x23 =>
 callT rec 62 [I64 n4] σ22 fun v24 σ25 =>
 asI .i64 v24 fun x26 =>
 zadd x23 x26 fun x27 =>
 bc (ltI x20 x27) (
 newZ 2 [I64 n7, I64 n6] σ25 fun σ28 =>
 appT 2 16 (SL a5 m5 c5) (SL (some ⟨σ25.next, 0, Option.none⟩) 1 2) σ28 fun d29 e30 f31 σ32 =>
 zadd n7 1 fun x33 =>
 rec (.loop c_sonar_crossed_2 (keptIn P 50) (F P 50 σ32 [j2, j0, PT i1 o1, I64 n6, j38, I64 x33, BL true, I64 n3, I64 n4, I64 x17, BL true, SL d29 e30 f31]))) (
 bc (eqI n3 0) (
 bc (eqI n4 0) (
 newZ 2 [I64 n7, I64 n6] σ25 fun σ34 =>
 appT 2 16 (SL a5 m5 c5) (SL (some ⟨σ25.next, 0, Option.none⟩) 1 2) σ34 fun d35 e36 f37 σ38 =>
 zadd n7 1 fun x39 =>
 rec (.loop c_sonar_crossed_2 (keptIn P 50) (F P 50 σ38 [j2, j0, PT i1 o1, I64 n6, j38, I64 x39, BL true, I64 n3, I64 n4, I64 x17, BL true, SL d35 e36 f37]))) (
 zadd n7 1 fun x40 =>
 rec (.loop c_sonar_crossed_2 (keptIn P 50) (F P 50 σ25 [j2, j0, PT i1 o1, I64 n6, j38, I64 x40, BL true, I64 n3, I64 n4, I64 x17, BL false, SL a5 m5 c5])))) (
 zadd n7 1 fun x41 =>
 rec (.loop c_sonar_crossed_2 (keptIn P 50) (F P 50 σ25 [j2, j0, PT i1 o1, I64 n6, j38, I64 x41, BL true, I64 n3, I64 n4, I64 x17, BL false, SL a5 m5 c5]))))) (
 some (.ex (.exit 2) (F P 50 σ [j2, j0, PT i1 o1, I64 n6, j38, I64 n7, BL false, I64 n3, I64 n4, j8, j91, SL a5 m5 c5])))) = execT P rec c_sonar_crossed_2 (keptIn P 50) (h_sonar_crossed_2 σ i1 o1 n6 n7 n3 n4 a5 m5 c5 j2 j0 j38 j56 j8 j91) (loopEnd rec c_sonar_crossed_2 (keptIn P 50)) := by kernel_rfl
theorem a_sonar_crossed_2_2 (rec : Rec) (σ : St) (i1 o1 : Nat) (n6 n3 n4 : Int) (a5 : Option Addr) (m5 c5 : Nat) (j2 j0 j38 j7 j56 j8 j91 : Value) : (zadd n6 1 fun x2 =>
 rec (.loop c_sonar_crossed_1 (keptIn P 50) (F P 50 σ [j2, j0, PT i1 o1, I64 x2, j38, j7, j56, I64 n3, I64 n4, j8, j91, SL a5 m5 c5]))) = k_sonar_crossed_2 rec (.exit 2) (x_sonar_crossed_2_2 σ i1 o1 n6 n3 n4 a5 m5 c5 j2 j0 j38 j7 j56 j8 j91) := by kernel_rfl
theorem t_sonar_said (rec : Rec) (σ0 : St) (n0_0 n0_1 n0_2 n0_3 : Int) (b0_4 : Bool) (n1 : Int) : (reS { σ0 with low := σ0.next } fun σ1 =>
 newC [I64 n0_0, I64 n0_1, I64 n0_2, I64 n0_3, BL b0_4] σ1 fun σ2 =>
 newC [I64 n1] σ2 fun σ3 =>
 retT σ0 (FN 49 [] [PT σ1.next 0, PT σ2.next 0]) σ3) = callC P rec 36 [AG [I64 n0_0, I64 n0_1, I64 n0_2, I64 n0_3, BL b0_4], I64 n1] σ0 := by kernel_rfl
noncomputable def c_sonar_said_1_1 : Code := loopC (dn [1, 0] (bodyOf P 49))
noncomputable def k_sonar_said_1_1 (rec : Rec) (σ0 : St) : KX := after P rec (keptIn P 49) [1, 0] (bodyOf P 49) (fun e fr => endT P σ0 (resOf P 49) e fr)
noncomputable abbrev h_sonar_said_1_1 (σ : St) (i1 o1 : Nat) (n10 n9 : Int) (a8 : Option Addr) (m8 c8 : Nat) (k0 : Fn) (ka0 kb0 : Array Value) (i2 o2 : Nat) (j11 j5 j21 j6 j29 : Value) : Fr := (F P 49 σ [PT i1 o1, I64 n10, I64 n9, j11, SL a8 m8 c8, j5, j21, FV k0 ka0 kb0, PT i2 o2, j6, j29])
noncomputable abbrev x_sonar_said_1_1_0 (σ : St)  (j1 j10 j9 j11 j8 j5 j21 j0 j2 j6 j29 : Value) : Fr := (F P 49 σ [j1, j10, j9, j11, j8, j5, j21, j0, j2, j6, j29])
noncomputable abbrev x_sonar_said_1_1_ret (σ : St)  (j1 j10 j9 j11 j8 j5 j21 j0 j2 j6 j29 : Value) : Fr := (F P 49 σ [j1, j10, j9, j11, j8, j5, j21, j0, j2, j6, j29])
theorem t_sonar_said_1 (rec : Rec) (σ0 : St) (k0 : Fn) (ka0 kb0 : Array Value) (i1 o1 i2 o2 : Nat) : (reS { σ0 with low := σ0.next } fun σ1 =>
 ldN σ1.heap i1 o1 5 fun l2 =>
 hdI .i64 l2 fun x4 l3 =>
 hdI .i64 l3 fun x6 l5 =>
 hdI .i64 l5 fun x8 l7 =>
 hdI .i64 l7 fun x10 l9 =>
 hdB l9 fun p12 l11 =>
 nl l11 (
 callT rec 50 [AG [I64 x4, I64 x6, I64 x8, I64 x10, BL p12]] σ1 fun v13 σ14 =>
 asL v13 fun d15 e16 f17 =>
 lenT (SL d15 e16 f17) fun x18 =>
 loopT rec c_sonar_said_1_1 (keptIn P 49) (F P 49 σ14 [PT i1 o1, I64 0, I64 x18, poison, SL d15 e16 f17, poison, poison, FV k0 ka0 kb0, PT i2 o2, poison, poison]) (k_sonar_said_1_1 rec σ0))) = callC P rec 49 [FV k0 ka0 kb0, PT i1 o1, PT i2 o2] σ0 := by kernel_rfl
theorem l_sonar_said_1_1 (rec : Rec) (σ : St) (i1 o1 : Nat) (n10 n9 : Int) (a8 : Option Addr) (m8 c8 : Nat) (k0 : Fn) (ka0 kb0 : Array Value) (i2 o2 : Nat) (j11 j5 j21 j6 j29 : Value) : (bc (ltI n10 n9) (
 atT (SL a8 m8 c8) n10 2 fun g2 h3 =>
 ldN σ.heap g2 h3 2 fun l4 =>
 hdI .i64 l4 fun x6 l5 =>
 hdI .i64 l5 fun x8 l7 =>
 nl l7 (
 newC [I64 0, I64 0] σ fun σ9 =>
 wrT σ9 σ.next 0 [I64 x6, I64 x8] fun σ10 =>
 ldN σ10.heap σ.next 0 2 fun l11 =>
 hdI .i64 l11 fun x13 l12 =>
 hdI .i64 l12 fun x15 l14 =>
 nl l14 (
 ldN σ10.heap i1 (Nat.add o1 2) 2 fun l16 =>
 hdI .i64 l16 fun x18 l17 =>
 hdI .i64 l17 fun x20 l19 =>
 nl l19 (
 ob (binA P .eql 30 (.tmp 14) (.tmp 16) (AG [I64 x13, I64 x15]) (AG [I64 x18, I64 x20])) fun v21 =>
 asB v21 fun p22 =>
 bc p22 (
 ld1 σ10.heap i1 (Nat.add o1 4) fun v23 =>
 asB v23 fun p24 =>
 bc p24 (
 ldN σ10.heap σ.next 0 2 fun l25 =>
 hdI .i64 l25 fun x27 l26 =>
 hdI .i64 l26 fun x29 l28 =>
 nl l28 (
 ld1 σ10.heap i2 o2 fun v30 =>
 asI .i64 v30 fun x31 =>
 callT rec 51 [AG [I64 x27, I64 x29], I64 x31] σ10 fun v32 σ33 =>
 asI .i64 v32 fun x34 =>
 callV rec (FV k0 ka0 kb0) [AG [I64 x34, I64 2]] σ33 fun v35 σ36 =>
 asB v35 fun p37 =>
 bc (!p37) (
 some (.ex .ret (F P 49 σ36 [PT i1 o1, I64 n10, I64 n9, BL true, SL a8 m8 c8, PT σ.next 0, BL true, FV k0 ka0 kb0, PT i2 o2, I64 2, BL true]))) (
 zadd n10 1 fun x38 =>
 rec (.loop c_sonar_said_1_1 (keptIn P 49) (F P 49 σ36 [PT i1 o1, I64 x38, I64 n9, BL true, SL a8 m8 c8, PT σ.next 0, BL true, FV k0 ka0 kb0, PT i2 o2, I64 2, BL false]))))) (
 ldN σ10.heap σ.next 0 2 fun l39 =>
 hdI .i64 l39 fun x41 l40 =>
 hdI .i64 l40 fun x43 l42 =>
 nl l42 (
 ld1 σ10.heap i2 o2 fun v44 =>
 asI .i64 v44 fun x45 =>
 callT rec 51 [AG [I64 x41, I64 x43], I64 x45] σ10 fun v46 σ47 =>
 asI .i64 v46 fun x48 =>
 callV rec (FV k0 ka0 kb0) [AG [I64 x48, I64 1]] σ47 fun v49 σ50 =>
 asB v49 fun p51 =>
 bc (!p51) (
 some (.ex .ret (F P 49 σ50 [PT i1 o1, I64 n10, I64 n9, BL true, SL a8 m8 c8, PT σ.next 0, BL false, FV k0 ka0 kb0, PT i2 o2, I64 1, BL true]))) (
 zadd n10 1 fun x52 =>
 rec (.loop c_sonar_said_1_1 (keptIn P 49) (F P 49 σ50 [PT i1 o1, I64 x52, I64 n9, BL true, SL a8 m8 c8, PT σ.next 0, BL false, FV k0 ka0 kb0, PT i2 o2, I64 1, BL false])))))) (
 ldN σ10.heap σ.next 0 2 fun l53 =>
 hdI .i64 l53 fun x55 l54 =>
 hdI .i64 l54 fun x57 l56 =>
 nl l56 (
 ld1 σ10.heap i2 o2 fun v58 =>
 asI .i64 v58 fun x59 =>
 callT rec 51 [AG [I64 x55, I64 x57], I64 x59] σ10 fun v60 σ61 =>
 asI .i64 v60 fun x62 =>
 callV rec (FV k0 ka0 kb0) [AG [I64 x62, I64 1]] σ61 fun v63 σ64 =>
 asB v63 fun p65 =>
 bc (!p65) (
 some (.ex .ret (F P 49 σ64 [PT i1 o1, I64 n10, I64 n9, BL true, SL a8 m8 c8, PT σ.next 0, BL false, FV k0 ka0 kb0, PT i2 o2, I64 1, BL true]))) (
 zadd n10 1 fun x66 =>
 rec (.loop c_sonar_said_1_1 (keptIn P 49) (F P 49 σ64 [PT i1 o1, I64 x66, I64 n9, BL true, SL a8 m8 c8, PT σ.next 0, BL false, FV k0 ka0 kb0, PT i2 o2, I64 1, BL false]))))))))) (
 some (.ex (.exit 0) (F P 49 σ [PT i1 o1, I64 n10, I64 n9, BL false, SL a8 m8 c8, j5, j21, FV k0 ka0 kb0, PT i2 o2, j6, j29])))) = execT P rec c_sonar_said_1_1 (keptIn P 49) (h_sonar_said_1_1 σ i1 o1 n10 n9 a8 m8 c8 k0 ka0 kb0 i2 o2 j11 j5 j21 j6 j29) (loopEnd rec c_sonar_said_1_1 (keptIn P 49)) := by kernel_rfl
theorem a_sonar_said_1_1_0 (rec : Rec) (σ0 : St) (σ : St)  (j1 j10 j9 j11 j8 j5 j21 j0 j2 j6 j29 : Value) : (retT σ0 undef σ) = k_sonar_said_1_1 rec σ0 (.exit 0) (x_sonar_said_1_1_0 σ j1 j10 j9 j11 j8 j5 j21 j0 j2 j6 j29) := by kernel_rfl
theorem a_sonar_said_1_1_ret (rec : Rec) (σ0 : St) (σ : St)  (j1 j10 j9 j11 j8 j5 j21 j0 j2 j6 j29 : Value) : (retT σ0 undef σ) = k_sonar_said_1_1 rec σ0 .ret (x_sonar_said_1_1_ret σ j1 j10 j9 j11 j8 j5 j21 j0 j2 j6 j29) := by kernel_rfl
noncomputable def c_sonar_states_1 : Code := loopC (dn [1, 1, 0, 1, 0] (bodyOf P 18))
noncomputable def k_sonar_states_1 (rec : Rec) (σ0 : St) : KX := after P rec (keptIn P 18) [1, 1, 0, 1, 0] (bodyOf P 18) (fun e fr => endT P σ0 (resOf P 18) e fr)
noncomputable abbrev h_sonar_states_1 (ds : List Nat) (σ : St) (i2 o2 : Nat) (n18 n17 : Int) (a16 : Option Addr) (m16 c16 : Nat) (a1 : Option Addr) (m1 c1 i5 o5 : Nat) (j4 j0 j19 j6 j25 j7 j29 j30 j8 : Value) : Fr := (FR' P 18 Option.none ds σ [j4, j0, PT i2 o2, I64 n18, I64 n17, j19, SL a16 m16 c16, SL a1 m1 c1, j6, j25, j7, j29, j30, PT i5 o5, j8])
noncomputable abbrev x_sonar_states_1_0 (ds : List Nat) (σ : St) (i5 o5 : Nat) (j4 j0 j2 j18 j17 j19 j16 j1 j6 j25 j7 j29 j30 j8 : Value) : Fr := (FR' P 18 Option.none ds σ [j4, j0, j2, j18, j17, j19, j16, j1, j6, j25, j7, j29, j30, PT i5 o5, j8])
noncomputable def ra_sonar_states_2 : Code := dn [1, 1, 0, 0, 1, 1, 1, 0, 0] (c_sonar_states_1)
noncomputable def rb_sonar_states_2 : Code := dn [1, 1, 0, 0, 1, 1, 1, 0, 1] (c_sonar_states_1)
noncomputable def k_sonar_states_2 (rec : Rec) : KX := after P rec (keptIn P 18) [1, 1, 0, 0, 1, 1, 1, 0] (c_sonar_states_1) (loopEnd rec c_sonar_states_1 (keptIn P 18))
noncomputable abbrev h_sonar_states_2 (i2 o2 : Nat) (n18 n17 : Int) (a16 : Option Addr) (m16 c16 : Nat) (a1 : Option Addr) (m1 c1 : Nat) (k29 : Fn) (ka29 kb29 : Array Value) (i5 o5 : Nat) (j4 j0 j19 j6 j25 j7 j30 j8 : Value) : Tr Value := fillT (keptList P 18) [j4, j0, PT i2 o2, I64 n18, I64 n17, j19, SL a16 m16 c16, SL a1 m1 c1, j6, j25, j7, FV k29 ka29 kb29, j30, PT i5 o5, j8]
noncomputable abbrev x_sonar_states_2_normal (ds : List Nat) (σ : St) (i2 o2 : Nat) (n18 n17 : Int) (a16 : Option Addr) (m16 c16 : Nat) (a1 : Option Addr) (m1 c1 i5 o5 : Nat) (j4 j0 j19 j6 j25 j7 j29 j30 j8 : Value) : Fr := (FR' P 18 Option.none ds σ [j4, j0, PT i2 o2, I64 n18, I64 n17, j19, SL a16 m16 c16, SL a1 m1 c1, j6, j25, j7, j29, j30, PT i5 o5, j8])
theorem t_sonar_states (rec : Rec) (σ0 : St) (n0_0 n0_1 : Int) (a0_2 : Option Addr) (m0_2 c0_2 : Nat) (a1 : Option Addr) (m1 c1 : Nat) : (reS { σ0 with low := σ0.next } fun σ1 =>
 newC [I64 n0_0, I64 n0_1, SL a0_2 m0_2 c0_2] σ1 fun σ2 =>
 ld1 σ2.heap σ1.next 0 fun v3 =>
 asI .i64 v3 fun x4 =>
 ld1 σ2.heap σ1.next 1 fun v5 =>
 asI .i64 v5 fun x6 =>
 zmul x4 x6 fun x7 =>
 ob (makeSliceA P 35 (I64 x7) (I64 x7) σ2) fun q8 =>
 asL q8.1 fun d9 e10 f11 =>
 newC [SL none 0 0] q8.2 fun σ12 =>
 wrT σ12 q8.2.next 0 [SL d9 e10 f11] fun σ13 =>
 ld1 σ13.heap σ1.next 2 fun v14 =>
 asL v14 fun d15 e16 f17 =>
 lenT (SL d15 e16 f17) fun x18 =>
 loopT rec c_sonar_states_1 (keptIn P 18) (F P 18 σ13 [SL none 0 0, AG [I64 n0_0, I64 n0_1, SL a0_2 m0_2 c0_2], PT σ1.next 0, I64 0, I64 x18, poison, SL d15 e16 f17, SL a1 m1 c1, poison, poison, poison, poison, poison, PT q8.2.next 0, poison]) (k_sonar_states_1 rec σ0)) = callC P rec 18 [AG [I64 n0_0, I64 n0_1, SL a0_2 m0_2 c0_2], SL a1 m1 c1] σ0 := by kernel_rfl
theorem l_sonar_states_1 (rec : Rec) (ds : List Nat) (σ : St) (i2 o2 : Nat) (n18 n17 : Int) (a16 : Option Addr) (m16 c16 : Nat) (a1 : Option Addr) (m1 c1 i5 o5 : Nat) (j4 j0 j19 j6 j25 j7 j29 j30 j8 : Value) : (bc (ltI n18 n17) (
 atT (SL a16 m16 c16) n18 5 fun g2 h3 =>
 ldN σ.heap g2 h3 5 fun l4 =>
 hdI .i64 l4 fun x6 l5 =>
 hdI .i64 l5 fun x8 l7 =>
 hdI .i64 l7 fun x10 l9 =>
 hdI .i64 l9 fun x12 l11 =>
 hdB l11 fun p14 l13 =>
 nl l13 (
 newC [I64 0, I64 0, I64 0, I64 0, BL false] σ fun σ15 =>
 wrT σ15 σ.next 0 [I64 x6, I64 x8, I64 x10, I64 x12, BL p14] fun σ16 =>
 callT rec 35 [SL a1 m1 c1, I64 n18] σ16 fun v17 σ18 =>
 asB v17 fun p19 =>
 bc p19 (
 zadd n18 1 fun x20 =>
 rec (.loop c_sonar_states_1 (keptIn P 18) (FR' P 18 Option.none ds σ18 [j4, j0, PT i2 o2, I64 x20, I64 n17, BL true, SL a16 m16 c16, SL a1 m1 c1, I64 n18, BL true, PT σ.next 0, j29, j30, PT i5 o5, j8]))) (
 ldN σ18.heap σ.next 0 5 fun l21 =>
 hdI .i64 l21 fun x23 l22 =>
 hdI .i64 l22 fun x25 l24 =>
 hdI .i64 l24 fun x27 l26 =>
 hdI .i64 l26 fun x29 l28 =>
 hdB l28 fun p31 l30 =>
 nl l30 (
 ld1 σ18.heap i2 (Nat.add o2 0) fun v32 =>
 asI .i64 v32 fun x33 =>
 callT rec 36 [AG [I64 x23, I64 x25, I64 x27, I64 x29, BL p31], I64 x33] σ18 fun v34 σ35 =>
 asF v34 fun g36 x37 y38 =>
 reS (newBlk (newBlk σ35 .defer) (.loop .ready Option.none (keptIn P 18) 18 (fillT (keptList P 18) [j4, j0, PT i2 o2, I64 n18, I64 n17, BL true, SL a16 m16 c16, SL a1 m1 c1, I64 n18, BL false, PT σ.next 0, FV g36 x37 y38, j30, PT i5 o5, j8]) [30] ra_sonar_states_2 rb_sonar_states_2 σ35.next)) fun σ39 =>
 ob (callReq g36 (x37.toList ++ [.func (.yield (Nat.succ σ35.next)) #[] #[]]) y38.toList σ39) fun q40 =>
 reqT rec q40 fun _ σ41 =>
 ob (leaveA (Nat.succ σ35.next) σ41) fun j42 =>
 ob (jumpExit j42.1) fun e43 =>
 k_sonar_states_2 rec e43 (FR' P 18 Option.none (σ35.next :: ds) j42.2 [j4, j0, PT i2 o2, I64 n18, I64 n17, BL true, SL a16 m16 c16, SL a1 m1 c1, I64 n18, BL false, PT σ.next 0, FV g36 x37 y38, j30, PT i5 o5, j8]))))) (
 some (.ex (.exit 0) (FR' P 18 Option.none ds σ [j4, j0, PT i2 o2, I64 n18, I64 n17, BL false, SL a16 m16 c16, SL a1 m1 c1, j6, j25, j7, j29, j30, PT i5 o5, j8])))) = execT P rec c_sonar_states_1 (keptIn P 18) (h_sonar_states_1 ds σ i2 o2 n18 n17 a16 m16 c16 a1 m1 c1 i5 o5 j4 j0 j19 j6 j25 j7 j29 j30 j8) (loopEnd rec c_sonar_states_1 (keptIn P 18)) := by kernel_rfl
theorem a_sonar_states_1_0 (rec : Rec) (σ0 : St) (ds : List Nat) (σ : St) (i5 o5 : Nat) (j4 j0 j2 j18 j17 j19 j16 j1 j6 j25 j7 j29 j30 j8 : Value) : (ld1 σ.heap i5 o5 fun v2 =>
 asL v2 fun d3 e4 f5 =>
 ob (dropDs ds σ) fun σ6 =>
 retT σ0 (SL d3 e4 f5) σ6) = k_sonar_states_1 rec σ0 (.exit 0) (x_sonar_states_1_0 ds σ i5 o5 j4 j0 j2 j18 j17 j19 j16 j1 j6 j25 j7 j29 j30 j8) := by kernel_rfl
theorem l_sonar_states_2 (rec : Rec) (L : Nat) (σ : St) (np30_0 np30_1 : Int) (i2 o2 : Nat) (n18 n17 : Int) (a16 : Option Addr) (m16 c16 : Nat) (a1 : Option Addr) (m1 c1 : Nat) (k29 : Fn) (ka29 kb29 : Array Value) (i5 o5 : Nat)  (j4 j0 j19 j6 j25 j7 j30 j8 : Value) : (newC [I64 0, I64 0] σ fun σ2 =>
 wrT σ2 σ.next 0 [I64 np30_0, I64 np30_1] fun σ3 =>
 ob (σ3.heap.get L) fun p4 =>
 ob (bLoop p4) fun q5 =>
 bc (isReady q5.st) (
 ob (setBlk σ3 L ({ q5 with st := .busy } : LoopB).blk) fun σ6 =>
 ld1 σ6.heap i5 o5 fun v7 =>
 asL v7 fun d8 e9 f10 =>
 ld1 σ6.heap σ.next 0 fun v11 =>
 asI .i64 v11 fun x12 =>
 atT (SL d8 e9 f10) x12 1 fun g13 h14 =>
 ld1 σ6.heap g13 h14 fun v15 =>
 asI .i64 v15 fun x16 =>
 ld1 σ6.heap σ.next 1 fun v17 =>
 asI .i64 v17 fun x18 =>
 ob (binA P .or 3 (.tmp 35) (.tmp 37) (I64 x16) (I64 x18)) fun v19 =>
 asI .i64 v19 fun x20 =>
 atT (SL d8 e9 f10) x12 1 fun g21 h22 =>
 wrT σ6 g21 h22 [I64 x20] fun σ23 =>
 endRoundA L .normal (FR' P 18 (some L) [] σ23 [j4, j0, PT i2 o2, I64 n18, I64 n17, j19, SL a16 m16 c16, SL a1 m1 c1, j6, j25, j7, FV k29 ka29 kb29, AG [I64 np30_0, I64 np30_1], PT i5 o5, PT σ.next 0])) none) = roundT P rec L [AG [I64 np30_0, I64 np30_1]] σ (keptIn P 18) 18 (h_sonar_states_2 i2 o2 n18 n17 a16 m16 c16 a1 m1 c1 k29 ka29 kb29 i5 o5 j4 j0 j19 j6 j25 j7 j30 j8) [30] ra_sonar_states_2 rb_sonar_states_2 := by kernel_rfl
theorem a_sonar_states_2_normal (rec : Rec) (ds : List Nat) (σ : St) (i2 o2 : Nat) (n18 n17 : Int) (a16 : Option Addr) (m16 c16 : Nat) (a1 : Option Addr) (m1 c1 i5 o5 : Nat) (j4 j0 j19 j6 j25 j7 j29 j30 j8 : Value) : (zadd n18 1 fun x2 =>
 rec (.loop c_sonar_states_1 (keptIn P 18) (FR' P 18 Option.none ds σ [j4, j0, PT i2 o2, I64 x2, I64 n17, j19, SL a16 m16 c16, SL a1 m1 c1, j6, j25, j7, j29, j30, PT i5 o5, j8]))) = k_sonar_states_2 rec .normal (x_sonar_states_2_normal ds σ i2 o2 n18 n17 a16 m16 c16 a1 m1 c1 i5 o5 j4 j0 j19 j6 j25 j7 j29 j30 j8) := by kernel_rfl
theorem t_survey_within (rec : Rec) (σ0 : St) (n0 n1 n2 : Int) : (reS { σ0 with low := σ0.next } fun σ1 =>
 bc (leI n1 n0) (
 retT σ0 (BL (leI n0 n2)) σ1) (
 retT σ0 (BL false) σ1)) = callC P rec 25 [I64 n0, I64 n1, I64 n2] σ0 := by kernel_rfl
noncomputable def c_survey_first_1 : Code := loopC (dn [1, 0, 1, 0] (bodyOf P 20))
noncomputable def k_survey_first_1 (rec : Rec) (σ0 : St) : KX := after P rec (keptIn P 20) [1, 0, 1, 0] (bodyOf P 20) (fun e fr => endT P σ0 (resOf P 20) e fr)
noncomputable abbrev h_survey_first_1 (σ : St) (n7 n6 : Int) (a5 : Option Addr) (m5 c5 : Nat) (j2 j0 j8 j4 j12 : Value) : Fr := (F P 20 σ [j2, j0, I64 n7, I64 n6, j8, SL a5 m5 c5, j4, j12])
noncomputable abbrev x_survey_first_1_0 (σ : St)  (j2 j0 j7 j6 j8 j5 j4 j12 : Value) : Fr := (F P 20 σ [j2, j0, j7, j6, j8, j5, j4, j12])
noncomputable abbrev x_survey_first_1_ret (σ : St) (n2 : Int) (j0 j7 j6 j8 j5 j4 j12 : Value) : Fr := (F P 20 σ [I64 n2, j0, j7, j6, j8, j5, j4, j12])
theorem t_survey_first (rec : Rec) (σ0 : St) (a0 : Option Addr) (m0 c0 : Nat) : (reS { σ0 with low := σ0.next } fun σ1 =>
 lenT (SL a0 m0 c0) fun x2 =>
 loopT rec c_survey_first_1 (keptIn P 20) (F P 20 σ1 [I64 0, SL a0 m0 c0, I64 0, I64 x2, poison, SL a0 m0 c0, poison, poison]) (k_survey_first_1 rec σ0)) = callC P rec 20 [SL a0 m0 c0] σ0 := by kernel_rfl
theorem l_survey_first_1 (rec : Rec) (σ : St) (n7 n6 : Int) (a5 : Option Addr) (m5 c5 : Nat) (j2 j0 j8 j4 j12 : Value) : (bc (ltI n7 n6) (
 atT (SL a5 m5 c5) n7 1 fun g2 h3 =>
 ld1 σ.heap g2 h3 fun v4 =>
 asI .i64 v4 fun x5 =>
 bc (bc (eqI x5 0) false true) (
 some (.ex .ret (F P 20 σ [I64 x5, j0, I64 n7, I64 n6, BL true, SL a5 m5 c5, I64 x5, BL true]))) (
 zadd n7 1 fun x6 =>
 rec (.loop c_survey_first_1 (keptIn P 20) (F P 20 σ [j2, j0, I64 x6, I64 n6, BL true, SL a5 m5 c5, I64 x5, BL false])))) (
 some (.ex (.exit 0) (F P 20 σ [j2, j0, I64 n7, I64 n6, BL false, SL a5 m5 c5, j4, j12])))) = execT P rec c_survey_first_1 (keptIn P 20) (h_survey_first_1 σ n7 n6 a5 m5 c5 j2 j0 j8 j4 j12) (loopEnd rec c_survey_first_1 (keptIn P 20)) := by kernel_rfl
theorem a_survey_first_1_0 (rec : Rec) (σ0 : St) (σ : St)  (j2 j0 j7 j6 j8 j5 j4 j12 : Value) : (retT σ0 (I64 0) σ) = k_survey_first_1 rec σ0 (.exit 0) (x_survey_first_1_0 σ j2 j0 j7 j6 j8 j5 j4 j12) := by kernel_rfl
theorem a_survey_first_1_ret (rec : Rec) (σ0 : St) (σ : St) (n2 : Int) (j0 j7 j6 j8 j5 j4 j12 : Value) : (retT σ0 (I64 n2) σ) = k_survey_first_1 rec σ0 .ret (x_survey_first_1_ret σ n2 j0 j7 j6 j8 j5 j4 j12) := by kernel_rfl
theorem t_survey_unless (rec : Rec) (σ0 : St) (b0 : Bool) (n1 : Int) : (reS { σ0 with low := σ0.next } fun σ1 =>
 bc b0 (
 retT σ0 (I64 0) σ1) (
 retT σ0 (I64 n1) σ1)) = callC P rec 21 [BL b0, I64 n1] σ0 := by kernel_rfl
noncomputable def c_survey_each_api_Range_1 : Code := loopC (dn [1, 0, 1, 0] (bodyOf P 24))
noncomputable def k_survey_each_api_Range_1 (rec : Rec) (σ0 : St) : KX := after P rec (keptIn P 24) [1, 0, 1, 0] (bodyOf P 24) (fun e fr => endT P σ0 (resOf P 24) e fr)
noncomputable abbrev h_survey_each_api_Range_1 (σ : St) (n11 n10 : Int) (a9 : Option Addr) (m9 c9 : Nat) (k1 : Fn) (ka1 kb1 : Array Value) (j4 j5 j0 j12 j6 j7 j8 j21 : Value) : Fr := (F P 24 σ [j4, j5, j0, I64 n11, I64 n10, j12, SL a9 m9 c9, FV k1 ka1 kb1, j6, j7, j8, j21])
noncomputable abbrev x_survey_each_api_Range_1_0 (σ : St)  (j4 j5 j0 j11 j10 j12 j9 j1 j6 j7 j8 j21 : Value) : Fr := (F P 24 σ [j4, j5, j0, j11, j10, j12, j9, j1, j6, j7, j8, j21])
noncomputable abbrev x_survey_each_api_Range_1_ret (σ : St) (n4 n5 : Int) (j0 j11 j10 j12 j9 j1 j6 j7 j8 j21 : Value) : Fr := (F P 24 σ [I64 n4, I64 n5, j0, j11, j10, j12, j9, j1, j6, j7, j8, j21])
theorem t_survey_each_api_Range (rec : Rec) (σ0 : St) (a0 : Option Addr) (m0 c0 : Nat) (k1 : Fn) (ka1 kb1 : Array Value) : (reS { σ0 with low := σ0.next } fun σ1 =>
 lenT (SL a0 m0 c0) fun x2 =>
 loopT rec c_survey_each_api_Range_1 (keptIn P 24) (F P 24 σ1 [I64 0, I64 0, SL a0 m0 c0, I64 0, I64 x2, poison, SL a0 m0 c0, FV k1 ka1 kb1, poison, poison, poison, poison]) (k_survey_each_api_Range_1 rec σ0)) = callC P rec 24 [SL a0 m0 c0, FV k1 ka1 kb1] σ0 := by kernel_rfl
theorem l_survey_each_api_Range_1 (rec : Rec) (σ : St) (n11 n10 : Int) (a9 : Option Addr) (m9 c9 : Nat) (k1 : Fn) (ka1 kb1 : Array Value) (j4 j5 j0 j12 j6 j7 j8 j21 : Value) : (bc (ltI n11 n10) (
 atT (SL a9 m9 c9) n11 2 fun g2 h3 =>
 ldN σ.heap g2 h3 2 fun l4 =>
 hdI .i64 l4 fun x6 l5 =>
 hdI .i64 l5 fun x8 l7 =>
 nl l7 (
 newC [I64 0, I64 0] σ fun σ9 =>
 wrT σ9 σ.next 0 [I64 x6, I64 x8] fun σ10 =>
 ldN σ10.heap σ.next 0 2 fun l11 =>
 hdI .i64 l11 fun x13 l12 =>
 hdI .i64 l12 fun x15 l14 =>
 nl l14 (
 callV rec (FV k1 ka1 kb1) [I64 n11, AG [I64 x13, I64 x15]] σ10 fun v16 σ17 =>
 asI .i64 v16 fun x18 =>
 bc (bc (eqI x18 0) false true) (
 some (.ex .ret (F P 24 σ17 [I64 n11, I64 x18, j0, I64 n11, I64 n10, BL true, SL a9 m9 c9, FV k1 ka1 kb1, I64 n11, PT σ.next 0, I64 x18, BL true]))) (
 zadd n11 1 fun x19 =>
 rec (.loop c_survey_each_api_Range_1 (keptIn P 24) (F P 24 σ17 [j4, j5, j0, I64 x19, I64 n10, BL true, SL a9 m9 c9, FV k1 ka1 kb1, I64 n11, PT σ.next 0, I64 x18, BL false])))))) (
 some (.ex (.exit 0) (F P 24 σ [j4, j5, j0, I64 n11, I64 n10, BL false, SL a9 m9 c9, FV k1 ka1 kb1, j6, j7, j8, j21])))) = execT P rec c_survey_each_api_Range_1 (keptIn P 24) (h_survey_each_api_Range_1 σ n11 n10 a9 m9 c9 k1 ka1 kb1 j4 j5 j0 j12 j6 j7 j8 j21) (loopEnd rec c_survey_each_api_Range_1 (keptIn P 24)) := by kernel_rfl
theorem a_survey_each_api_Range_1_0 (rec : Rec) (σ0 : St) (σ : St)  (j4 j5 j0 j11 j10 j12 j9 j1 j6 j7 j8 j21 : Value) : (retT σ0 (TU [I64 0, I64 0]) σ) = k_survey_each_api_Range_1 rec σ0 (.exit 0) (x_survey_each_api_Range_1_0 σ j4 j5 j0 j11 j10 j12 j9 j1 j6 j7 j8 j21) := by kernel_rfl
theorem a_survey_each_api_Range_1_ret (rec : Rec) (σ0 : St) (σ : St) (n4 n5 : Int) (j0 j11 j10 j12 j9 j1 j6 j7 j8 j21 : Value) : (retT σ0 (TU [I64 n4, I64 n5]) σ) = k_survey_each_api_Range_1 rec σ0 .ret (x_survey_each_api_Range_1_ret σ n4 n5 j0 j11 j10 j12 j9 j1 j6 j7 j8 j21) := by kernel_rfl
noncomputable def c_survey_runs_1 : Code := loopC (dn [1, 1, 0, 1, 0] (bodyOf P 26))
noncomputable def k_survey_runs_1 (rec : Rec) (σ0 : St) : KX := after P rec (keptIn P 26) [1, 1, 0, 1, 0] (bodyOf P 26) (fun e fr => endT P σ0 (resOf P 26) e fr)
noncomputable abbrev h_survey_runs_1 (σ : St) (n8 n1 : Int) (a7 : Option Addr) (m7 c7 : Nat) (k2 : Fn) (ka2 kb2 : Array Value) (j6 j0 j13 j24 j9 j29 : Value) : Fr := (F P 26 σ [j6, j0, I64 n8, I64 n1, j13, SL a7 m7 c7, FV k2 ka2 kb2, j24, j9, j29])
noncomputable abbrev x_survey_runs_1_0 (σ : St) (a7 : Option Addr) (m7 c7 : Nat) (j6 j0 j8 j1 j13 j2 j24 j9 j29 : Value) : Fr := (F P 26 σ [j6, j0, j8, j1, j13, SL a7 m7 c7, j2, j24, j9, j29])
theorem t_survey_runs (rec : Rec) (σ0 : St) (n0 n1 : Int) (k2 : Fn) (ka2 kb2 : Array Value) : (reS { σ0 with low := σ0.next } fun σ1 =>
 loopT rec c_survey_runs_1 (keptIn P 26) (F P 26 σ1 [SL none 0 0, I64 n0, I64 n0, I64 n1, poison, SL none 0 0, FV k2 ka2 kb2, poison, poison, poison]) (k_survey_runs_1 rec σ0)) = callC P rec 26 [I64 n0, I64 n1, FV k2 ka2 kb2] σ0 := by kernel_rfl
theorem l_survey_runs_1 (rec : Rec) (σ : St) (n8 n1 : Int) (a7 : Option Addr) (m7 c7 : Nat) (k2 : Fn) (ka2 kb2 : Array Value) (j6 j0 j13 j24 j9 j29 : Value) : (bc (leI n8 n1) (
 lenT (SL a7 m7 c7) fun x2 =>
 callV rec (FV k2 ka2 kb2) [I64 n8] σ fun v3 σ4 =>
 asB v3 fun p5 =>
 bc (!p5) (
 zadd n8 1 fun x6 =>
 rec (.loop c_survey_runs_1 (keptIn P 26) (F P 26 σ4 [j6, j0, I64 x6, I64 n1, BL true, SL a7 m7 c7, FV k2 ka2 kb2, BL true, I64 x2, j29]))) (
 bc (ltI 0 x2) (
 zsub x2 1 fun x7 =>
 atT (SL a7 m7 c7) x7 2 fun g8 h9 =>
 ld1 σ4.heap g8 (Nat.add h9 1) fun v10 =>
 asI .i64 v10 fun x11 =>
 zsub n8 1 fun x12 =>
 bc (eqI x11 x12) (
 zsub x2 1 fun x13 =>
 atT (SL a7 m7 c7) x13 2 fun g14 h15 =>
 wrT σ4 g14 (Nat.add h15 1) [I64 n8] fun σ16 =>
 zadd n8 1 fun x17 =>
 rec (.loop c_survey_runs_1 (keptIn P 26) (F P 26 σ16 [j6, j0, I64 x17, I64 n1, BL true, SL a7 m7 c7, FV k2 ka2 kb2, BL false, I64 x2, BL true]))) (
 newZ 2 [I64 n8, I64 n8] σ4 fun σ18 =>
 appT 2 16 (SL a7 m7 c7) (SL (some ⟨σ4.next, 0, Option.none⟩) 1 2) σ18 fun d19 e20 f21 σ22 =>
 zadd n8 1 fun x23 =>
 rec (.loop c_survey_runs_1 (keptIn P 26) (F P 26 σ22 [j6, j0, I64 x23, I64 n1, BL true, SL d19 e20 f21, FV k2 ka2 kb2, BL false, I64 x2, BL false])))) (
 newZ 2 [I64 n8, I64 n8] σ4 fun σ24 =>
 appT 2 16 (SL a7 m7 c7) (SL (some ⟨σ4.next, 0, Option.none⟩) 1 2) σ24 fun d25 e26 f27 σ28 =>
 zadd n8 1 fun x29 =>
 rec (.loop c_survey_runs_1 (keptIn P 26) (F P 26 σ28 [j6, j0, I64 x29, I64 n1, BL true, SL d25 e26 f27, FV k2 ka2 kb2, BL false, I64 x2, BL false]))))) (
 some (.ex (.exit 0) (F P 26 σ [j6, j0, I64 n8, I64 n1, BL false, SL a7 m7 c7, FV k2 ka2 kb2, j24, j9, j29])))) = execT P rec c_survey_runs_1 (keptIn P 26) (h_survey_runs_1 σ n8 n1 a7 m7 c7 k2 ka2 kb2 j6 j0 j13 j24 j9 j29) (loopEnd rec c_survey_runs_1 (keptIn P 26)) := by kernel_rfl
theorem a_survey_runs_1_0 (rec : Rec) (σ0 : St) (σ : St) (a7 : Option Addr) (m7 c7 : Nat) (j6 j0 j8 j1 j13 j2 j24 j9 j29 : Value) : (retT σ0 (SL a7 m7 c7) σ) = k_survey_runs_1 rec σ0 (.exit 0) (x_survey_runs_1_0 σ a7 m7 c7 j6 j0 j8 j1 j13 j2 j24 j9 j29) := by kernel_rfl
theorem t_survey_GapsIn (rec : Rec) (σ0 : St) (a0 : Option Addr) (m0 c0 : Nat) (n1_0 n1_1 n2 : Int) : (reS { σ0 with low := σ0.next } fun σ1 =>
 newC [SL a0 m0 c0] σ1 fun σ2 =>
 newC [I64 n1_0, I64 n1_1] σ2 fun σ3 =>
 newC [I64 n2] σ3 fun σ4 =>
 ld1 σ4.heap σ1.next 0 fun v5 =>
 asL v5 fun d6 e7 f8 =>
 lenT (SL d6 e7 f8) fun x9 =>
 bc (ltI 12 x9) (
 retT σ0 (TU [SL none 0 0, I64 8]) σ4) (
 ld1 σ4.heap σ1.next 0 fun v10 =>
 asL v10 fun d11 e12 f13 =>
 callT rec 24 [SL d11 e12 f13, FN 19 [] []] σ4 fun v14 σ15 =>
 asT v14 fun l16 =>
 hdI .i64 l16 fun x18 l17 =>
 hdI .i64 l17 fun x20 l19 =>
 nl l19 (
 ldN σ15.heap σ2.next 0 2 fun l21 =>
 hdI .i64 l21 fun x23 l22 =>
 hdI .i64 l22 fun x25 l24 =>
 nl l24 (
 reS (wallUp σ15) fun σ26 =>
 callT rec 19 [I64 0, AG [I64 x23, I64 x25]] σ26 fun v27 σ28 =>
 asI .i64 v27 fun x29 =>
 reS (wallTo σ15.wall σ28) fun σ30 =>
 ld1 σ30.heap σ3.next 0 fun v31 =>
 asI .i64 v31 fun x32 =>
 reS (wallUp σ30) fun σ33 =>
 callT rec 25 [I64 x32, I64 1, I64 12] σ33 fun v34 σ35 =>
 asB v34 fun p36 =>
 reS (wallTo σ30.wall σ35) fun σ37 =>
 reS (wallUp σ37) fun σ38 =>
 callT rec 21 [BL p36, I64 2] σ38 fun v39 σ40 =>
 asI .i64 v39 fun x41 =>
 reS (wallTo σ37.wall σ40) fun σ42 =>
 reS (wallUp σ42) fun σ43 =>
 newZ 1 [I64 x20, I64 x29, I64 x41] σ43 fun σ44 =>
 reS (wallTo σ42.wall σ44) fun σ45 =>
 callT rec 20 [SL (some ⟨σ43.next, 0, Option.none⟩) 3 4] σ45 fun v46 σ47 =>
 asI .i64 v46 fun x48 =>
 bc (bc (eqI x48 0) false true) (
 retT σ0 (TU [SL none 0 0, I64 x48]) σ47) (
 ld1 σ47.heap σ2.next 0 fun v49 =>
 asI .i64 v49 fun x50 =>
 ld1 σ47.heap σ2.next 1 fun v51 =>
 asI .i64 v51 fun x52 =>
 callT rec 26 [I64 x50, I64 x52, FN 27 [] [PT σ1.next 0, PT σ3.next 0]] σ47 fun v53 σ54 =>
 asL v53 fun d55 e56 f57 =>
 retT σ0 (TU [SL d55 e56 f57, I64 0]) σ54))))) = callC P rec 8 [SL a0 m0 c0, AG [I64 n1_0, I64 n1_1], I64 n2] σ0 := by kernel_rfl
theorem t_survey_GapsIn_1 (rec : Rec) (σ0 : St) (n0 n1_0 n1_1 : Int) : (reS { σ0 with low := σ0.next } fun σ1 =>
 newC [I64 n1_0, I64 n1_1] σ1 fun σ2 =>
 ldN σ2.heap σ1.next 0 2 fun l3 =>
 hdI .i64 l3 fun x5 l4 =>
 hdI .i64 l4 fun x7 l6 =>
 nl l6 (
 newC [I64 0, I64 0] σ2 fun σ8 =>
 wrT σ8 σ2.next 0 [I64 x5, I64 x7] fun σ9 =>
 ldN σ9.heap σ2.next 0 2 fun l10 =>
 hdI .i64 l10 fun x12 l11 =>
 hdI .i64 l11 fun x14 l13 =>
 nl l13 (
 reS (wallUp σ9) fun σ15 =>
 callT rec 22 [AG [I64 x12, I64 x14], I64 0, I64 100000] σ15 fun v16 σ17 =>
 asB v16 fun p18 =>
 reS (wallTo σ9.wall σ17) fun σ19 =>
 reS (wallUp σ19) fun σ20 =>
 callT rec 21 [BL p18, I64 2] σ20 fun v21 σ22 =>
 asI .i64 v21 fun x23 =>
 reS (wallTo σ19.wall σ22) fun σ24 =>
 ldN σ24.heap σ2.next 0 2 fun l25 =>
 hdI .i64 l25 fun x27 l26 =>
 hdI .i64 l26 fun x29 l28 =>
 nl l28 (
 reS (wallUp σ24) fun σ30 =>
 callT rec 23 [AG [I64 x27, I64 x29]] σ30 fun v31 σ32 =>
 asB v31 fun p33 =>
 reS (wallTo σ24.wall σ32) fun σ34 =>
 reS (wallUp σ34) fun σ35 =>
 callT rec 21 [BL p33, I64 9] σ35 fun v36 σ37 =>
 asI .i64 v36 fun x38 =>
 reS (wallTo σ34.wall σ37) fun σ39 =>
 reS (wallUp σ39) fun σ40 =>
 newZ 1 [I64 x23, I64 x38] σ40 fun σ41 =>
 reS (wallTo σ39.wall σ41) fun σ42 =>
 callT rec 20 [SL (some ⟨σ40.next, 0, Option.none⟩) 2 3] σ42 fun v43 σ44 =>
 asI .i64 v43 fun x45 =>
 retT σ0 (I64 x45) σ44)))) = callC P rec 19 [I64 n0, AG [I64 n1_0, I64 n1_1]] σ0 := by kernel_rfl
noncomputable def c_survey_GapsIn_2_1 : Code := loopC (dn [1, 1, 0, 1, 0] (bodyOf P 27))
noncomputable def k_survey_GapsIn_2_1 (rec : Rec) (σ0 : St) : KX := after P rec (keptIn P 27) [1, 1, 0, 1, 0] (bodyOf P 27) (fun e fr => endT P σ0 (resOf P 27) e fr)
noncomputable abbrev h_survey_GapsIn_2_1 (σ : St) (n10 n9 : Int) (a8 : Option Addr) (m8 c8 : Nat) (n0 n5 : Int) (i2 o2 : Nat) (j4 j1 j11 j7 j19 : Value) : Fr := (F P 27 σ [j4, j1, I64 n10, I64 n9, j11, SL a8 m8 c8, I64 n0, j7, j19, I64 n5, PT i2 o2])
noncomputable abbrev x_survey_GapsIn_2_1_0 (σ : St) (n5 : Int) (i2 o2 : Nat) (j4 j1 j10 j9 j11 j8 j0 j7 j19 : Value) : Fr := (F P 27 σ [j4, j1, j10, j9, j11, j8, j0, j7, j19, I64 n5, PT i2 o2])
theorem t_survey_GapsIn_2 (rec : Rec) (σ0 : St) (n0 : Int) (i1 o1 i2 o2 : Nat) : (reS { σ0 with low := σ0.next } fun σ1 =>
 ld1 σ1.heap i1 o1 fun v2 =>
 asL v2 fun d3 e4 f5 =>
 lenT (SL d3 e4 f5) fun x6 =>
 loopT rec c_survey_GapsIn_2_1 (keptIn P 27) (F P 27 σ1 [BL false, PT i1 o1, I64 0, I64 x6, poison, SL d3 e4 f5, I64 n0, poison, poison, I64 0, PT i2 o2]) (k_survey_GapsIn_2_1 rec σ0)) = callC P rec 27 [I64 n0, PT i1 o1, PT i2 o2] σ0 := by kernel_rfl
theorem l_survey_GapsIn_2_1 (rec : Rec) (σ : St) (n10 n9 : Int) (a8 : Option Addr) (m8 c8 : Nat) (n0 n5 : Int) (i2 o2 : Nat) (j4 j1 j11 j7 j19 : Value) : (bc (ltI n10 n9) (
 atT (SL a8 m8 c8) n10 2 fun g2 h3 =>
 ldN σ.heap g2 h3 2 fun l4 =>
 hdI .i64 l4 fun x6 l5 =>
 hdI .i64 l5 fun x8 l7 =>
 nl l7 (
 newC [I64 0, I64 0] σ fun σ9 =>
 wrT σ9 σ.next 0 [I64 x6, I64 x8] fun σ10 =>
 ld1 σ10.heap σ.next 0 fun v11 =>
 asI .i64 v11 fun x12 =>
 ld1 σ10.heap σ.next 1 fun v13 =>
 asI .i64 v13 fun x14 =>
 callT rec 25 [I64 n0, I64 x12, I64 x14] σ10 fun v15 σ16 =>
 asB v15 fun p17 =>
 bc p17 (
 zadd n5 1 fun x18 =>
 zadd n10 1 fun x19 =>
 rec (.loop c_survey_GapsIn_2_1 (keptIn P 27) (F P 27 σ16 [j4, j1, I64 x19, I64 n9, BL true, SL a8 m8 c8, I64 n0, PT σ.next 0, BL true, I64 x18, PT i2 o2]))) (
 zadd n10 1 fun x20 =>
 rec (.loop c_survey_GapsIn_2_1 (keptIn P 27) (F P 27 σ16 [j4, j1, I64 x20, I64 n9, BL true, SL a8 m8 c8, I64 n0, PT σ.next 0, BL false, I64 n5, PT i2 o2]))))) (
 some (.ex (.exit 0) (F P 27 σ [j4, j1, I64 n10, I64 n9, BL false, SL a8 m8 c8, I64 n0, j7, j19, I64 n5, PT i2 o2])))) = execT P rec c_survey_GapsIn_2_1 (keptIn P 27) (h_survey_GapsIn_2_1 σ n10 n9 a8 m8 c8 n0 n5 i2 o2 j4 j1 j11 j7 j19) (loopEnd rec c_survey_GapsIn_2_1 (keptIn P 27)) := by kernel_rfl
theorem a_survey_GapsIn_2_1_0 (rec : Rec) (σ0 : St) (σ : St) (n5 : Int) (i2 o2 : Nat) (j4 j1 j10 j9 j11 j8 j0 j7 j19 : Value) : (ld1 σ.heap i2 o2 fun v2 =>
 asI .i64 v2 fun x3 =>
 retT σ0 (BL (ltI n5 x3)) σ) = k_survey_GapsIn_2_1 rec σ0 (.exit 0) (x_survey_GapsIn_2_1_0 σ n5 i2 o2 j4 j1 j10 j9 j11 j8 j0 j7 j19) := by kernel_rfl
theorem t_survey_span_isWithin (rec : Rec) (σ0 : St) (n0_0 n0_1 n1 n2 : Int) : (reS { σ0 with low := σ0.next } fun σ1 =>
 newC [I64 n0_0, I64 n0_1] σ1 fun σ2 =>
 ld1 σ2.heap σ1.next 0 fun v3 =>
 asI .i64 v3 fun x4 =>
 callT rec 25 [I64 x4, I64 n1, I64 n2] σ2 fun v5 σ6 =>
 asB v5 fun p7 =>
 bc p7 (
 ld1 σ6.heap σ1.next 1 fun v8 =>
 asI .i64 v8 fun x9 =>
 callT rec 25 [I64 x9, I64 n1, I64 n2] σ6 fun v10 σ11 =>
 asB v10 fun p12 =>
 retT σ0 (BL p12) σ11) (
 retT σ0 (BL false) σ6)) = callC P rec 22 [AG [I64 n0_0, I64 n0_1], I64 n1, I64 n2] σ0 := by kernel_rfl
theorem t_survey_span_isOrdered (rec : Rec) (σ0 : St) (n0_0 n0_1 : Int) : (reS { σ0 with low := σ0.next } fun σ1 =>
 newC [I64 n0_0, I64 n0_1] σ1 fun σ2 =>
 ld1 σ2.heap σ1.next 0 fun v3 =>
 asI .i64 v3 fun x4 =>
 ld1 σ2.heap σ1.next 1 fun v5 =>
 asI .i64 v5 fun x6 =>
 retT σ0 (BL (leI x4 x6)) σ2) = callC P rec 23 [AG [I64 n0_0, I64 n0_1]] σ0 := by kernel_rfl
noncomputable def c_top_TopSurveySeen_1 : Code := loopC (dn [1, 1, 1, 1, 1, 1, 0, 1, 0] (bodyOf P 3))
noncomputable def k_top_TopSurveySeen_1 (rec : Rec) (σ0 : St) : KX := after P rec (keptIn P 3) [1, 1, 1, 1, 1, 1, 0, 1, 0] (bodyOf P 3) (fun e fr => endT P σ0 (resOf P 3) e fr)
noncomputable abbrev h_top_TopSurveySeen_1 (σ : St) (n0 : Int) (a1 : Option Addr) (m1 c1 i5 o5 : Nat) (n7 : Int) (a6 : Option Addr) (m6 c6 : Nat) (j4 j23 j31 j39 j43 j8 j9 j11 j13 j10 j12 j99 j14 j102 j16 j108 j15 j132 j135 j18 j17 j162 j19 j166 j21 j172 j20 j203 : Value) : Fr := (F P 3 σ [j4, j23, I64 n0, SL a1 m1 c1, j31, PT i5 o5, j39, I64 n7, j43, SL a6 m6 c6, j8, j9, j11, j13, j10, j12, j99, j14, j102, j16, j108, j15, j132, j135, j18, j17, j162, j19, j166, j21, j172, j20, j203])
noncomputable abbrev x_top_TopSurveySeen_1_0 (σ : St) (n0 : Int) (a1 : Option Addr) (m1 c1 i5 o5 : Nat) (a6 : Option Addr) (m6 c6 : Nat) (j4 j23 j31 j39 j7 j43 j8 j9 j11 j13 j10 j12 j99 j14 j102 j16 j108 j15 j132 j135 j18 j17 j162 j19 j166 j21 j172 j20 j203 : Value) : Fr := (F P 3 σ [j4, j23, I64 n0, SL a1 m1 c1, j31, PT i5 o5, j39, j7, j43, SL a6 m6 c6, j8, j9, j11, j13, j10, j12, j99, j14, j102, j16, j108, j15, j132, j135, j18, j17, j162, j19, j166, j21, j172, j20, j203])
noncomputable def c_top_TopSurveySeen_2 : Code := loopC (dn [1, 1, 1, 1, 1, 1, 1, 1, 1, 1, 0, 1, 0] (bodyOf P 3))
noncomputable def k_top_TopSurveySeen_2 (rec : Rec) (σ0 : St) : KX := after P rec (keptIn P 3) [1, 1, 1, 1, 1, 1, 1, 1, 1, 1, 0, 1, 0] (bodyOf P 3) (fun e fr => endT P σ0 (resOf P 3) e fr)
noncomputable abbrev h_top_TopSurveySeen_2 (σ : St) (n0 : Int) (a1 : Option Addr) (m1 c1 : Nat) (a6 : Option Addr) (m6 c6 : Nat) (a10 : Option Addr) (m10 c10 : Nat) (a12 : Option Addr) (m12 c12 : Nat) (n14 : Int) (j4 j23 j31 j5 j39 j7 j43 j8 j9 j11 j13 j99 j102 j16 j108 j15 j132 j135 j18 j17 j162 j19 j166 j21 j172 j20 j203 : Value) : Fr := (F P 3 σ [j4, j23, I64 n0, SL a1 m1 c1, j31, j5, j39, j7, j43, SL a6 m6 c6, j8, j9, j11, j13, SL a10 m10 c10, SL a12 m12 c12, j99, I64 n14, j102, j16, j108, j15, j132, j135, j18, j17, j162, j19, j166, j21, j172, j20, j203])
noncomputable abbrev x_top_TopSurveySeen_2_2 (σ : St) (n0 : Int) (a1 : Option Addr) (m1 c1 : Nat) (a6 : Option Addr) (m6 c6 : Nat) (a12 : Option Addr) (m12 c12 : Nat) (j4 j23 j31 j5 j39 j7 j43 j8 j9 j11 j13 j10 j99 j14 j102 j16 j108 j15 j132 j135 j18 j17 j162 j19 j166 j21 j172 j20 j203 : Value) : Fr := (F P 3 σ [j4, j23, I64 n0, SL a1 m1 c1, j31, j5, j39, j7, j43, SL a6 m6 c6, j8, j9, j11, j13, j10, SL a12 m12 c12, j99, j14, j102, j16, j108, j15, j132, j135, j18, j17, j162, j19, j166, j21, j172, j20, j203])
noncomputable abbrev x_top_TopSurveySeen_2_ret (σ : St) (b4 : Bool) (j23 j0 j1 j31 j5 j39 j7 j43 j6 j8 j9 j11 j13 j10 j12 j99 j14 j102 j16 j108 j15 j132 j135 j18 j17 j162 j19 j166 j21 j172 j20 j203 : Value) : Fr := (F P 3 σ [BL b4, j23, j0, j1, j31, j5, j39, j7, j43, j6, j8, j9, j11, j13, j10, j12, j99, j14, j102, j16, j108, j15, j132, j135, j18, j17, j162, j19, j166, j21, j172, j20, j203])
noncomputable def c_top_TopSurveySeen_3 : Code := loopC (dn [1, 0, 0, 1, 0, 1, 0] (c_top_TopSurveySeen_2))
noncomputable def k_top_TopSurveySeen_3 (rec : Rec) : KX := after P rec (keptIn P 3) [1, 0, 0, 1, 0, 1, 0] (c_top_TopSurveySeen_2) (loopEnd rec c_top_TopSurveySeen_2 (keptIn P 3))
noncomputable abbrev h_top_TopSurveySeen_3 (σ : St) (n0 : Int) (a1 : Option Addr) (m1 c1 : Nat) (a6 : Option Addr) (m6 c6 : Nat) (a10 : Option Addr) (m10 c10 : Nat) (a12 : Option Addr) (m12 c12 : Nat) (n14 n16 : Int) (b15 : Bool) (j4 j23 j31 j5 j39 j7 j43 j8 j9 j11 j13 j99 j102 j108 j132 j135 j18 j17 j162 j19 j166 j21 j172 j20 j203 : Value) : Fr := (F P 3 σ [j4, j23, I64 n0, SL a1 m1 c1, j31, j5, j39, j7, j43, SL a6 m6 c6, j8, j9, j11, j13, SL a10 m10 c10, SL a12 m12 c12, j99, I64 n14, j102, I64 n16, j108, BL b15, j132, j135, j18, j17, j162, j19, j166, j21, j172, j20, j203])
noncomputable abbrev x_top_TopSurveySeen_3_4 (σ : St) (n0 : Int) (a1 : Option Addr) (m1 c1 : Nat) (a6 : Option Addr) (m6 c6 : Nat) (a10 : Option Addr) (m10 c10 : Nat) (a12 : Option Addr) (m12 c12 : Nat) (n14 : Int) (b15 : Bool) (j4 j23 j31 j5 j39 j7 j43 j8 j9 j11 j13 j99 j102 j16 j108 j132 j135 j18 j17 j162 j19 j166 j21 j172 j20 j203 : Value) : Fr := (F P 3 σ [j4, j23, I64 n0, SL a1 m1 c1, j31, j5, j39, j7, j43, SL a6 m6 c6, j8, j9, j11, j13, SL a10 m10 c10, SL a12 m12 c12, j99, I64 n14, j102, j16, j108, BL b15, j132, j135, j18, j17, j162, j19, j166, j21, j172, j20, j203])
noncomputable def c_top_TopSurveySeen_4 : Code := loopC (dn [1, 1, 1, 1, 1, 1, 1, 1, 1, 1, 1, 1, 1, 1, 0, 1, 0] (bodyOf P 3))
noncomputable def k_top_TopSurveySeen_4 (rec : Rec) (σ0 : St) : KX := after P rec (keptIn P 3) [1, 1, 1, 1, 1, 1, 1, 1, 1, 1, 1, 1, 1, 1, 0, 1, 0] (bodyOf P 3) (fun e fr => endT P σ0 (resOf P 3) e fr)
noncomputable abbrev h_top_TopSurveySeen_4 (σ : St) (a12 : Option Addr) (m12 c12 : Nat) (a17 : Option Addr) (m17 c17 : Nat) (n19 : Int) (j4 j23 j0 j1 j31 j5 j39 j7 j43 j6 j8 j9 j11 j13 j10 j99 j14 j102 j16 j108 j15 j132 j135 j18 j162 j166 j21 j172 j20 j203 : Value) : Fr := (F P 3 σ [j4, j23, j0, j1, j31, j5, j39, j7, j43, j6, j8, j9, j11, j13, j10, SL a12 m12 c12, j99, j14, j102, j16, j108, j15, j132, j135, j18, SL a17 m17 c17, j162, I64 n19, j166, j21, j172, j20, j203])
noncomputable abbrev x_top_TopSurveySeen_4_6 (σ : St)  (j4 j23 j0 j1 j31 j5 j39 j7 j43 j6 j8 j9 j11 j13 j10 j12 j99 j14 j102 j16 j108 j15 j132 j135 j18 j17 j162 j19 j166 j21 j172 j20 j203 : Value) : Fr := (F P 3 σ [j4, j23, j0, j1, j31, j5, j39, j7, j43, j6, j8, j9, j11, j13, j10, j12, j99, j14, j102, j16, j108, j15, j132, j135, j18, j17, j162, j19, j166, j21, j172, j20, j203])
noncomputable abbrev x_top_TopSurveySeen_4_ret (σ : St) (b4 : Bool) (j23 j0 j1 j31 j5 j39 j7 j43 j6 j8 j9 j11 j13 j10 j12 j99 j14 j102 j16 j108 j15 j132 j135 j18 j17 j162 j19 j166 j21 j172 j20 j203 : Value) : Fr := (F P 3 σ [BL b4, j23, j0, j1, j31, j5, j39, j7, j43, j6, j8, j9, j11, j13, j10, j12, j99, j14, j102, j16, j108, j15, j132, j135, j18, j17, j162, j19, j166, j21, j172, j20, j203])
noncomputable def c_top_TopSurveySeen_5 : Code := loopC (dn [1, 0, 0, 1, 0, 1, 0] (c_top_TopSurveySeen_4))
noncomputable def k_top_TopSurveySeen_5 (rec : Rec) : KX := after P rec (keptIn P 3) [1, 0, 0, 1, 0, 1, 0] (c_top_TopSurveySeen_4) (loopEnd rec c_top_TopSurveySeen_4 (keptIn P 3))
noncomputable abbrev h_top_TopSurveySeen_5 (σ : St) (a12 : Option Addr) (m12 c12 : Nat) (a17 : Option Addr) (m17 c17 : Nat) (n19 n21 : Int) (b20 : Bool) (j4 j23 j0 j1 j31 j5 j39 j7 j43 j6 j8 j9 j11 j13 j10 j99 j14 j102 j16 j108 j15 j132 j135 j18 j162 j166 j172 j203 : Value) : Fr := (F P 3 σ [j4, j23, j0, j1, j31, j5, j39, j7, j43, j6, j8, j9, j11, j13, j10, SL a12 m12 c12, j99, j14, j102, j16, j108, j15, j132, j135, j18, SL a17 m17 c17, j162, I64 n19, j166, I64 n21, j172, BL b20, j203])
noncomputable abbrev x_top_TopSurveySeen_5_8 (σ : St) (a12 : Option Addr) (m12 c12 : Nat) (a17 : Option Addr) (m17 c17 : Nat) (n19 : Int) (b20 : Bool) (j4 j23 j0 j1 j31 j5 j39 j7 j43 j6 j8 j9 j11 j13 j10 j99 j14 j102 j16 j108 j15 j132 j135 j18 j162 j166 j21 j172 j203 : Value) : Fr := (F P 3 σ [j4, j23, j0, j1, j31, j5, j39, j7, j43, j6, j8, j9, j11, j13, j10, SL a12 m12 c12, j99, j14, j102, j16, j108, j15, j132, j135, j18, SL a17 m17 c17, j162, I64 n19, j166, j21, j172, BL b20, j203])
theorem t_top_TopSurveySeen (rec : Rec) (σ0 : St) (n0 : Int) (a1 : Option Addr) (m1 c1 : Nat) : (reS { σ0 with low := σ0.next } fun σ1 =>
 callT rec 4 [] σ1 fun v2 σ3 =>
 asB v2 fun p4 =>
 bc (!p4) (
 retT σ0 (BL false) σ3) (
 callT rec 5 [I64 n0, I64 1, I64 12] σ3 fun v5 σ6 =>
 asB v5 fun p7 =>
 bc (!p7) (
 retT σ0 (BL true) σ6) (
 lenT (SL a1 m1 c1) fun x8 =>
 bc (ltI 9 x8) (
 retT σ0 (BL true) σ6) (
 newZ 5 [] σ6 fun σ9 =>
 appT 5 40 (SL (some ⟨σ6.next, 0, Option.none⟩) 0 1) (SL a1 m1 c1) σ9 fun d10 e11 f12 σ13 =>
 newC [I64 0, I64 0, SL none 0 0] σ13 fun σ14 =>
 wrT σ14 σ13.next 0 [I64 n0, I64 1, SL d10 e11 f12] fun σ15 =>
 ldN σ15.heap σ13.next 0 3 fun l16 =>
 hdI .i64 l16 fun x18 l17 =>
 hdI .i64 l17 fun x20 l19 =>
 hdL l19 fun d22 e23 f24 l21 =>
 nl l21 (
 callT rec 6 [AG [I64 x18, I64 x20, SL d22 e23 f24]] σ15 fun v25 σ26 =>
 asI .i64 v25 fun x27 =>
 bc (bc (eqI x27 0) false true) (
 retT σ0 (BL true) σ26) (
 loopT rec c_top_TopSurveySeen_1 (keptIn P 3) (F P 3 σ26 [BL false, BL false, I64 n0, SL a1 m1 c1, BL false, PT σ13.next 0, BL false, I64 0, poison, SL none 0 0, poison, poison, poison, poison, poison, poison, poison, poison, poison, poison, poison, poison, poison, poison, poison, poison, poison, poison, poison, poison, poison, poison, poison]) (k_top_TopSurveySeen_1 rec σ0))))))) = callC P rec 3 [I64 n0, SL a1 m1 c1] σ0 := by kernel_rfl
theorem l_top_TopSurveySeen_1 (rec : Rec) (σ : St) (n0 : Int) (a1 : Option Addr) (m1 c1 i5 o5 : Nat) (n7 : Int) (a6 : Option Addr) (m6 c6 : Nat) (j4 j23 j31 j39 j43 j8 j9 j11 j13 j10 j12 j99 j14 j102 j16 j108 j15 j132 j135 j18 j17 j162 j19 j166 j21 j172 j20 j203 : Value) : (lenT (SL a1 m1 c1) fun x2 =>
 bc (ltI n7 x2) (
 atT (SL a1 m1 c1) n7 5 fun g3 h4 =>
 ld1 σ.heap g3 (Nat.add (Nat.add h4 0) 0) fun v5 =>
 asI .i64 v5 fun x6 =>
 atT (SL a1 m1 c1) n7 5 fun g7 h8 =>
 ld1 σ.heap g7 (Nat.add (Nat.add h8 2) 0) fun v9 =>
 asI .i64 v9 fun x10 =>
 zop (if x10 < x6 then x10 else x6) fun x11 =>
 zop (if x6 < x10 then x10 else x6) fun x12 =>
 newZ 2 [I64 x11, I64 x12] σ fun σ13 =>
 appT 2 16 (SL a6 m6 c6) (SL (some ⟨σ.next, 0, Option.none⟩) 1 2) σ13 fun d14 e15 f16 σ17 =>
 zadd n7 1 fun x18 =>
 rec (.loop c_top_TopSurveySeen_1 (keptIn P 3) (F P 3 σ17 [j4, j23, I64 n0, SL a1 m1 c1, j31, PT i5 o5, j39, I64 x18, BL true, SL d14 e15 f16, I64 x6, I64 x10, j11, j13, j10, j12, j99, j14, j102, j16, j108, j15, j132, j135, j18, j17, j162, j19, j166, j21, j172, j20, j203]))) (
 some (.ex (.exit 0) (F P 3 σ [j4, j23, I64 n0, SL a1 m1 c1, j31, PT i5 o5, j39, I64 n7, BL false, SL a6 m6 c6, j8, j9, j11, j13, j10, j12, j99, j14, j102, j16, j108, j15, j132, j135, j18, j17, j162, j19, j166, j21, j172, j20, j203])))) = execT P rec c_top_TopSurveySeen_1 (keptIn P 3) (h_top_TopSurveySeen_1 σ n0 a1 m1 c1 i5 o5 n7 a6 m6 c6 j4 j23 j31 j39 j43 j8 j9 j11 j13 j10 j12 j99 j14 j102 j16 j108 j15 j132 j135 j18 j17 j162 j19 j166 j21 j172 j20 j203) (loopEnd rec c_top_TopSurveySeen_1 (keptIn P 3)) := by kernel_rfl
theorem a_top_TopSurveySeen_1_0 (rec : Rec) (σ0 : St) (σ : St) (n0 : Int) (a1 : Option Addr) (m1 c1 i5 o5 : Nat) (a6 : Option Addr) (m6 c6 : Nat) (j4 j23 j31 j39 j7 j43 j8 j9 j11 j13 j10 j12 j99 j14 j102 j16 j108 j15 j132 j135 j18 j17 j162 j19 j166 j21 j172 j20 j203 : Value) : (ldN σ.heap i5 o5 3 fun l2 =>
 hdI .i64 l2 fun x4 l3 =>
 hdI .i64 l3 fun x6 l5 =>
 hdL l5 fun d8 e9 f10 l7 =>
 nl l7 (
 callT rec 7 [AG [I64 x4, I64 x6, SL d8 e9 f10]] σ fun v11 σ12 =>
 asT v11 fun l13 =>
 hdL l13 fun d15 e16 f17 l14 =>
 hdI .i64 l14 fun x19 l18 =>
 nl l18 (
 callT rec 9 [SL a6 m6 c6] σ12 fun v20 σ21 =>
 asL v20 fun d22 e23 f24 =>
 zsub n0 1 fun x25 =>
 callT rec 8 [SL d22 e23 f24, AG [I64 0, I64 x25], I64 1] σ21 fun v26 σ27 =>
 asT v26 fun l28 =>
 hdL l28 fun d30 e31 f32 l29 =>
 hdI .i64 l29 fun x34 l33 =>
 nl l33 (
 bc (bc (eqI x19 0) false true) (
 retT σ0 (BL false) σ27) (
 bc (bc (eqI x34 0) false true) (
 retT σ0 (BL false) σ27) (
 lenT (SL d15 e16 f17) fun x35 =>
 bc (bc (eqI x35 n0) false true) (
 retT σ0 (BL false) σ27) (
 lenT (SL d30 e31 f32) fun x36 =>
 bc (ltI n0 x36) (
 retT σ0 (BL false) σ27) (
 loopT rec c_top_TopSurveySeen_2 (keptIn P 3) (F P 3 σ27 [j4, j23, I64 n0, SL a1 m1 c1, j31, PT i5 o5, j39, j7, j43, SL a6 m6 c6, j8, j9, I64 x19, I64 x34, SL d15 e16 f17, SL d30 e31 f32, BL false, I64 0, j102, j16, j108, j15, j132, j135, j18, j17, j162, j19, j166, j21, j172, j20, j203]) (k_top_TopSurveySeen_2 rec σ0))))))))) = k_top_TopSurveySeen_1 rec σ0 (.exit 0) (x_top_TopSurveySeen_1_0 σ n0 a1 m1 c1 i5 o5 a6 m6 c6 j4 j23 j31 j39 j7 j43 j8 j9 j11 j13 j10 j12 j99 j14 j102 j16 j108 j15 j132 j135 j18 j17 j162 j19 j166 j21 j172 j20 j203) := by kernel_rfl
theorem l_top_TopSurveySeen_2 (rec : Rec) (σ : St) (n0 : Int) (a1 : Option Addr) (m1 c1 : Nat) (a6 : Option Addr) (m6 c6 : Nat) (a10 : Option Addr) (m10 c10 : Nat) (a12 : Option Addr) (m12 c12 : Nat) (n14 : Int) (j4 j23 j31 j5 j39 j7 j43 j8 j9 j11 j13 j99 j102 j16 j108 j15 j132 j135 j18 j17 j162 j19 j166 j21 j172 j20 j203 : Value) : (bc (ltI n14 n0) (
 loopT rec c_top_TopSurveySeen_3 (keptIn P 3) (F P 3 σ [j4, j23, I64 n0, SL a1 m1 c1, j31, j5, j39, j7, j43, SL a6 m6 c6, j8, j9, j11, j13, SL a10 m10 c10, SL a12 m12 c12, j99, I64 n14, BL true, I64 0, j108, BL false, j132, j135, j18, j17, j162, j19, j166, j21, j172, j20, j203]) (k_top_TopSurveySeen_3 rec)) (
 some (.ex (.exit 2) (F P 3 σ [j4, j23, I64 n0, SL a1 m1 c1, j31, j5, j39, j7, j43, SL a6 m6 c6, j8, j9, j11, j13, SL a10 m10 c10, SL a12 m12 c12, j99, I64 n14, BL false, j16, j108, j15, j132, j135, j18, j17, j162, j19, j166, j21, j172, j20, j203])))) = execT P rec c_top_TopSurveySeen_2 (keptIn P 3) (h_top_TopSurveySeen_2 σ n0 a1 m1 c1 a6 m6 c6 a10 m10 c10 a12 m12 c12 n14 j4 j23 j31 j5 j39 j7 j43 j8 j9 j11 j13 j99 j102 j16 j108 j15 j132 j135 j18 j17 j162 j19 j166 j21 j172 j20 j203) (loopEnd rec c_top_TopSurveySeen_2 (keptIn P 3)) := by kernel_rfl
theorem a_top_TopSurveySeen_2_2 (rec : Rec) (σ0 : St) (σ : St) (n0 : Int) (a1 : Option Addr) (m1 c1 : Nat) (a6 : Option Addr) (m6 c6 : Nat) (a12 : Option Addr) (m12 c12 : Nat) (j4 j23 j31 j5 j39 j7 j43 j8 j9 j11 j13 j10 j99 j14 j102 j16 j108 j15 j132 j135 j18 j17 j162 j19 j166 j21 j172 j20 j203 : Value) : (lenT (SL a1 m1 c1) fun x2 =>
 bc (eqI x2 0) (
 zsub n0 1 fun x3 =>
 newZ 2 [I64 0, I64 x3] σ fun σ4 =>
 callT rec 10 [SL a12 m12 c12, SL (some ⟨σ.next, 0, Option.none⟩) 1 2] σ4 fun v5 σ6 =>
 asB v5 fun p7 =>
 retT σ0 (BL p7) σ6) (
 lenT (SL a6 m6 c6) fun x8 =>
 zsub x8 1 fun x9 =>
 ob (sliceA P σ.heap 28 (SL a6 m6 c6) none (some (I64 x9)) none) fun v10 =>
 asL v10 fun d11 e12 f13 =>
 callT rec 9 [SL d11 e12 f13] σ fun v14 σ15 =>
 asL v14 fun d16 e17 f18 =>
 zsub n0 1 fun x19 =>
 callT rec 8 [SL d16 e17 f18, AG [I64 0, I64 x19], I64 1] σ15 fun v20 σ21 =>
 asT v20 fun l22 =>
 hdL l22 fun d24 e25 f26 l23 =>
 hdI .i64 l23 fun x28 l27 =>
 nl l27 (
 bc (bc (eqI x28 0) false true) (
 retT σ0 (BL false) σ21) (
 lenT (SL d24 e25 f26) fun x29 =>
 bc (ltI n0 x29) (
 retT σ0 (BL false) σ21) (
 loopT rec c_top_TopSurveySeen_4 (keptIn P 3) (F P 3 σ21 [j4, j23, I64 n0, SL a1 m1 c1, j31, j5, j39, j7, j43, SL a6 m6 c6, j8, j9, j11, j13, j10, SL a12 m12 c12, j99, j14, j102, j16, j108, j15, j132, BL false, I64 x28, SL d24 e25 f26, BL false, I64 0, j166, j21, j172, j20, j203]) (k_top_TopSurveySeen_4 rec σ0)))))) = k_top_TopSurveySeen_2 rec σ0 (.exit 2) (x_top_TopSurveySeen_2_2 σ n0 a1 m1 c1 a6 m6 c6 a12 m12 c12 j4 j23 j31 j5 j39 j7 j43 j8 j9 j11 j13 j10 j99 j14 j102 j16 j108 j15 j132 j135 j18 j17 j162 j19 j166 j21 j172 j20 j203) := by kernel_rfl
theorem a_top_TopSurveySeen_2_ret (rec : Rec) (σ0 : St) (σ : St) (b4 : Bool) (j23 j0 j1 j31 j5 j39 j7 j43 j6 j8 j9 j11 j13 j10 j12 j99 j14 j102 j16 j108 j15 j132 j135 j18 j17 j162 j19 j166 j21 j172 j20 j203 : Value) : (retT σ0 (BL b4) σ) = k_top_TopSurveySeen_2 rec σ0 .ret (x_top_TopSurveySeen_2_ret σ b4 j23 j0 j1 j31 j5 j39 j7 j43 j6 j8 j9 j11 j13 j10 j12 j99 j14 j102 j16 j108 j15 j132 j135 j18 j17 j162 j19 j166 j21 j172 j20 j203) := by kernel_rfl
theorem l_top_TopSurveySeen_3 (rec : Rec) (σ : St) (n0 : Int) (a1 : Option Addr) (m1 c1 : Nat) (a6 : Option Addr) (m6 c6 : Nat) (a10 : Option Addr) (m10 c10 : Nat) (a12 : Option Addr) (m12 c12 : Nat) (n14 n16 : Int) (b15 : Bool) (j4 j23 j31 j5 j39 j7 j43 j8 j9 j11 j13 j99 j102 j108 j132 j135 j18 j17 j162 j19 j166 j21 j172 j20 j203 : Value) : (lenT (SL a12 m12 c12) fun x2 =>
 bc (ltI n16 x2) (
 bc b15 (
 zadd n16 1 fun x3 =>
 rec (.loop c_top_TopSurveySeen_3 (keptIn P 3) (F P 3 σ [j4, j23, I64 n0, SL a1 m1 c1, j31, j5, j39, j7, j43, SL a6 m6 c6, j8, j9, j11, j13, SL a10 m10 c10, SL a12 m12 c12, j99, I64 n14, j102, I64 x3, BL true, BL true, j132, j135, j18, j17, j162, j19, j166, j21, j172, j20, j203]))) (
 atT (SL a12 m12 c12) n16 2 fun g4 h5 =>
 ld1 σ.heap g4 (Nat.add h5 0) fun v6 =>
 asI .i64 v6 fun x7 =>
 atT (SL a12 m12 c12) n16 2 fun g8 h9 =>
 ld1 σ.heap g8 (Nat.add h9 1) fun v10 =>
 asI .i64 v10 fun x11 =>
 callT rec 5 [I64 n14, I64 x7, I64 x11] σ fun v12 σ13 =>
 asB v12 fun p14 =>
 zadd n16 1 fun x15 =>
 rec (.loop c_top_TopSurveySeen_3 (keptIn P 3) (F P 3 σ13 [j4, j23, I64 n0, SL a1 m1 c1, j31, j5, j39, j7, j43, SL a6 m6 c6, j8, j9, j11, j13, SL a10 m10 c10, SL a12 m12 c12, j99, I64 n14, j102, I64 x15, BL true, BL p14, j132, j135, j18, j17, j162, j19, j166, j21, j172, j20, j203])))) (
 some (.ex (.exit 4) (F P 3 σ [j4, j23, I64 n0, SL a1 m1 c1, j31, j5, j39, j7, j43, SL a6 m6 c6, j8, j9, j11, j13, SL a10 m10 c10, SL a12 m12 c12, j99, I64 n14, j102, I64 n16, BL false, BL b15, j132, j135, j18, j17, j162, j19, j166, j21, j172, j20, j203])))) = execT P rec c_top_TopSurveySeen_3 (keptIn P 3) (h_top_TopSurveySeen_3 σ n0 a1 m1 c1 a6 m6 c6 a10 m10 c10 a12 m12 c12 n14 n16 b15 j4 j23 j31 j5 j39 j7 j43 j8 j9 j11 j13 j99 j102 j108 j132 j135 j18 j17 j162 j19 j166 j21 j172 j20 j203) (loopEnd rec c_top_TopSurveySeen_3 (keptIn P 3)) := by kernel_rfl
theorem a_top_TopSurveySeen_3_4 (rec : Rec) (σ : St) (n0 : Int) (a1 : Option Addr) (m1 c1 : Nat) (a6 : Option Addr) (m6 c6 : Nat) (a10 : Option Addr) (m10 c10 : Nat) (a12 : Option Addr) (m12 c12 : Nat) (n14 : Int) (b15 : Bool) (j4 j23 j31 j5 j39 j7 j43 j8 j9 j11 j13 j99 j102 j16 j108 j132 j135 j18 j17 j162 j19 j166 j21 j172 j20 j203 : Value) : (atT (SL a10 m10 c10) n14 1 fun g2 h3 =>
 ld1 σ.heap g2 h3 fun v4 =>
 asI .i64 v4 fun x5 =>
 ob (binA P .neq 4 (.tmp 126) (.tmp 131) (BL b15) (BL (eqI x5 0))) fun v6 =>
 asB v6 fun p7 =>
 bc p7 (
 some (.ex .ret (F P 3 σ [BL false, j23, I64 n0, SL a1 m1 c1, j31, j5, j39, j7, j43, SL a6 m6 c6, j8, j9, j11, j13, SL a10 m10 c10, SL a12 m12 c12, j99, I64 n14, j102, j16, j108, BL b15, BL true, j135, j18, j17, j162, j19, j166, j21, j172, j20, j203]))) (
 zadd n14 1 fun x8 =>
 rec (.loop c_top_TopSurveySeen_2 (keptIn P 3) (F P 3 σ [j4, j23, I64 n0, SL a1 m1 c1, j31, j5, j39, j7, j43, SL a6 m6 c6, j8, j9, j11, j13, SL a10 m10 c10, SL a12 m12 c12, j99, I64 x8, j102, j16, j108, BL b15, BL false, j135, j18, j17, j162, j19, j166, j21, j172, j20, j203])))) = k_top_TopSurveySeen_3 rec (.exit 4) (x_top_TopSurveySeen_3_4 σ n0 a1 m1 c1 a6 m6 c6 a10 m10 c10 a12 m12 c12 n14 b15 j4 j23 j31 j5 j39 j7 j43 j8 j9 j11 j13 j99 j102 j16 j108 j132 j135 j18 j17 j162 j19 j166 j21 j172 j20 j203) := by kernel_rfl
theorem l_top_TopSurveySeen_4 (rec : Rec) (σ : St) (a12 : Option Addr) (m12 c12 : Nat) (a17 : Option Addr) (m17 c17 : Nat) (n19 : Int) (j4 j23 j0 j1 j31 j5 j39 j7 j43 j6 j8 j9 j11 j13 j10 j99 j14 j102 j16 j108 j15 j132 j135 j18 j162 j166 j21 j172 j20 j203 : Value) : (lenT (SL a12 m12 c12) fun x2 =>
 bc (ltI n19 x2) (
 loopT rec c_top_TopSurveySeen_5 (keptIn P 3) (F P 3 σ [j4, j23, j0, j1, j31, j5, j39, j7, j43, j6, j8, j9, j11, j13, j10, SL a12 m12 c12, j99, j14, j102, j16, j108, j15, j132, j135, j18, SL a17 m17 c17, j162, I64 n19, BL true, I64 0, j172, BL false, j203]) (k_top_TopSurveySeen_5 rec)) (
 some (.ex (.exit 6) (F P 3 σ [j4, j23, j0, j1, j31, j5, j39, j7, j43, j6, j8, j9, j11, j13, j10, SL a12 m12 c12, j99, j14, j102, j16, j108, j15, j132, j135, j18, SL a17 m17 c17, j162, I64 n19, BL false, j21, j172, j20, j203])))) = execT P rec c_top_TopSurveySeen_4 (keptIn P 3) (h_top_TopSurveySeen_4 σ a12 m12 c12 a17 m17 c17 n19 j4 j23 j0 j1 j31 j5 j39 j7 j43 j6 j8 j9 j11 j13 j10 j99 j14 j102 j16 j108 j15 j132 j135 j18 j162 j166 j21 j172 j20 j203) (loopEnd rec c_top_TopSurveySeen_4 (keptIn P 3)) := by kernel_rfl
theorem a_top_TopSurveySeen_4_6 (rec : Rec) (σ0 : St) (σ : St)  (j4 j23 j0 j1 j31 j5 j39 j7 j43 j6 j8 j9 j11 j13 j10 j12 j99 j14 j102 j16 j108 j15 j132 j135 j18 j17 j162 j19 j166 j21 j172 j20 j203 : Value) : (retT σ0 (BL true) σ) = k_top_TopSurveySeen_4 rec σ0 (.exit 6) (x_top_TopSurveySeen_4_6 σ j4 j23 j0 j1 j31 j5 j39 j7 j43 j6 j8 j9 j11 j13 j10 j12 j99 j14 j102 j16 j108 j15 j132 j135 j18 j17 j162 j19 j166 j21 j172 j20 j203) := by kernel_rfl
theorem a_top_TopSurveySeen_4_ret (rec : Rec) (σ0 : St) (σ : St) (b4 : Bool) (j23 j0 j1 j31 j5 j39 j7 j43 j6 j8 j9 j11 j13 j10 j12 j99 j14 j102 j16 j108 j15 j132 j135 j18 j17 j162 j19 j166 j21 j172 j20 j203 : Value) : (retT σ0 (BL b4) σ) = k_top_TopSurveySeen_4 rec σ0 .ret (x_top_TopSurveySeen_4_ret σ b4 j23 j0 j1 j31 j5 j39 j7 j43 j6 j8 j9 j11 j13 j10 j12 j99 j14 j102 j16 j108 j15 j132 j135 j18 j17 j162 j19 j166 j21 j172 j20 j203) := by kernel_rfl
theorem l_top_TopSurveySeen_5 (rec : Rec) (σ : St) (a12 : Option Addr) (m12 c12 : Nat) (a17 : Option Addr) (m17 c17 : Nat) (n19 n21 : Int) (b20 : Bool) (j4 j23 j0 j1 j31 j5 j39 j7 j43 j6 j8 j9 j11 j13 j10 j99 j14 j102 j16 j108 j15 j132 j135 j18 j162 j166 j172 j203 : Value) : (lenT (SL a17 m17 c17) fun x2 =>
 bc (ltI n21 x2) (
 bc b20 (
 zadd n21 1 fun x3 =>
 rec (.loop c_top_TopSurveySeen_5 (keptIn P 3) (F P 3 σ [j4, j23, j0, j1, j31, j5, j39, j7, j43, j6, j8, j9, j11, j13, j10, SL a12 m12 c12, j99, j14, j102, j16, j108, j15, j132, j135, j18, SL a17 m17 c17, j162, I64 n19, j166, I64 x3, BL true, BL true, j203]))) (
 atT (SL a17 m17 c17) n21 2 fun g4 h5 =>
 ld1 σ.heap g4 (Nat.add h5 0) fun v6 =>
 asI .i64 v6 fun x7 =>
 atT (SL a12 m12 c12) n19 2 fun g8 h9 =>
 ld1 σ.heap g8 (Nat.add h9 0) fun v10 =>
 asI .i64 v10 fun x11 =>
 bc (leI x7 x11) (
 atT (SL a12 m12 c12) n19 2 fun g12 h13 =>
 ld1 σ.heap g12 (Nat.add h13 1) fun v14 =>
 asI .i64 v14 fun x15 =>
 atT (SL a17 m17 c17) n21 2 fun g16 h17 =>
 ld1 σ.heap g16 (Nat.add h17 1) fun v18 =>
 asI .i64 v18 fun x19 =>
 zadd n21 1 fun x20 =>
 rec (.loop c_top_TopSurveySeen_5 (keptIn P 3) (F P 3 σ [j4, j23, j0, j1, j31, j5, j39, j7, j43, j6, j8, j9, j11, j13, j10, SL a12 m12 c12, j99, j14, j102, j16, j108, j15, j132, j135, j18, SL a17 m17 c17, j162, I64 n19, j166, I64 x20, BL true, BL (leI x15 x19), j203]))) (
 zadd n21 1 fun x21 =>
 rec (.loop c_top_TopSurveySeen_5 (keptIn P 3) (F P 3 σ [j4, j23, j0, j1, j31, j5, j39, j7, j43, j6, j8, j9, j11, j13, j10, SL a12 m12 c12, j99, j14, j102, j16, j108, j15, j132, j135, j18, SL a17 m17 c17, j162, I64 n19, j166, I64 x21, BL true, BL false, j203]))))) (
 some (.ex (.exit 8) (F P 3 σ [j4, j23, j0, j1, j31, j5, j39, j7, j43, j6, j8, j9, j11, j13, j10, SL a12 m12 c12, j99, j14, j102, j16, j108, j15, j132, j135, j18, SL a17 m17 c17, j162, I64 n19, j166, I64 n21, BL false, BL b20, j203])))) = execT P rec c_top_TopSurveySeen_5 (keptIn P 3) (h_top_TopSurveySeen_5 σ a12 m12 c12 a17 m17 c17 n19 n21 b20 j4 j23 j0 j1 j31 j5 j39 j7 j43 j6 j8 j9 j11 j13 j10 j99 j14 j102 j16 j108 j15 j132 j135 j18 j162 j166 j172 j203) (loopEnd rec c_top_TopSurveySeen_5 (keptIn P 3)) := by kernel_rfl
theorem a_top_TopSurveySeen_5_8 (rec : Rec) (σ : St) (a12 : Option Addr) (m12 c12 : Nat) (a17 : Option Addr) (m17 c17 : Nat) (n19 : Int) (b20 : Bool) (j4 j23 j0 j1 j31 j5 j39 j7 j43 j6 j8 j9 j11 j13 j10 j99 j14 j102 j16 j108 j15 j132 j135 j18 j162 j166 j21 j172 j203 : Value) : (bc (!b20) (
 some (.ex .ret (F P 3 σ [BL false, j23, j0, j1, j31, j5, j39, j7, j43, j6, j8, j9, j11, j13, j10, SL a12 m12 c12, j99, j14, j102, j16, j108, j15, j132, j135, j18, SL a17 m17 c17, j162, I64 n19, j166, j21, j172, BL b20, BL true]))) (
 zadd n19 1 fun x2 =>
 rec (.loop c_top_TopSurveySeen_4 (keptIn P 3) (F P 3 σ [j4, j23, j0, j1, j31, j5, j39, j7, j43, j6, j8, j9, j11, j13, j10, SL a12 m12 c12, j99, j14, j102, j16, j108, j15, j132, j135, j18, SL a17 m17 c17, j162, I64 x2, j166, j21, j172, BL b20, BL false])))) = k_top_TopSurveySeen_5 rec (.exit 8) (x_top_TopSurveySeen_5_8 σ a12 m12 c12 a17 m17 c17 n19 b20 j4 j23 j0 j1 j31 j5 j39 j7 j43 j6 j8 j9 j11 j13 j10 j99 j14 j102 j16 j108 j15 j132 j135 j18 j162 j166 j21 j172 j203) := by kernel_rfl
end Go.AM.W
