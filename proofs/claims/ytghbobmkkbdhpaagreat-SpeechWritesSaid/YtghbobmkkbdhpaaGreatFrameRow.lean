/-
 How a frame and a list of steps read among a law's arguments.
 Conditions: none.
-/
import Derived.Test.YtghbobmkkbdhpaaGreatEngLoopToEngRow3
import Derived.Test.YtghbobmkkbdhpaaGreatSeatFacts
import Derived.Test.YtghbobmkkbdhpaaGreatSpLaws
set_option linter.unusedVariables false
set_option linter.unusedSimpArgs false
namespace Go.Proofs.YtghbobmkkbdhpaaGreat.row
open Go.ChangeShapes Go.WideShapes Go.ChangeAt Go.RowKit Go.Eng Go.Joins
set_option maxRecDepth 100000
variable {H : Type} {enc : TypeId × Value -> H} {W : World} {base : Nat} {spare : Nat -> Bool} {held : Bool}
theorem cF : Tryz.prog.cellsOf 33 = 8 := by kernel_rfl
theorem cX : Tryz.prog.cellsOf 29 = 2 := by kernel_rfl
theorem cI : Tryz.prog.cellsOf 3 = 1 := by kernel_rfl
theorem cI64 : Tryz.prog.cellsOf 2 = 1 := by kernel_rfl
theorem cB : Tryz.prog.cellsOf 4 = 1 := by kernel_rfl
theorem cIL : Tryz.prog.cellsOf 27 = 1 := by kernel_rfl
theorem cL64 : Tryz.prog.cellsOf 31 = 1 := by kernel_rfl
theorem cSLT : Tryz.prog.cellsOf 30 = 1 := by kernel_rfl
theorem cLT : Tryz.prog.cellsOf 88 = 2 := by kernel_rfl
abbrev LTK : RecT := ⟨[.i64,.i64],none,false⟩
def WfLt (l : List (List Int)) : Prop := ∀ r ∈ l,∃ a b,r = [a,b] /\ WfI .i64 a /\ WfI .i64 b
theorem rd_ltps {n : Nat} {cs : List Value} {x : DataW H × List MemPlace} (h : DataW.trod enc Tryz.prog W base spare held n 30 cs = some x) :
  ∃ v l,cs = [v] /\ (∀ RT,R RT (lawE W) (.rro LTK l) v) /\ WfLt l := by
 obtain ⟨v,l,h1,h2,h3,_⟩ := rd_recs (T:=LTK) (D:=fun _ _ => True) Tryz.underlying30 (by kernel_rfl) (el_ints2 Tryz.underlying88 cLT rfl rfl cI cI Tryz.underlying3 Tryz.underlying3) h
 exact ⟨v,l,h1,h2,h3⟩
theorem open_frame {b0 : Nat} {v : Value} {d : DataW H} {p : List MemPlace} (hv : Value.okWide Tryz.prog W .any b0 33 v) (h : DataW.Trod enc Tryz.prog W base spare held 33 v d p) :
  ∃ (f : Bool) (k o : Int) (vt : Value) (tw : List Int) (bt : Int) (vg : Value) (ga : List Int) (vl : Value) (lp : List (List Int)) (vp : Value) (pu : List Int),v = .agg #[.bool f,.int .i64 k,.int .i64 o,vt,.int .i64 bt,vg,vl,vp] /\
   (WfI .i64 k /\ WfI .i64 o /\ WfL .i64 tw /\ WfI .i64 bt /\ WfL .i64 ga /\ WfLt lp /\ WfL .i64 pu) /\
   ∀ RT,RV RT (lawE W) (.agg [.bool f,.int .i64 k,.int .i64 o,.roi .i64 tw,.int .i64 bt,.roi .i64 ga,.rro LTK lp,.roi .i64 pu]) v := by
 obtain ⟨cs,rfl,hsz⟩ := okWide_struct Tryz.underlying33 hv
 rw [cF] at hsz
 obtain ⟨fuel,h⟩ := h
 obtain ⟨xs,m,_,hx,hlen,hxl,hf⟩ := DataW.trod_struct Tryz.underlying33 h
 have hsz' : cs.toList.length = 8 := by simpa using hsz
 have e0 : (Value.agg cs).cells.toList = cs.toList := rfl
 rw [e0] at hf hlen
 obtain ⟨l,rfl⟩ : ∃ l,cs = Array.mk l := ⟨cs.toList,rfl⟩
 simp only at hsz' hf
 match l,hsz' with
 | [c0,c1,c2,c3,c4,c5,c6,c7],_ =>
  have f0 := hf 0 { name := "Fresh",type := 4,offset := 0,embedded := false,tag := "",pkgPath := "",byteOffset := 0 } rfl
  have f1 := hf 1 { name := "Kind",type := 3,offset := 1,embedded := false,tag := "",pkgPath := "",byteOffset := 8 } rfl
  have f2 := hf 2 { name := "Lsf",type := 29,offset := 2,embedded := false,tag := "",pkgPath := "",byteOffset := 16 } rfl
  have f3 := hf 3 { name := "Between",type := 3,offset := 4,embedded := false,tag := "",pkgPath := "",byteOffset := 48 } rfl
  have f4 := hf 4 { name := "Gains",type := 27,offset := 5,embedded := false,tag := "",pkgPath := "",byteOffset := 56 } rfl
  have f5 := hf 5 { name := "Ltps",type := 30,offset := 6,embedded := false,tag := "",pkgPath := "",byteOffset := 80 } rfl
  have f6 := hf 6 { name := "Pulses",type := 31,offset := 7,embedded := false,tag := "",pkgPath := "",byteOffset := 104 } rfl
  have hxl : xs.length = 7 := hxl
  match xs,hxl with
  | [x0,x1,x2,x3,x4,x5,x6],_ =>
   simp only [List.getElem?_cons_zero,List.getElem?_cons_succ,cB,cI,cX,cIL,cL64,cSLT,List.drop_zero,List.take_succ_cons,List.take_zero,List.drop_succ_cons] at f0 f1 f2 f3 f4 f5 f6
   obtain ⟨b0,q0,rfl⟩ := DataW.trod_bool Tryz.underlying4 f0
   obtain ⟨k,q1,rfl,w1⟩ := DataW.trod_int Tryz.underlying3 f1
   obtain ⟨y0,y1,m2,rfl,hl2,t0,t1⟩ := trod_struct2 Tryz.underlying29 f2
   simp only [cI,cIL,List.drop_zero,List.take_succ_cons,List.take_zero,List.drop_succ_cons] at t0 t1
   obtain ⟨o,q2,rfl,w2⟩ := DataW.trod_int Tryz.underlying3 t0
   obtain ⟨vt,tw,q3,r3,w3,_⟩ := rd_ints3 Tryz.underlying27 Tryz.underlying3 cI t1
   obtain ⟨bt,q4,rfl,w4⟩ := DataW.trod_int Tryz.underlying3 f3
   obtain ⟨vg,ga,q5,r5,w5,_⟩ := rd_ints3 Tryz.underlying27 Tryz.underlying3 cI f4
   obtain ⟨vl,lp,q6,r6,w6⟩ := rd_ltps f5
   obtain ⟨vp,pu,q7,r7,w7,_⟩ := rd_ints3 Tryz.underlying31 Tryz.underlying2 cI64 f6
   simp only [List.cons.injEq,and_true] at q0 q1 q2 q3 q4 q5 q6 q7
   subst q0 q1 q2 q3 q4 q5 q6 q7
   refine ⟨b0,k,o,c3,tw,bt,c5,ga,c6,lp,c7,pu,rfl,⟨w1,w2,w3,w4,w5,w6,w7⟩,fun RT => ⟨_,rfl,rfl,fun j x hj => ?_⟩⟩
   match j with
   | 0 => simp at hj; subst hj; exact R.bool _
   | 1 => simp at hj; subst hj; exact R.int _ _
   | 2 => simp at hj; subst hj; exact R.int _ _
   | 3 => simp at hj; subst hj; exact r3 RT
   | 4 => simp at hj; subst hj; exact R.int _ _
   | 5 => simp at hj; subst hj; exact r5 RT
   | 6 => simp at hj; subst hj; exact r6 RT
   | 7 => simp at hj; subst hj; exact r7 RT
   | j + 8 => simp at hj
end Go.Proofs.YtghbobmkkbdhpaaGreat.row
