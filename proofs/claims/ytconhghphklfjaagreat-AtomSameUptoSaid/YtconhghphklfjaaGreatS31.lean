/- AtomSame: a part of its proof; conditions: its statement's. -/
import Derived.Test.YtconhghphklfjaaGreatS11
import Derived.Test.YtconhghphklfjaaGreatProg
import Derived.KernelRfl
import Derived.Recover
set_option linter.defProp false
namespace Go.Proofs.YtconhghphklfjaaGreat.Am
open Go
def HK:=@Tryz.func101
noncomputable def xm : Code:=(Tryz.f101.body).getD .skip
noncomputable def LN : Code:=leftC xm
noncomputable def LO : Code:=leftC (cF (cF xm))
noncomputable def AD : Code:=(Tryz.f131.body).getD .skip
noncomputable def FQ : Code:=cF AD
noncomputable def toldParsed (C:dw)(n:Nat): List V→H→Option (V×H)
 | [x],h=>match ev C n LN ⟨bindArgs [x] 0 .lf,9,h⟩ with
  | some (.normal,I)=>cond (Nat.blt 4 I.ay) (match ev C n LO ⟨I.env.set 4 (some (.fn (.func 131) [] [I.env.v 2,I.env.v 3])),I.ay,I.h⟩ with
   | some (.normal,J)=>match ev C n FQ ⟨((bindArgs [I.env.v 2,I.env.v 3] 0 .lf).set 5 (some .mq)).set 2 (some .mq),16,J.h⟩ with
    | some (.normal,U)=>match mapO (resV C.P ⟨J.env,J.ay,U.h⟩) Tryz.f101.results.toList with
     | some [aaH,WD]=>some (.bD [aaH,WD],U.h)
     | _=>none
    | _=>none
   | _=>none) none
  | _=>none
 | _,_=>none
theorem Qx : Tryz.f101.body=some xm:=rfl
theorem Qy : Tryz.f131.body=some AD:=rfl
theorem FA {P:Program}{id:Nat}{I J:Oper}{Q:Exit→Act→World→Prop}{a:Act}{w:World}(U:I.guard=none)(ZS:J.guard=none)
 (h:I.wp P a w (fun a w=>J.wp P a w (Q .normal) Q) Q): (Code.region id #[I,J] false).wp P Q a w:=by
 refine wp_region ?_
 rw [show List.range (#[I,J]:Array Oper).size=[0,1] from rfl]
 simp only [wpOps,mS,nD,kg,Region.wanted,U,ZS,bQ]
 refine .inl (Oper.wp_mono (fun a w h => ?_) h)
 exact .inl h
theorem HL {P:Program}{o:Oper}{ρ:Operand→Value}{f:Fn}{x y:Array Operand}(ho:o.op=.makeFunc f x y)(w:World):
  (execOp ρ o).run P w=.ok (.value (.func f (x.map ρ) (y.map ρ))) w:=by
 simp [execOp,ho,Instr.makeFunc]
theorem Oi {P:Program}{o:Oper}{ρ:Operand→Value}{cl:Go.Call}{f:Operand}{g:Fn}{x y:Array Value}(ho:o.op=.defer cl)(I:cl.callee=.value f)(J:ρ f=.func g x y)(w:World):
  (execOp ρ o).run P w=.ok (.defer { target:=.fn g y,args:=x++cl.args.map ρ }) w:=by
 simp [execOp,ho,resolve,I,J,Deferred.ofValue]
theorem Jg {P:Program}{o:Oper}{ρ:Operand→Value}{cl:Go.Call}(ho:o.op=.call cl)(I:cl.callee=.builtin .recover)(J:cl.args = #[])(w:World): (execOp ρ o).run P w=.ok .recover w:=by
 simp [execOp,ho,resolve,I,J,invoke,builtin]
theorem run_assign {P:Program}{o:Oper}{ρ:Operand→Value}{x:Operand}(ho:o.op=.assign x)(w:World): (execOp ρ o).run P w=.ok (.value (ρ x)) w:=by
 simp [execOp,ho]
theorem HM {P : Program} {f : FuncId} {fn : Func} (I : P.funcs[f]? = some fn) (J : fn.body.isNone = false) (U : (fn.name == "runtime.NumGoroutine") = false) (x : Array Value) (w : World) :
  (callFunc f x).run P w = .ok (.enter f x) w := by
 simp only [callFunc, Sem.run_bind, run_program, Result.andThen_ok, I, U, eN, bK, J, Sem.run_pure]
theorem Z3 : ∃id I J cl,leftC (cF xm)=.region id #[I,J] false∧I.guard=none∧J.guard=none∧I.dst=some 4∧J.dst=none∧I.op=.makeFunc (.func 131) #[] #[.tmp 2,.tmp 3] ∧
  J.op=.defer cl∧cl.callee=.value (.tmp 4)∧cl.args = #[]:=⟨_,_,_,_,rfl,rfl,rfl,rfl,rfl,rfl,rfl,rfl,rfl⟩
theorem Xt : ∃id I J cl,leftC AD=.region id #[I,J] false∧I.guard=none∧J.guard=none∧I.dst=some 5∧J.dst=some 2∧I.op=.call cl∧cl.callee=.builtin .recover∧cl.args = #[]∧J.op=.assign (.tmp 5) :=
 ⟨_,_,_,_,rfl,rfl,rfl,rfl,rfl,rfl,rfl,rfl,rfl⟩
section
variable {C:dw} {c:Ctx} {σ:H} {w:World}
theorem Qz (hP:C.P=Tryz.prog)(hm:C.P.follows .mixedOrders=true)(hT:gT C){n:Nat}{x y:V}{I:St}(S0:ev C n FQ ⟨((bindArgs [x,y] 0 .lf).set 5 (some .mq)).set 2 (some .mq),16,σ⟩=some (.normal,I))
 (h:Rel c σ w)(hx:wf c x)(hy:wf c y): CallsD C.P 131 #[conc c x,conc c y] .returning w fun e u' w'=>(∃v,e=.returned v)∧u'=.returning∧∃c',Rel c' I.h w'∧dD c w c' w':=by
 have hS:=(FF (C:=C) hm hT n).1
 refine callsD_of_wpS (fn:=Tryz.f131) (c:=AD) (by rw [hP]; exact Tryz.func131) Qy fun c₀ cs hu => ?_
 rw [show Tryz.f131.ntmps=16 from Tryz.ntmps131]
 have U:AD=.seq (leftC AD) FQ:=rfl
 rw [U]
 refine wpS_seq ?_
 have hw:∀z∈[x,y],wf c z:=fun z hz=>by
  simp only [eX,lT,qO] at hz
  rcases hz with rfl | rfl
  ·exact hx
  ·exact hy
 have J:=pW (c:=c) (args:=[x,y]) (n:=16) (by simp) hw
 rw [show (List.map (conc c) [x,y]).toArray = #[conc c x,conc c y] from rfl] at J
 generalize hA:({ tmps := #[conc c x,conc c y]++Array.replicate (16-(#[conc c x,conc c y]:Array Value).size) undef,defers:=[] }:Act)=A at J ⊢
 have hAd:A.defers=[]:=by rw [←hA]
 have KR:=(J.put (d:=5) (v:=.mq) (by decide) (by simp [wf])).put (d:=2) (v:=.mq) (by decide) (by simp [wf])
 have KL:=hS _ _ _ _ S0 c _ w h KR
 rw [show conc c .mq=.nilIface from by simp [conc]] at KL
 have Z4:recoverD (c₀::cs)=none:=by simp [recoverD,hu]
 have h5:(A.put (some 5) .nilIface).eval (.tmp 5)=.nilIface:=by simp [Act.eval,Act.put,Array.getD,J.size]
 obtain ⟨id,OZ,Su,cl,q1,q2,q3,q4,q5,q6,q7,q8,q9⟩:=Xt
 rw [q1]
 refine wpS_region ?_
 rw [show List.range (#[OZ,Su]:Array Oper).size=[0,1] from rfl]
 simp only [wpOpsS,mS,nD,kg,Region.wanted,q2,q3,bQ]
 rw [Jg q6 q7 q8]
 simp only [Z4,q4]
 rw [run_assign q9,h5]
 simp only [Oper.upon,q5,Exit.thenS]
 refine wpS_of_wp (Code.wp_mono ?_ KL)
 rintro e a' w' ⟨rfl,d1,c',r1,e2,p1⟩
 refine ⟨d1.trans hAd,.returning,by rw [←hu],.tuple #[],?_,⟨_,rfl⟩,rfl,c',r1,p1⟩
 exact (sA (s:=⟨I.env,I.ay,I.h⟩) (vs:=[]) r1 e2 (fn:=Tryz.f131) rfl).1
theorem FB (hP:C.P=Tryz.prog)(hm:C.P.follows .mixedOrders=true)(hT:gT C){n:Nat}{args:List V}{v:V}{iA:H}(hr:toldParsed C n args σ=some (v,iA))(h:Rel c σ w)(hw:∀x∈args,wf c x):
  fO C.P 101 args c w v iA:=by
 have hS:=(FF (C:=C) hm hT n).1
 unfold toldParsed at hr
 split at hr
 ·rename_i x
  split at hr
  ·rename_i I h₁
   cases QA:Nat.blt 4 I.ay with
   | false=>rw [QA] at hr; cases hr
   | true =>
   rw [QA,ah] at hr
   have hnt:=iP.1 QA
   split at hr
   ·rename_i KE Pg
    split at hr
    ·rename_i aaI S0
     split at hr
     ·rename_i aaH WD abc
      simp only [au,aN] at hr
      obtain ⟨rfl,rfl⟩:=hr
      unfold fO
      refine calls_of_wp_defers (fn:=Tryz.f101) (c:=xm) (by rw [hP]; exact HK) Qx ?_
      have aaJ:=pW (c:=c) (args:=[x]) (n:=9) (by simp) hw
      have V4:xm=.seq LN (.seq (leftC (cF xm)) (.seq LO .ret)):=rfl
      rw [V4]
      refine wp_seq (Code.wp_mono ?_ (hS _ _ _ _ h₁ c _ w h aaJ))
      rintro e J Ge ⟨rfl,abd,c₁,Uq,U,ZT⟩
      simp only [exOf,Exit.then]
      refine wp_seq ?_
      have ot:=U.val 2
      have Oh:=U.val 3
      have XY:J.defers=[]:=abd
      have hfn:wf c₁ (.fn (.func 131) [] [I.env.v 2,I.env.v 3]):=by
       simp only [wf,fN]
       exact ⟨aa,U.vG 2,U.vG 3,aa⟩
      have SF:=U.put hnt hfn
      have lK:conc c₁ (.fn (.func 131) [] [I.env.v 2,I.env.v 3])=.func (.func 131) #[] #[J.tmps.getD 2 undef,J.tmps.getD 3 undef]:=by
       rw [ot,Oh]; simp [conc,concL]
      have YK:=SF.val 4
      rw [show Env.v (I.env.set 4 (some (.fn (.func 131) [] [I.env.v 2,I.env.v 3]))) 4=.fn (.func 131) [] [I.env.v 2,I.env.v 3] from by simp [Env.v,aZ]] at YK
      obtain ⟨id,OZ,Su,cl,t1,t2,t3,t4,t5,t6,t7,t8,t9⟩:=Z3
      rw [t1]
      refine FA t2 t3 ?_
      unfold Oper.wp
      rw [HL t6]
      simp only [Oper.upon,t4]
      rw [show (.func (.func 131) (Array.map J.eval #[]) (Array.map J.eval #[.tmp 2,.tmp 3]):Value)=conc c₁ (.fn (.func 131) [] [I.env.v 2,I.env.v 3]) from by rw [lK]; simp [Act.eval]]
      rw [Oi t7 t8 (YK.trans lK)]
      simp only [Exit.then,t5,t9]
      have abe:eZ c₁ (I.env.set 4 (some (.fn (.func 131) [] [I.env.v 2,I.env.v 3]))) I.ay
        ({ J.put (some 4) (conc c₁ (.fn (.func 131) [] [I.env.v 2,I.env.v 3])) with defers:={ target:=.fn (.func 131) #[J.tmps.getD 2 undef,J.tmps.getD 3 undef],args := #[]++Array.map (J.put (some 4) (conc c₁ (.fn (.func 131) [] [I.env.v 2,I.env.v 3]))).eval #[] }::J.defers }:Act):=⟨SF.size,SF.val,SF.vG⟩
      refine wp_seq (Code.wp_mono ?_ (hS _ _ _ _ Pg c₁ _ Ge Uq abe))
      rintro e Zi Zj ⟨rfl,P_,c₂,WC,abf,Vy⟩
      simp only [exOf,Exit.then]
      refine wp_ret ?_
      simp only [bodyPostD]
      rw [P_]
      simp only [put_defers,XY]
      have hx:=cE Vy.ext _ (U.vG 2)
      have hy:=cE Vy.ext _ (U.vG 3)
      refine leaves_cons (f:=131) (args := #[conc c₂ (I.env.v 2),conc c₂ (I.env.v 3)]) (by simp) ?_ ?_
      ·rw [hx.1,hy.1,←ot,←Oh]
       simp only [invoke]
       rw [HM (fn:=Tryz.f131) (by rw [hP]; exact Tryz.func131) rfl (by decide)]
       simp
      ·refine (Qz hP hm hT S0 WC hx.2 hy.2).mono ?_
       rintro e u' abC ⟨⟨v,rfl⟩,rfl,abg,aaK,aaL⟩
       simp only [settle,Leaves]
       obtain ⟨q1,q2⟩:=sA (s:=⟨KE.env,KE.ay,aaI.h⟩) aaK (abf.ext aaL.ext) (fn:=Tryz.f101) abc
       refine ⟨_,q1,abg,by simp [conc,concL],?_,aaK,(ZT.trans Vy).trans aaL⟩
       simp only [wf,fN]
       exact ⟨q2 _ (by simp),q2 _ (by simp),aa⟩
     ·cases hr
    ·cases hr
   ·cases hr
  ·cases hr
 ·cases hr
end
end Go.Proofs.YtconhghphklfjaaGreat.Am
