/- AtomCuts: a part of its proof; conditions: its statement's. -/
import Derived.Test.YtconhghphklfjaaGreatC11
import Derived.Test.YtconhghphklfjaaGreatProg
import Derived.KernelRfl
import Derived.Recover
set_option linter.defProp false
namespace Go.Proofs.YtconhghphklfjaaGreat.Am
open Go
def Ia:=@Tryz.func101
noncomputable def xE : Code:=(Tryz.f101.body).getD .skip
noncomputable def L3 : Code:=leftC xE
noncomputable def L4 : Code:=leftC (cH (cH xE))
noncomputable def AQ : Code:=(Tryz.f131.body).getD .skip
noncomputable def F_ : Code:=cH AQ
noncomputable def toldParsed (C:dx)(n:Nat): List V→H→Option (V×H)
 | [x],h=>match ev C n L3 ⟨bindArgs [x] 0 .lf,9,h⟩ with
  | some (.normal,I)=>cond (Nat.blt 4 I.ay) (match ev C n L4 ⟨I.env.set 4 (some (.fn (.func 131) [] [I.env.v 2,I.env.v 3])),I.ay,I.h⟩ with
   | some (.normal,J)=>match ev C n F_ ⟨((bindArgs [I.env.v 2,I.env.v 3] 0 .lf).set 5 (some .mq)).set 2 (some .mq),16,J.h⟩ with
    | some (.normal,U)=>match mapO (resV C.P ⟨J.env,J.ay,U.h⟩) Tryz.f101.results.toList with
     | some [abo,Xn]=>some (.bD [abo,Xn],U.h)
     | _=>none
    | _=>none
   | _=>none) none
  | _=>none
 | _,_=>none
theorem Q1 : Tryz.f101.body=some xE:=rfl
theorem Q2 : Tryz.f131.body=some AQ:=rfl
theorem FU {P:Program}{id:Nat}{I J:Oper}{Q:Exit→Act→World→Prop}{a:Act}{w:World}(U:I.guard=none)(aav:J.guard=none)
 (h:I.wp P a w (fun a w=>J.wp P a w (Q .normal) Q) Q): (Code.region id #[I,J] false).wp P Q a w:=by
 refine wp_region ?_
 rw [show List.range (#[I,J]:Array Oper).size=[0,1] from rfl]
 simp only [wpOps,mV,nJ,kn,Region.wanted,U,aav,bP]
 refine .inl (Oper.wp_mono (fun a w h => ?_) h)
 exact .inl h
theorem Ib {P:Program}{o:Oper}{ρ:Operand→Value}{f:Fn}{x y:Array Operand}(ho:o.op=.makeFunc f x y)(w:World):
  (execOp ρ o).run P w=.ok (.value (.func f (x.map ρ) (y.map ρ))) w:=by
 simp [execOp,ho,Instr.makeFunc]
theorem OG {P:Program}{o:Oper}{ρ:Operand→Value}{cl:Go.Call}{f:Operand}{g:Fn}{x y:Array Value}(ho:o.op=.defer cl)(I:cl.callee=.value f)(J:ρ f=.func g x y)(w:World):
  (execOp ρ o).run P w=.ok (.defer { target:=.fn g y,args:=x++cl.args.map ρ }) w:=by
 simp [execOp,ho,resolve,I,J,Deferred.ofValue]
theorem Jx {P:Program}{o:Oper}{ρ:Operand→Value}{cl:Go.Call}(ho:o.op=.call cl)(I:cl.callee=.builtin .recover)(J:cl.args = #[])(w:World): (execOp ρ o).run P w=.ok .recover w:=by
 simp [execOp,ho,resolve,I,J,invoke,builtin]
theorem run_assign {P:Program}{o:Oper}{ρ:Operand→Value}{x:Operand}(ho:o.op=.assign x)(w:World): (execOp ρ o).run P w=.ok (.value (ρ x)) w:=by
 simp [execOp,ho]
theorem Ic {P : Program} {f : FuncId} {fn : Func} (I : P.funcs[f]? = some fn) (J : fn.body.isNone = false) (U : (fn.name == "runtime.NumGoroutine") = false) (x : Array Value) (w : World) :
  (callFunc f x).run P w = .ok (.enter f x) w := by
 simp only [callFunc, Sem.run_bind, run_program, Result.andThen_ok, I, U, eS, bK, J, Sem.run_pure]
theorem aaG : ∃id I J cl,leftC (cH xE)=.region id #[I,J] false∧I.guard=none∧J.guard=none∧I.dst=some 4∧J.dst=none∧I.op=.makeFunc (.func 131) #[] #[.tmp 2,.tmp 3] ∧
  J.op=.defer cl∧cl.callee=.value (.tmp 4)∧cl.args = #[]:=⟨_,_,_,_,rfl,rfl,rfl,rfl,rfl,rfl,rfl,rfl,rfl⟩
theorem X7 : ∃id I J cl,leftC AQ=.region id #[I,J] false∧I.guard=none∧J.guard=none∧I.dst=some 5∧J.dst=some 2∧I.op=.call cl∧cl.callee=.builtin .recover∧cl.args = #[]∧J.op=.assign (.tmp 5) :=
 ⟨_,_,_,_,rfl,rfl,rfl,rfl,rfl,rfl,rfl,rfl,rfl⟩
section
variable {C:dx} {c:Ctx} {σ:H} {w:World}
theorem Q3 (hP:C.P=Tryz.prog)(hm:C.P.follows .mixedOrders=true)(hT:gZ C){n:Nat}{x y:V}{I:St}(Tv:ev C n F_ ⟨((bindArgs [x,y] 0 .lf).set 5 (some .mq)).set 2 (some .mq),16,σ⟩=some (.normal,I))
 (h:Rel c σ w)(hx:wf c x)(hy:wf c y): CallsD C.P 131 #[conc c x,conc c y] .returning w fun e u' w'=>(∃v,e=.returned v)∧u'=.returning∧∃c',Rel c' I.h w'∧dG c w c' w':=by
 have hS:=(FZ (C:=C) hm hT n).1
 refine callsD_of_wpS (fn:=Tryz.f131) (c:=AQ) (by rw [hP]; exact Tryz.func131) Q2 fun c₀ cs hu => ?_
 rw [show Tryz.f131.ntmps=16 from Tryz.ntmps131]
 have U:AQ=.seq (leftC AQ) F_:=rfl
 rw [U]
 refine wpS_seq ?_
 have hw:∀z∈[x,y],wf c z:=fun z hz=>by
  simp only [fb,lV,qY] at hz
  rcases hz with rfl | rfl
  ·exact hx
  ·exact hy
 have J:=qh (c:=c) (args:=[x,y]) (n:=16) (by simp) hw
 rw [show (List.map (conc c) [x,y]).toArray = #[conc c x,conc c y] from rfl] at J
 generalize hA:({ tmps := #[conc c x,conc c y]++Array.replicate (16-(#[conc c x,conc c y]:Array Value).size) undef,defers:=[] }:Act)=A at J ⊢
 have hAd:A.defers=[]:=by rw [←hA]
 have K4:=(J.put (d:=5) (v:=.mq) (by decide) (by simp [wf])).put (d:=2) (v:=.mq) (by decide) (by simp [wf])
 have KY:=hS _ _ _ _ Tv c _ w h K4
 rw [show conc c .mq=.nilIface from by simp [conc]] at KY
 have aaH:recoverD (c₀::cs)=none:=by simp [recoverD,hu]
 have h5:(A.put (some 5) .nilIface).eval (.tmp 5)=.nilIface:=by simp [Act.eval,Act.put,Array.getD,J.size]
 obtain ⟨id,Pp,S1,cl,q1,q2,q3,q4,q5,q6,q7,q8,q9⟩:=X7
 rw [q1]
 refine wpS_region ?_
 rw [show List.range (#[Pp,S1]:Array Oper).size=[0,1] from rfl]
 simp only [wpOpsS,mV,nJ,kn,Region.wanted,q2,q3,bP]
 rw [Jx q6 q7 q8]
 simp only [aaH,q4]
 rw [run_assign q9,h5]
 simp only [Oper.upon,q5,Exit.thenS]
 refine wpS_of_wp (Code.wp_mono ?_ KY)
 rintro e a' w' ⟨rfl,d1,c',r1,e2,p1⟩
 refine ⟨d1.trans hAd,.returning,by rw [←hu],.tuple #[],?_,⟨_,rfl⟩,rfl,c',r1,p1⟩
 exact (sW (s:=⟨I.env,I.ay,I.h⟩) (vs:=[]) r1 e2 (fn:=Tryz.f131) rfl).1
theorem FW (hP:C.P=Tryz.prog)(hm:C.P.follows .mixedOrders=true)(hT:gZ C){n:Nat}{args:List V}{v:V}{iE:H}(hr:toldParsed C n args σ=some (v,iE))(h:Rel c σ w)(hw:∀x∈args,wf c x):
  fT C.P 101 args c w v iE:=by
 have hS:=(FZ (C:=C) hm hT n).1
 unfold toldParsed at hr
 split at hr
 ·rename_i x
  split at hr
  ·rename_i I h₁
   cases Q4:Nat.blt 4 I.ay with
   | false=>rw [Q4] at hr; cases hr
   | true =>
   rw [Q4,ag] at hr
   have hnt:=iT.1 Q4
   split at hr
   ·rename_i KR PJ
    split at hr
    ·rename_i abp Tv
     split at hr
     ·rename_i abo Xn abU
      simp only [au,aP] at hr
      obtain ⟨rfl,rfl⟩:=hr
      unfold fT
      refine calls_of_wp_defers (fn:=Tryz.f101) (c:=xE) (by rw [hP]; exact Ia) Q1 ?_
      have abq:=qh (c:=c) (args:=[x]) (n:=9) (by simp) hw
      have Wy:xE=.seq L3 (.seq (leftC (cH xE)) (.seq L4 .ret)):=rfl
      rw [Wy]
      refine wp_seq (Code.wp_mono ?_ (hS _ _ _ _ h₁ c _ w h abq))
      rintro e J Gy ⟨rfl,abV,c₁,UW,U,aaw⟩
      simp only [exOf,Exit.then]
      refine wp_seq ?_
      have ng:=U.val 2
      have H9:=U.val 3
      have YD:J.defers=[]:=abV
      have hfn:wf c₁ (.fn (.func 131) [] [I.env.v 2,I.env.v 3]):=by
       simp only [wf,fS]
       exact ⟨aa,U.vY 2,U.vY 3,aa⟩
      have Tb:=U.put hnt hfn
      have jY:conc c₁ (.fn (.func 131) [] [I.env.v 2,I.env.v 3])=.func (.func 131) #[] #[J.tmps.getD 2 undef,J.tmps.getD 3 undef]:=by
       rw [ng,H9]; simp [conc,concL]
      have Zo:=Tb.val 4
      rw [show Env.v (I.env.set 4 (some (.fn (.func 131) [] [I.env.v 2,I.env.v 3]))) 4=.fn (.func 131) [] [I.env.v 2,I.env.v 3] from by simp [Env.v,aZ]] at Zo
      obtain ⟨id,Pp,S1,cl,t1,t2,t3,t4,t5,t6,t7,t8,t9⟩:=aaG
      rw [t1]
      refine FU t2 t3 ?_
      unfold Oper.wp
      rw [Ib t6]
      simp only [Oper.upon,t4]
      rw [show (.func (.func 131) (Array.map J.eval #[]) (Array.map J.eval #[.tmp 2,.tmp 3]):Value)=conc c₁ (.fn (.func 131) [] [I.env.v 2,I.env.v 3]) from by rw [jY]; simp [Act.eval]]
      rw [OG t7 t8 (Zo.trans jY)]
      simp only [Exit.then,t5,t9]
      have abW:fe c₁ (I.env.set 4 (some (.fn (.func 131) [] [I.env.v 2,I.env.v 3]))) I.ay
        ({ J.put (some 4) (conc c₁ (.fn (.func 131) [] [I.env.v 2,I.env.v 3])) with defers:={ target:=.fn (.func 131) #[J.tmps.getD 2 undef,J.tmps.getD 3 undef],args := #[]++Array.map (J.put (some 4) (conc c₁ (.fn (.func 131) [] [I.env.v 2,I.env.v 3]))).eval #[] }::J.defers }:Act):=⟨Tb.size,Tb.val,Tb.vY⟩
      refine wp_seq (Code.wp_mono ?_ (hS _ _ _ _ PJ c₁ _ Gy UW abW))
      rintro e ZW ZX ⟨rfl,QA,c₂,Xm,abX,V5⟩
      simp only [exOf,Exit.then]
      refine wp_ret ?_
      simp only [bodyPostD]
      rw [QA]
      simp only [put_defers,YD]
      have hx:=cz V5.ext _ (U.vY 2)
      have hy:=cz V5.ext _ (U.vY 3)
      refine leaves_cons (f:=131) (args := #[conc c₂ (I.env.v 2),conc c₂ (I.env.v 3)]) (by simp) ?_ ?_
      ·rw [hx.1,hy.1,←ng,←H9]
       simp only [invoke]
       rw [Ic (fn:=Tryz.f131) (by rw [hP]; exact Tryz.func131) rfl (by decide)]
       simp
      ·refine (Q3 hP hm hT Tv Xm hx.2 hy.2).mono ?_
       rintro e u' acm ⟨⟨v,rfl⟩,rfl,abY,abr,abt⟩
       simp only [settle,Leaves]
       obtain ⟨q1,q2⟩:=sW (s:=⟨KR.env,KR.ay,abp.h⟩) abr (abX.ext abt.ext) (fn:=Tryz.f101) abU
       refine ⟨_,q1,abY,by simp [conc,concL],?_,abr,(aaw.trans V5).trans abt⟩
       simp only [wf,fS]
       exact ⟨q2 _ (by simp),q2 _ (by simp),aa⟩
     ·cases hr
    ·cases hr
   ·cases hr
  ·cases hr
 ·cases hr
end
end Go.Proofs.YtconhghphklfjaaGreat.Am
