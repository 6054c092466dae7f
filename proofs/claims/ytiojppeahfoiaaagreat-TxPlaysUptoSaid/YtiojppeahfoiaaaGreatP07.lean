/- TxPlays: a part of its proof; conditions: its statement's. -/
import Derived.Test.YtiojppeahfoiaaaGreatP02
import Derived.Test.YtiojppeahfoiaaaGreatProg
import Derived.KernelRfl
import Derived.Recover
namespace Go.Proofs.YtiojppeahfoiaaaGreat.Am
open Go Proofs.Tryz
variable {cl:Go.Call} {n:Nat} {o:Oper} {ρ:Operand->Value} {P:Program}
noncomputable def Be : Code:=(f191.body).getD .skip
noncomputable def RB : Code:=leftC Be
noncomputable def RC : Code:=leftC (cM (cM Be))
noncomputable def Ef : Code:=(f220.body).getD .skip
noncomputable def KK : Code:=cM Ef
noncomputable def toldParsed (C:eP)(n:Nat): List V->H->Option (V×H)
 |[x],h=>match ev C n RB ⟨bindArgs [x] 0 .lf,9,h⟩ with
  |some (.normal,I)=>cond (Nat.blt 4 I.au) (match ev C n RC ⟨I.env.set 4 (some (.fn (.func 220) [] [I.env.v 2,I.env.v 3])),I.au,I.h⟩ with
   |some (.normal,J)=>match ev C n KK ⟨((bindArgs [I.env.v 2,I.env.v 3] 0 .lf).set 5 (some .jZ)).set 2 (some .jZ),16,J.h⟩ with
    |some (.normal,adZ)=>match mapO (resV C.P ⟨J.env,J.au,adZ.h⟩) f191.results.toList with
     |some [ah4,ah5]=>some (.aR [ah4,ah5],adZ.h)
     |_=>none
    |_=>none
   |_=>none) none
  |_=>none
 |_,_=>none
theorem XY : f191.body=some Be:=rfl
theorem XZ : f220.body=some Ef:=rfl
theorem Ko {id:Nat}{I J:Oper}{a8:Exit->Act->World->Prop}{a:Act}{w:World}(agK:I.guard=none)(agL:J.guard=none)
 (h:I.wp P a w (λa w=>J.wp P a w (a8 .normal) a8) a8): (Code.region id #[I,J] false).wp P a8 a w:=by
 refine wp_region ?_;rw[show List.range (#[I,J]:Array Oper).size=[0,1] from U];simp only[wpOps,oA,oz,rI,Region.wanted,agK,agL,cZ];grind[Oper.wp_mono]
theorem MC {f:Fn}{x y:Array Operand}(ho:o.op=.makeFunc f x y)(w:World):
  (execOp ρ o).run P w=.ok (.value (.func f (x.map ρ) (y.map ρ))) w:=by
 simp[execOp,ho,Instr.makeFunc]
theorem UH {f:Operand}{g:Fn}{x y:Array Value}(ho:o.op=.defer cl)(I:cl.callee=.value f)(J:ρ f=.func g x y)(w:World):
  (execOp ρ o).run P w=.ok (.defer { target:=.fn g y,args:=x++cl.args.map ρ }) w:=by
 simp_all[execOp,resolve,Deferred.ofValue]
theorem Oz (ho:o.op=.call cl)(I:cl.callee=.builtin .recover)(J:cl.args = #[])(w:World): (execOp ρ o).run P w=.ok .recover w:=by
 simp_all[execOp,resolve,invoke,builtin]
theorem run_assign {x:Operand}(ho:o.op=.assign x)(w:World): (execOp ρ o).run P w=.ok (.value (ρ x)) w:=by
 simp[execOp,ho]
theorem MD {f : FuncId} {fn : Func} (I : P.funcs[f]? = some fn) (J : fn.body.isNone = false) (hn : (fn.name == "runtime.NumGoroutine") = false) (x : Array Value) (w : World) :
  (callFunc f x).run P w = .ok (.enter f x) w := by
 grind [callFunc, Sem.run_bind, run_program, Result.andThen_ok, Sem.run_pure]
theorem ag0 : ∃id I J cl,leftC (cM Be)=.region id #[I,J] false/\I.guard=none/\J.guard=none/\I.dst=some 4/\J.dst=none/\I.op=.makeFunc (.func 220) #[] #[.tmp 2,.tmp 3] /\
  J.op=.defer cl/\cl.callee=.value (.tmp 4)/\cl.args = #[]:=⟨_,_,_,_,U,U,U,U,U,U,U,U,U⟩
theorem afG : ∃id I J cl,leftC Ef=.region id #[I,J] false/\I.guard=none/\J.guard=none/\I.dst=some 5/\J.dst=some 2/\I.op=.call cl/\cl.callee=.builtin .recover/\cl.args = #[]/\J.op=.assign (.tmp 5) :=
 ⟨_,_,_,_,U,U,U,U,U,U,U,U,U⟩
section
variable {C:eP} {c:Ctx} {σ:H} {w:World}
theorem X0 (hP:C.P=prog)(hm:C.P.follows .mixedOrders=true)(hT:er C){x y:V}{I:St}(Qy:ev C n KK ⟨((bindArgs [x,y] 0 .lf).set 5 (some .jZ)).set 2 (some .jZ),16,σ⟩=some (.normal,I))
 (h:Rel c σ w)(hx:wf c x)(hy:wf c y): CallsD C.P 220 #[conc c x,conc c y] .returning w λe u' w'=>(∃v,e=.returned v)/\u'=.returning/\∃c',Rel c' I.h w'/\cq c w c' w':=by
 have hS:=(yl (C:=C) hm hT n).1;refine callsD_of_wpS (fn:=f220) (c:=Ef) (by simp_all) XZ λc₀ cs hu=>?_;rw[show f220.ntmps=16 from ntmps220];have ME:Ef=.seq (leftC Ef) KK:=rfl;rw[ME];refine wpS_seq ?_;have hw:∀z∈[x,y],wf c z:=λz hz=>by
  grind
 have J:=jm (c:=c) (args:=[x,y]) (n:=16) cb hw;rw[show(List.map (conc c) [x,y]).toArray = #[conc c x,conc c y] from U] at J;generalize hA:({ tmps := #[conc c x,conc c y]++Array.replicate (16-(#[conc c x,conc c y]:Array Value).size) undef,defers:=[] }:Act)=A at J ⊢;have hAd:A.defers=[]:=Q;have xh:=(J.put (d:=5) (v:=.jZ) O (by simp[wf])).put (d:=2) (v:=.jZ) O (by simp[wf]);have w_:=hS _ _ _ _ Qy c _ w h xh;rw[show conc c .jZ=.nilIface from by rfl] at w_;have Ws:recoverD (c₀::cs)=none:=by simp[recoverD,hu]
 have h5:(A.put (some 5) .nilIface).eval (.tmp 5)=.nilIface:=by simp[Act.eval,Act.put,Array.getD,J.size]
 obtain⟨id,HY,Fc,cl,q1,q2,q3,q4,q5,q6,q7,q8,q9⟩:=afG;rw[q1];refine wpS_region ?_;rw[show List.range (#[HY,Fc]:Array Oper).size=[0,1] from U];simp only[wpOpsS,oA,oz,rI,Region.wanted,q2,q3,cZ];rw[Oz q6 q7 q8];simp only[Ws,q4];rw[run_assign q9,h5];simp only[Oper.upon,q5,Exit.thenS];refine wpS_of_wp (Code.wp_mono ?_ w_);rintro e a' w' ⟨rfl,d1,c',r1,e2,p1⟩;refine⟨d1.trans hAd,.returning,by rw[<-hu],.tuple #[],?_,⟨_,U⟩,U,c',r1,p1⟩;exact(nU (s:=⟨I.env,I.au,I.h⟩) (vs:=[]) r1 e2 (fn:=f220) U).1
theorem Kp (hP:C.P=prog)(hm:C.P.follows .mixedOrders=true)(hT:er C){args:List V}{v:V}{c5:H}(hr:toldParsed C n args σ=some (v,c5))(h:Rel c σ w)(hw:∀x∈args,wf c x):
  gd C.P 191 args c w v c5:=by
 have hS:=(yl (C:=C) hm hT n).1;unfold toldParsed at hr;split at hr
 .rename_i x;split at hr
  .rename_i I h₁;cases ad0:Nat.blt 4 I.au with
   |false=>grind
   |true =>
   rw[ad0,ak] at hr;have hnt:=jd.1 ad0;split at hr
   .rename_i Qh adm;split at hr
    .rename_i adZ Qy;split at hr
     .rename_i ah4 ah5 aiS;obtain⟨rfl,rfl⟩:=hr;unfold gd;refine calls_of_wp_defers (fn:=f191) (c:=Be) (by simp_all) XY ?_;have ah6:=jm (c:=c) (args:=[x]) (n:=9) cb hw;have ME:Be=.seq RB (.seq (leftC (cM Be)) (.seq RC .ret)):=rfl;rw[ME];refine wp_seq (Code.wp_mono ?_ (hS _ _ _ _ h₁ c _ w h ah6));rintro e J uW ⟨rfl,pH,c₁,K4,xh,agM⟩;simp only[exOf,Exit.then];refine wp_seq ?_;have yq:=xh.val 2;have hv3:=xh.val 3;have Za:J.defers=[]:=pH;have hfn:wf c₁ (.fn (.func 220) [] [I.env.v 2,I.env.v 3]):=by
       exact⟨aa,xh.uS 2,xh.uS 3,aa⟩
      have F5:=xh.put hnt hfn;have jE:conc c₁ (.fn (.func 220) [] [I.env.v 2,I.env.v 3])=.func (.func 220) #[] #[J.tmps.getD 2 undef,J.tmps.getD 3 undef]:=by
       grind[conc,concL]
      have ev4:=F5.val 4;rw[show Env.v (I.env.set 4 (some (.fn (.func 220) [] [I.env.v 2,I.env.v 3]))) 4=.fn (.func 220) [] [I.env.v 2,I.env.v 3] from by simp[Env.v,aY]] at ev4;obtain⟨id,HY,Fc,cl,t1,t2,t3,t4,t5,t6,t7,t8,t9⟩:=ag0;rw[t1];refine Ko t2 t3 ?_;unfold Oper.wp;rw[MC t6];simp only[Oper.upon,t4];rw[show(.func (.func 220) (Array.map J.eval #[]) (Array.map J.eval #[.tmp 2,.tmp 3]):Value)=conc c₁ (.fn (.func 220) [] [I.env.v 2,I.env.v 3]) from by rw[jE];simp[Act.eval]];rw[UH t7 t8 (ev4.trans jE)];simp only[Exit.then,t5,t9];have aiT:dA c₁ (I.env.set 4 (some (.fn (.func 220) [] [I.env.v 2,I.env.v 3]))) I.au
        ({ J.put (some 4) (conc c₁ (.fn (.func 220) [] [I.env.v 2,I.env.v 3])) with defers:={ target:=.fn (.func 220) #[J.tmps.getD 2 undef,J.tmps.getD 3 undef],args := #[]++Array.map (J.put (some 4) (conc c₁ (.fn (.func 220) [] [I.env.v 2,I.env.v 3]))).eval #[] }::J.defers }:Act):=⟨F5.size,F5.val,F5.uS⟩
      refine wp_seq (Code.wp_mono ?_ (hS _ _ _ _ adm c₁ _ uW K4 aiT));rintro e Kf acR ⟨rfl,Ig,c₂,K5,ag1,adz⟩;simp only[exOf,Exit.then];refine wp_ret ?_;simp only[bodyPostD];rw[Ig];simp only[put_defers,Za];have hx:=bT adz.ext _ (xh.uS 2);have hy:=bT adz.ext _ (xh.uS 3);refine leaves_cons (f:=220) (args := #[conc c₂ (I.env.v 2),conc c₂ (I.env.v 3)]) cb ?_ ?_
      .grind[invoke,MD,f220,func220]
      .refine(X0 hP hm hT Qy K5 hx.2 hy.2).mono ?_;rintro e u' ag5 ⟨⟨v,rfl⟩,rfl,UI,abI,ah7⟩;obtain⟨q1,q2⟩:=nU (s:=⟨Qh.env,Qh.au,adZ.h⟩) abI (ag1.ext ah7.ext) (fn:=f191) aiS;refine⟨_,q1,UI,by rfl,?_,abI,(agM.trans adz).trans ah7⟩;simp only[wf,gj];exact⟨q2 _ cb,q2 _ cb,aa⟩
     .cases hr
    .cases hr
   .cases hr
  .cases hr
 .cases hr
end
end Go.Proofs.YtiojppeahfoiaaaGreat.Am
