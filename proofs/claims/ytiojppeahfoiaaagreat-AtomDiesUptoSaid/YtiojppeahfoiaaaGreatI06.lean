/- AtomDies: a part of its proof; conditions: its statement's. -/
import Derived.Test.YtiojppeahfoiaaaGreatI02
import Derived.Test.YtiojppeahfoiaaaGreatProg
import Derived.KernelRfl
import Derived.Recover
set_option linter.defProp false
namespace Go.Proofs.YtiojppeahfoiaaaGreat.Am
open Go
def HT:=@Tryz.func191
variable {cl:Go.Call} {n:Nat} {o:Oper} {ρ:Operand→Value} {P:Program} {w:World}
noncomputable def wW : Code:=(Tryz.f191.body).getD .skip
noncomputable def Me : Code:=leftC wW
noncomputable def Mf : Code:=leftC (cN (cN wW))
noncomputable def Au : Code:=(Tryz.f220.body).getD .skip
noncomputable def F0 : Code:=cN Au
noncomputable def toldParsed (C:gy)(n:Nat): List V→H→Option (V×H)
 |[x],h=>match ev C n Me ⟨bindArgs [x] 0 .lf,9,h⟩ with
  |some (.normal,I)=>cond (Nat.blt 4 I.ax) (match ev C n Mf ⟨I.env.set 4 (some (.fn (.func 220) [] [I.env.v 2,I.env.v 3])),I.ax,I.h⟩ with
   |some (.normal,J)=>match ev C n F0 ⟨((bindArgs [I.env.v 2,I.env.v 3] 0 .lf).set 5 (some .mq)).set 2 (some .mq),16,J.h⟩ with
    |some (.normal,U)=>match mapO (resV C.P ⟨J.env,J.ax,U.h⟩) Tryz.f191.results.toList with
     |some [abA,abB]=>some (.bD [abA,abB],U.h)
     |_=>none
    |_=>none
   |_=>none) none
  |_=>none
 |_,_=>none
theorem Ra : Tryz.f191.body=some wW:=rfl
theorem Rb : Tryz.f220.body=some Au:=rfl
theorem FF {id:Nat}{I J:Oper}{Q:Exit→Act→World→Prop}{a:Act}(U:I.guard=none)(aaI:J.guard=none)
 (h:I.wp P a w (fun a w=>J.wp P a w (Q .normal) Q) Q): (Code.region id #[I,J] false).wp P Q a w:=by
 refine wp_region ?_
 rw[show List.range (#[I,J]:Array Oper).size=[0,1] from rfl]
 simp only[wpOps,nJ,nI,lK,Region.wanted,U,aaI,c_]
 refine .inl (Oper.wp_mono (fun a w h => ?_) h)
 exact .inl h
theorem HU {f:Fn}{x y:Array Operand}(ho:o.op=.makeFunc f x y)(w:World):
  (execOp ρ o).run P w=.ok (.value (.func f (x.map ρ) (y.map ρ))) w:=by
 simp[execOp,ho,Instr.makeFunc]
theorem OH {f:Operand}{g:Fn}{x y:Array Value}(ho:o.op=.defer cl)(I:cl.callee=.value f)(J:ρ f=.func g x y)(w:World):
  (execOp ρ o).run P w=.ok (.defer { target:=.fn g y,args:=x++cl.args.map ρ }) w:=by
 simp[execOp,ho,resolve,I,J,Deferred.ofValue]
theorem Js (ho:o.op=.call cl)(I:cl.callee=.builtin .recover)(J:cl.args = #[])(w:World): (execOp ρ o).run P w=.ok .recover w:=by
 simp[execOp,ho,resolve,I,J,invoke,builtin]
theorem run_assign {x:Operand}(ho:o.op=.assign x)(w:World): (execOp ρ o).run P w=.ok (.value (ρ x)) w:=by
 simp[execOp,ho]
theorem HV {f : FuncId} {fn : Func} (I : P.funcs[f]? = some fn) (J : fn.body.isNone = false) (U : (fn.name == "runtime.NumGoroutine") = false) (x : Array Value) (w : World) :
  (callFunc f x).run P w = .ok (.enter f x) w := by
 simp only [callFunc, Sem.run_bind, run_program, Result.andThen_ok, I, U, kN, fH, J, Sem.run_pure]
theorem aaT : ∃id I J cl,leftC (cN wW)=.region id #[I,J] false∧I.guard=none∧J.guard=none∧I.dst=some 4∧J.dst=none∧I.op=.makeFunc (.func 220) #[] #[.tmp 2,.tmp 3] ∧
  J.op=.defer cl∧cl.callee=.value (.tmp 4)∧cl.args = #[]:=⟨_,_,_,_,rfl,rfl,rfl,rfl,rfl,rfl,rfl,rfl,rfl⟩
theorem Yy : ∃id I J cl,leftC Au=.region id #[I,J] false∧I.guard=none∧J.guard=none∧I.dst=some 5∧J.dst=some 2∧I.op=.call cl∧cl.callee=.builtin .recover∧cl.args = #[]∧J.op=.assign (.tmp 5) :=
 ⟨_,_,_,_,rfl,rfl,rfl,rfl,rfl,rfl,rfl,rfl,rfl⟩
section
variable {C:gy} {c:Ctx} {σ:H}
theorem Rc (hP:C.P=Tryz.prog)(hm:C.P.follows .mixedOrders=true)(hT:ig C){x y:V}{I:St}(WV:ev C n F0 ⟨((bindArgs [x,y] 0 .lf).set 5 (some .mq)).set 2 (some .mq),16,σ⟩=some (.normal,I))
 (h:Rel c σ w)(hx:wf c x)(hy:wf c y): CallsD C.P 220 #[conc c x,conc c y] .returning w fun e u' w'=>(∃v,e=.returned v)∧u'=.returning∧∃c',Rel c' I.h w'∧dH c w c' w':=by
 have hS:=(FJ (C:=C) hm hT n).1
 refine callsD_of_wpS (fn:=Tryz.f220) (c:=Au) (by rw[hP];exact Tryz.func220) Rb fun c₀ cs hu => ?_
 rw[show Tryz.f220.ntmps=16 from Tryz.ntmps220]
 have U:Au=.seq (leftC Au) F0:=rfl
 rw[U]
 refine wpS_seq ?_
 have hw:∀z∈[x,y],wf c z:=fun z hz=>by
  simp only[mT,nM,sW] at hz
  rcases hz with rfl|rfl
  ·exact hx
  ·exact hy
 have J:=qb (c:=c) (args:=[x,y]) (n:=16) (by simp) hw
 rw[show(List.map (conc c) [x,y]).toArray = #[conc c x,conc c y] from rfl] at J
 generalize hA:({ tmps := #[conc c x,conc c y]++Array.replicate (16-(#[conc c x,conc c y]:Array Value).size) undef,defers:=[] }:Act)=A at J ⊢
 have hAd:A.defers=[]:=by rw[←hA]
 have Gq:=(J.put (d:=5) (v:=.mq) (by decide) (by simp[wf])).put (d:=2) (v:=.mq) (by decide) (by simp[wf])
 have DF:=hS _ _ _ _ WV c _ w h Gq
 rw[show conc c .mq=.nilIface from by simp[conc]] at DF
 have aaU:recoverD (c₀::cs)=none:=by simp[recoverD,hu]
 have h5:(A.put (some 5) .nilIface).eval (.tmp 5)=.nilIface:=by simp[Act.eval,Act.put,Array.getD,J.size]
 obtain⟨id,To,Tp,cl,q1,q2,q3,q4,q5,q6,q7,q8,q9⟩:=Yy
 rw[q1]
 refine wpS_region ?_
 rw[show List.range (#[To,Tp]:Array Oper).size=[0,1] from rfl]
 simp only[wpOpsS,nJ,nI,lK,Region.wanted,q2,q3,c_]
 rw[Js q6 q7 q8]
 simp only[aaU,q4]
 rw[run_assign q9,h5]
 simp only[Oper.upon,q5,Exit.thenS]
 refine wpS_of_wp (Code.wp_mono ?_ DF)
 rintro e a' w' ⟨rfl,d1,c',r1,e2,p1⟩
 refine⟨d1.trans hAd,.returning,by rw[←hu],.tuple #[],?_,⟨_,rfl⟩,rfl,c',r1,p1⟩
 exact(sH (s:=⟨I.env,I.ax,I.h⟩) (vs:=[]) r1 e2 (fn:=Tryz.f220) rfl).1
theorem FG (hP:C.P=Tryz.prog)(hm:C.P.follows .mixedOrders=true)(hT:ig C){args:List V}{v:V}{ee:H}(hr:toldParsed C n args σ=some (v,ee))(h:Rel c σ w)(hw:∀x∈args,wf c x):
  fT C.P 191 args c w v ee:=by
 have hS:=(FJ (C:=C) hm hT n).1
 unfold toldParsed at hr
 split at hr
 ·rename_i x
  split at hr
  ·rename_i I h₁
   cases Re:Nat.blt 4 I.ax with
   |false=>rw[Re] at hr;cases hr
   |true =>
   rw[Re,ak] at hr
   have hnt:=jD.1 Re
   split at hr
   ·rename_i PD Yn
    split at hr
    ·rename_i abC WV
     split at hr
     ·rename_i abA abB acf
      simp only[aG,bE] at hr
      obtain⟨rfl,rfl⟩:=hr
      unfold fT
      refine calls_of_wp_defers (fn:=Tryz.f191) (c:=wW) (by rw[hP];exact HT) Ra ?_
      have abD:=qb (c:=c) (args:=[x]) (n:=9) (by simp) hw
      have WW:wW=.seq Me (.seq (leftC (cN wW)) (.seq Mf .ret)):=rfl
      rw[WW]
      refine wp_seq (Code.wp_mono ?_ (hS _ _ _ _ h₁ c _ w h abD))
      rintro e J Fy ⟨rfl,acg,c₁,ach,U,aaJ⟩
      simp only[exOf,Exit.then]
      refine wp_seq ?_
      have kB:=U.val 2
      have OG:=U.val 3
      have Vl:J.defers=[]:=acg
      have hfn:wf c₁ (.fn (.func 220) [] [I.env.v 2,I.env.v 3]):=by
       simp only[wf,gK]
       exact⟨aa,U.vt 2,U.vt 3,aa⟩
      have PI:=U.put hnt hfn
      have ob:conc c₁ (.fn (.func 220) [] [I.env.v 2,I.env.v 3])=.func (.func 220) #[] #[J.tmps.getD 2 undef,J.tmps.getD 3 undef]:=by
       rw[kB,OG];simp[conc,concL]
      have ZZ:=PI.val 4
      rw[show Env.v (I.env.set 4 (some (.fn (.func 220) [] [I.env.v 2,I.env.v 3]))) 4=.fn (.func 220) [] [I.env.v 2,I.env.v 3] from by simp[Env.v,bg]] at ZZ
      obtain⟨id,To,Tp,cl,t1,t2,t3,t4,t5,t6,t7,t8,t9⟩:=aaT
      rw[t1]
      refine FF t2 t3 ?_
      unfold Oper.wp
      rw[HU t6]
      simp only[Oper.upon,t4]
      rw[show(.func (.func 220) (Array.map J.eval #[]) (Array.map J.eval #[.tmp 2,.tmp 3]):Value)=conc c₁ (.fn (.func 220) [] [I.env.v 2,I.env.v 3]) from by rw[ob];simp[Act.eval]]
      rw[OH t7 t8 (ZZ.trans ob)]
      simp only[Exit.then,t5,t9]
      have aci:fD c₁ (I.env.set 4 (some (.fn (.func 220) [] [I.env.v 2,I.env.v 3]))) I.ax
        ({ J.put (some 4) (conc c₁ (.fn (.func 220) [] [I.env.v 2,I.env.v 3])) with defers:={ target:=.fn (.func 220) #[J.tmps.getD 2 undef,J.tmps.getD 3 undef],args := #[]++Array.map (J.put (some 4) (conc c₁ (.fn (.func 220) [] [I.env.v 2,I.env.v 3]))).eval #[] }::J.defers }:Act):=⟨PI.size,PI.val,PI.vt⟩
      refine wp_seq (Code.wp_mono ?_ (hS _ _ _ _ Yn c₁ _ Fy ach aci))
      rintro e XP XQ ⟨rfl,QH,c₂,PG,acj,Ws⟩
      simp only[exOf,Exit.then]
      refine wp_ret ?_
      simp only[bodyPostD]
      rw[QH]
      simp only[put_defers,Vl]
      have hx:=cu Ws.ext _ (U.vt 2)
      have hy:=cu Ws.ext _ (U.vt 3)
      refine leaves_cons (f:=220) (args := #[conc c₂ (I.env.v 2),conc c₂ (I.env.v 3)]) (by simp) ?_ ?_
      ·rw[hx.1,hy.1,←kB,←OG]
       simp only[invoke]
       rw[HV (fn:=Tryz.f220) (by rw[hP];exact Tryz.func220) rfl (by decide)]
       simp
      ·refine(Rc hP hm hT WV PG hx.2 hy.2).mono ?_
       rintro e u' acI ⟨⟨v,rfl⟩,rfl,ack,abE,abF⟩
       simp only[settle,Leaves]
       obtain⟨q1,q2⟩:=sH (s:=⟨PD.env,PD.ax,abC.h⟩) abE (acj.ext abF.ext) (fn:=Tryz.f191) acf
       refine⟨_,q1,ack,by simp[conc,concL],?_,abE,(aaJ.trans Ws).trans abF⟩
       simp only[wf,gK]
       exact⟨q2 _ (by simp),q2 _ (by simp),aa⟩
     ·cases hr
    ·cases hr
   ·cases hr
  ·cases hr
 ·cases hr
end
end Go.Proofs.YtiojppeahfoiaaaGreat.Am
