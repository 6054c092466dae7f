/- SpaceDies: a part of its proof; conditions: its statement's. -/
import Derived.Test.YtefepnnfphdkpaaGreatG02
import Derived.Test.YtefepnnfphdkpaaGreatProg
import Derived.KernelRfl
import Derived.Recover
set_option linter.defProp false
namespace Go.Proofs.YtefepnnfphdkpaaGreat.Am
open Go
def IL:=@Tryz.func173
variable {cl:Go.Call} {n:Nat} {o:Oper} {ρ:Operand→Value} {P:Program}
noncomputable def xU : Code:=(Tryz.f173.body).getD .skip
noncomputable def M4 : Code:=leftC xU
noncomputable def M5 : Code:=leftC (cP (cP xU))
noncomputable def Bl : Code:=(Tryz.f191.body).getD .skip
noncomputable def G0 : Code:=cP Bl
noncomputable def toldParsed (C:fH)(n:Nat): List V→H→Option (V×H)
 |[x],h=>match ev C n M4 ⟨bindArgs [x] 0 .lf,9,h⟩ with
  |some (.normal,I)=>cond (Nat.blt 4 I.au) (match ev C n M5 ⟨I.env.set 4 (some (.fn (.func 191) [] [I.env.v 2,I.env.v 3])),I.au,I.h⟩ with
   |some (.normal,J)=>match ev C n G0 ⟨((bindArgs [I.env.v 2,I.env.v 3] 0 .lf).set 5 (some .jN)).set 2 (some .jN),16,J.h⟩ with
    |some (.normal,YI)=>match mapO (resV C.P ⟨J.env,J.au,YI.h⟩) Tryz.f173.results.toList with
     |some [ack,acm]=>some (.bf [ack,acm],YI.h)
     |_=>none
    |_=>none
   |_=>none) none
  |_=>none
 |_,_=>none
theorem SL : Tryz.f173.body=some xU:=rfl
theorem SM : Tryz.f191.body=some Bl:=rfl
theorem GD {id:Nat}{I J:Oper}{Q:Exit→Act→World→Prop}{a:Act}{w:World}(abo:I.guard=none)(abp:J.guard=none)
 (h:I.wp P a w (fun a w=>J.wp P a w (Q .normal) Q) Q): (Code.region id #[I,J] false).wp P Q a w:=by
 refine wp_region ?_
 rw[show List.range (#[I,J]:Array Oper).size=[0,1] from rfl]
 simp only[wpOps,mY,mW,mX,Region.wanted,abo,abp,cX]
 refine .inl (Oper.wp_mono (fun a w h => ?_) h)
 exact .inl h
theorem IM {f:Fn}{x y:Array Operand}(ho:o.op=.makeFunc f x y)(w:World):
  (execOp ρ o).run P w=.ok (.value (.func f (x.map ρ) (y.map ρ))) w:=by
 simp[execOp,ho,Instr.makeFunc]
theorem PF {f:Operand}{g:Fn}{x y:Array Value}(ho:o.op=.defer cl)(I:cl.callee=.value f)(J:ρ f=.func g x y)(w:World):
  (execOp ρ o).run P w=.ok (.defer { target:=.fn g y,args:=x++cl.args.map ρ }) w:=by
 simp[execOp,ho,resolve,I,J,Deferred.ofValue]
theorem Kk (ho:o.op=.call cl)(I:cl.callee=.builtin .recover)(J:cl.args = #[])(w:World): (execOp ρ o).run P w=.ok .recover w:=by
 simp[execOp,ho,resolve,I,J,invoke,builtin]
theorem run_assign {x:Operand}(ho:o.op=.assign x)(w:World): (execOp ρ o).run P w=.ok (.value (ρ x)) w:=by
 simp[execOp,ho]
theorem IN {f : FuncId} {fn : Func} (I : P.funcs[f]? = some fn) (J : fn.body.isNone = false) (hn : (fn.name == "runtime.NumGoroutine") = false) (x : Array Value) (w : World) :
  (callFunc f x).run P w = .ok (.enter f x) w := by
 simp only [callFunc, Sem.run_bind, run_program, Result.andThen_ok, I, hn, kM, fM, J, Sem.run_pure]
theorem abw : ∃id I J cl,leftC (cP xU)=.region id #[I,J] false∧I.guard=none∧J.guard=none∧I.dst=some 4∧J.dst=none∧I.op=.makeFunc (.func 191) #[] #[.tmp 2,.tmp 3] ∧
  J.op=.defer cl∧cl.callee=.value (.tmp 4)∧cl.args = #[]:=⟨_,_,_,_,rfl,rfl,rfl,rfl,rfl,rfl,rfl,rfl,rfl⟩
theorem aau : ∃id I J cl,leftC Bl=.region id #[I,J] false∧I.guard=none∧J.guard=none∧I.dst=some 5∧J.dst=some 2∧I.op=.call cl∧cl.callee=.builtin .recover∧cl.args = #[]∧J.op=.assign (.tmp 5) :=
 ⟨_,_,_,_,rfl,rfl,rfl,rfl,rfl,rfl,rfl,rfl,rfl⟩
section
variable {C:fH} {c:Ctx} {σ:H} {w:World}
theorem SN (hP:C.P=Tryz.prog)(hm:C.P.follows .mixedOrders=true)(hT:fO C){x y:V}{I:St}(OE:ev C n G0 ⟨((bindArgs [x,y] 0 .lf).set 5 (some .jN)).set 2 (some .jN),16,σ⟩=some (.normal,I))
 (h:Rel c σ w)(hx:wf c x)(hy:wf c y): CallsD C.P 191 #[conc c x,conc c y] .returning w fun e u' w'=>(∃v,e=.returned v)∧u'=.returning∧∃c',Rel c' I.h w'∧cV c w c' w':=by
 have hS:=(xn (C:=C) hm hT n).1
 refine callsD_of_wpS (fn:=Tryz.f191) (c:=Bl) (by rw[hP];exact Tryz.func191) SM fun c₀ cs hu => ?_
 rw[show Tryz.f191.ntmps=16 from Tryz.ntmps191]
 have IP:Bl=.seq (leftC Bl) G0:=rfl
 rw[IP]
 refine wpS_seq ?_
 have hw:∀z∈[x,y],wf c z:=fun z hz=>by
  simp only[m8,nR,tG] at hz
  rcases hz with rfl|rfl
  ·exact hx
  ·exact hy
 have J:=kx (c:=c) (args:=[x,y]) (n:=16) (by simp) hw
 rw[show(List.map (conc c) [x,y]).toArray = #[conc c x,conc c y] from rfl] at J
 generalize hA:({ tmps := #[conc c x,conc c y]++Array.replicate (16-(#[conc c x,conc c y]:Array Value).size) undef,defers:=[] }:Act)=A at J ⊢
 have XW:A.defers=[]:=by rw[←hA]
 have vz:=(J.put (d:=5) (v:=.jN) (by decide) (by simp[wf])).put (d:=2) (v:=.jN) (by decide) (by simp[wf])
 have tX:=hS _ _ _ _ OE c _ w h vz
 rw[show conc c .jN=.nilIface from by simp[conc]] at tX
 have B9:recoverD (c₀::cs)=none:=by simp[recoverD,hu]
 have h5:(A.put (some 5) .nilIface).eval (.tmp 5)=.nilIface:=by simp[Act.eval,Act.put,Array.getD,J.size]
 obtain⟨id,LQ,JC,cl,q1,q2,q3,q4,q5,q6,q7,q8,q9⟩:=aau
 rw[q1]
 refine wpS_region ?_
 rw[show List.range (#[LQ,JC]:Array Oper).size=[0,1] from rfl]
 simp only[wpOpsS,mY,mW,mX,Region.wanted,q2,q3,cX]
 rw[Kk q6 q7 q8]
 simp only[B9,q4]
 rw[run_assign q9,h5]
 simp only[Oper.upon,q5,Exit.thenS]
 refine wpS_of_wp (Code.wp_mono ?_ tX)
 rintro e a' w' ⟨rfl,d1,c',r1,e2,p1⟩
 refine⟨d1.trans XW,.returning,by rw[←hu],.tuple #[],?_,⟨_,rfl⟩,rfl,c',r1,p1⟩
 exact(qt (s:=⟨I.env,I.au,I.h⟩) (vs:=[]) r1 e2 (fn:=Tryz.f191) rfl).1
theorem GF (hP:C.P=Tryz.prog)(hm:C.P.follows .mixedOrders=true)(hT:fO C){args:List V}{v:V}{dH:H}(hr:toldParsed C n args σ=some (v,dH))(h:Rel c σ w)(hw:∀x∈args,wf c x):
  gq C.P 173 args c w v dH:=by
 have hS:=(xn (C:=C) hm hT n).1
 unfold toldParsed at hr
 split at hr
 ·rename_i x
  split at hr
  ·rename_i I h₁
   cases SO:Nat.blt 4 I.au with
   |false=>rw[SO] at hr;cases hr
   |true =>
   rw[SO,aj] at hr
   have UC:=iP.1 SO
   split at hr
   ·rename_i L5 O1
    split at hr
    ·rename_i YI OE
     split at hr
     ·rename_i ack acm acW
      simp only[aC,bL] at hr
      obtain⟨rfl,rfl⟩:=hr
      unfold gq
      refine calls_of_wp_defers (fn:=Tryz.f173) (c:=xU) (by rw[hP];exact IL) SL ?_
      have acn:=kx (c:=c) (args:=[x]) (n:=9) (by simp) hw
      have IP:xU=.seq M4 (.seq (leftC (cP xU)) (.seq M5 .ret)):=rfl
      rw[IP]
      refine wp_seq (Code.wp_mono ?_ (hS _ _ _ _ h₁ c _ w h acn))
      rintro e J sY ⟨rfl,nE,c₁,L6,vz,abq⟩
      simp only[exOf,Exit.then]
      refine wp_seq ?_
      have oN:=vz.val 2
      have PE:=vz.val 3
      have Xk:J.defers=[]:=nE
      have hfn:wf c₁ (.fn (.func 191) [] [I.env.v 2,I.env.v 3]):=by
       simp only[wf,gR]
       exact⟨aa,vz.uN 2,vz.uN 3,aa⟩
      have Rf:=vz.put UC hfn
      have kz:conc c₁ (.fn (.func 191) [] [I.env.v 2,I.env.v 3])=.func (.func 191) #[] #[J.tmps.getD 2 undef,J.tmps.getD 3 undef]:=by
       rw[oN,PE];simp[conc,concL]
      have ev4:=Rf.val 4
      rw[show Env.v (I.env.set 4 (some (.fn (.func 191) [] [I.env.v 2,I.env.v 3]))) 4=.fn (.func 191) [] [I.env.v 2,I.env.v 3] from by simp[Env.v,bk]] at ev4
      obtain⟨id,LQ,JC,cl,t1,t2,t3,t4,t5,t6,t7,t8,t9⟩:=abw
      rw[t1]
      refine GD t2 t3 ?_
      unfold Oper.wp
      rw[IM t6]
      simp only[Oper.upon,t4]
      rw[show(.func (.func 191) (Array.map J.eval #[]) (Array.map J.eval #[.tmp 2,.tmp 3]):Value)=conc c₁ (.fn (.func 191) [] [I.env.v 2,I.env.v 3]) from by rw[kz];simp[Act.eval]]
      rw[PF t7 t8 (ev4.trans kz)]
      simp only[Exit.then,t5,t9]
      have acX:dX c₁ (I.env.set 4 (some (.fn (.func 191) [] [I.env.v 2,I.env.v 3]))) I.au
        ({ J.put (some 4) (conc c₁ (.fn (.func 191) [] [I.env.v 2,I.env.v 3])) with defers:={ target:=.fn (.func 191) #[J.tmps.getD 2 undef,J.tmps.getD 3 undef],args := #[]++Array.map (J.put (some 4) (conc c₁ (.fn (.func 191) [] [I.env.v 2,I.env.v 3]))).eval #[] }::J.defers }:Act):=⟨Rf.size,Rf.val,Rf.uN⟩
      refine wp_seq (Code.wp_mono ?_ (hS _ _ _ _ O1 c₁ _ sY L6 acX))
      rintro e Xo Xp ⟨rfl,EB,c₂,Re,acY,Ys⟩
      simp only[exOf,Exit.then]
      refine wp_ret ?_
      simp only[bodyPostD]
      rw[EB]
      simp only[put_defers,Xk]
      have hx:=cF Ys.ext _ (vz.uN 2)
      have hy:=cF Ys.ext _ (vz.uN 3)
      refine leaves_cons (f:=191) (args := #[conc c₂ (I.env.v 2),conc c₂ (I.env.v 3)]) (by simp) ?_ ?_
      ·rw[hx.1,hy.1,←oN,←PE]
       simp only[invoke]
       rw[IN (fn:=Tryz.f191) (by rw[hP];exact Tryz.func191) rfl (by decide)]
       simp
      ·refine(SN hP hm hT OE Re hx.2 hy.2).mono ?_
       rintro e u' adh ⟨⟨v,rfl⟩,rfl,acZ,aco,acp⟩
       simp only[settle,Leaves]
       obtain⟨q1,q2⟩:=qt (s:=⟨L5.env,L5.au,YI.h⟩) aco (acY.ext acp.ext) (fn:=Tryz.f173) acW
       refine⟨_,q1,acZ,by simp[conc,concL],?_,aco,(abq.trans Ys).trans acp⟩
       simp only[wf,gR]
       exact⟨q2 _ (by simp),q2 _ (by simp),aa⟩
     ·cases hr
    ·cases hr
   ·cases hr
  ·cases hr
 ·cases hr
end
end Go.Proofs.YtefepnnfphdkpaaGreat.Am
