/- TxBare: a part of its proof; conditions: its statement's. -/
import Derived.Test.YtiojppeahfoiaaaGreatN02
import Derived.Test.YtiojppeahfoiaaaGreatProg
import Derived.KernelRfl
import Derived.Recover
set_option linter.defProp false
namespace Go.Proofs.YtiojppeahfoiaaaGreat.Am
open Go
def JL:=@Tryz.func191
variable {cl:Go.Call} {n:Nat} {o:Oper} {ρ:Operand→Value} {P:Program}
noncomputable def yx : Code:=(Tryz.f191.body).getD .skip
noncomputable def Ot : Code:=leftC yx
noncomputable def Ou : Code:=leftC (cS (cS yx))
noncomputable def BP : Code:=(Tryz.f220.body).getD .skip
noncomputable def HV : Code:=cS BP
noncomputable def toldParsed (C:ep)(n:Nat): List V→H→Option (V×H)
 |[x],h=>match ev C n Ot ⟨bindArgs [x] 0 .lf,9,h⟩ with
  |some (.normal,I)=>cond (Nat.blt 4 I.ax) (match ev C n Ou ⟨I.env.set 4 (some (.fn (.func 220) [] [I.env.v 2,I.env.v 3])),I.ax,I.h⟩ with
   |some (.normal,J)=>match ev C n HV ⟨((bindArgs [I.env.v 2,I.env.v 3] 0 .lf).set 5 (some .gO)).set 2 (some .gO),16,J.h⟩ with
    |some (.normal,aaj)=>match mapO (resV C.P ⟨J.env,J.ax,aaj.h⟩) Tryz.f191.results.toList with
     |some [ad2,ad3]=>some (.aQ [ad2,ad3],aaj.h)
     |_=>none
    |_=>none
   |_=>none) none
  |_=>none
 |_,_=>none
theorem Ua : Tryz.f191.body=some yx:=rfl
theorem Ub : Tryz.f220.body=some BP:=rfl
theorem HA {id:Nat}{I J:Oper}{Q:Exit→Act→World→Prop}{a:Act}{w:World}(acX:I.guard=none)(acY:J.guard=none)
 (h:I.wp P a w (fun a w=>J.wp P a w (Q .normal) Q) Q): (Code.region id #[I,J] false).wp P Q a w:=by
 refine wp_region ?_
 rw[show List.range (#[I,J]:Array Oper).size=[0,1] from rfl]
 simp only[wpOps,mX,mW,nV,Region.wanted,acX,acY,cQ]
 refine .inl (Oper.wp_mono (fun a w h => ?_) h)
 exact .inl h
theorem JM {f:Fn}{x y:Array Operand}(ho:o.op=.makeFunc f x y)(w:World):
  (execOp ρ o).run P w=.ok (.value (.func f (x.map ρ) (y.map ρ))) w:=by
 simp[execOp,ho,Instr.makeFunc]
theorem Rn {f:Operand}{g:Fn}{x y:Array Value}(ho:o.op=.defer cl)(I:cl.callee=.value f)(J:ρ f=.func g x y)(w:World):
  (execOp ρ o).run P w=.ok (.defer { target:=.fn g y,args:=x++cl.args.map ρ }) w:=by
 simp[execOp,ho,resolve,I,J,Deferred.ofValue]
theorem Lk (ho:o.op=.call cl)(I:cl.callee=.builtin .recover)(J:cl.args = #[])(w:World): (execOp ρ o).run P w=.ok .recover w:=by
 simp[execOp,ho,resolve,I,J,invoke,builtin]
theorem run_assign {x:Operand}(ho:o.op=.assign x)(w:World): (execOp ρ o).run P w=.ok (.value (ρ x)) w:=by
 simp[execOp,ho]
theorem JN {f : FuncId} {fn : Func} (I : P.funcs[f]? = some fn) (J : fn.body.isNone = false) (hn : (fn.name == "runtime.NumGoroutine") = false) (x : Array Value) (w : World) :
  (callFunc f x).run P w = .ok (.enter f x) w := by
 simp only [callFunc, Sem.run_bind, run_program, Result.andThen_ok, I, hn, j5, fA, J, Sem.run_pure]
theorem ac8 : ∃id I J cl,leftC (cS yx)=.region id #[I,J] false∧I.guard=none∧J.guard=none∧I.dst=some 4∧J.dst=none∧I.op=.makeFunc (.func 220) #[] #[.tmp 2,.tmp 3] ∧
  J.op=.defer cl∧cl.callee=.value (.tmp 4)∧cl.args = #[]:=⟨_,_,_,_,rfl,rfl,rfl,rfl,rfl,rfl,rfl,rfl,rfl⟩
theorem abL : ∃id I J cl,leftC BP=.region id #[I,J] false∧I.guard=none∧J.guard=none∧I.dst=some 5∧J.dst=some 2∧I.op=.call cl∧cl.callee=.builtin .recover∧cl.args = #[]∧J.op=.assign (.tmp 5) :=
 ⟨_,_,_,_,rfl,rfl,rfl,rfl,rfl,rfl,rfl,rfl,rfl⟩
section
variable {C:ep} {c:Ctx} {σ:H} {w:World}
theorem Uc (hP:C.P=Tryz.prog)(hm:C.P.follows .mixedOrders=true)(hT:eM C){x y:V}{I:St}(Dy:ev C n HV ⟨((bindArgs [x,y] 0 .lf).set 5 (some .gO)).set 2 (some .gO),16,σ⟩=some (.normal,I))
 (h:Rel c σ w)(hx:wf c x)(hy:wf c y): CallsD C.P 220 #[conc c x,conc c y] .returning w fun e u' w'=>(∃v,e=.returned v)∧u'=.returning∧∃c',Rel c' I.h w'∧cC c w c' w':=by
 have hS:=(xJ (C:=C) hm hT n).1
 refine callsD_of_wpS (fn:=Tryz.f220) (c:=BP) (by rw[hP];exact Tryz.func220) Ub fun c₀ cs hu => ?_
 rw[show Tryz.f220.ntmps=16 from Tryz.ntmps220]
 have JO:BP=.seq (leftC BP) HV:=rfl
 rw[JO]
 refine wpS_seq ?_
 have hw:∀z∈[x,y],wf c z:=fun z hz=>by
  simp only[jz,kF,n4] at hz
  rcases hz with rfl|rfl
  ·exact hx
  ·exact hy
 have J:=jt (c:=c) (args:=[x,y]) (n:=16) (by simp) hw
 rw[show(List.map (conc c) [x,y]).toArray = #[conc c x,conc c y] from rfl] at J
 generalize hA:({ tmps := #[conc c x,conc c y]++Array.replicate (16-(#[conc c x,conc c y]:Array Value).size) undef,defers:=[] }:Act)=A at J ⊢
 have Zq:A.defers=[]:=by rw[←hA]
 have uq:=(J.put (d:=5) (v:=.gO) (by decide) (by simp[wf])).put (d:=2) (v:=.gO) (by decide) (by simp[wf])
 have uk:=hS _ _ _ _ Dy c _ w h uq
 rw[show conc c .gO=.nilIface from by simp[conc]] at uk
 have S_:recoverD (c₀::cs)=none:=by simp[recoverD,hu]
 have h5:(A.put (some 5) .nilIface).eval (.tmp 5)=.nilIface:=by simp[Act.eval,Act.put,Array.getD,J.size]
 obtain⟨id,Na,KB,cl,q1,q2,q3,q4,q5,q6,q7,q8,q9⟩:=abL
 rw[q1]
 refine wpS_region ?_
 rw[show List.range (#[Na,KB]:Array Oper).size=[0,1] from rfl]
 simp only[wpOpsS,mX,mW,nV,Region.wanted,q2,q3,cQ]
 rw[Lk q6 q7 q8]
 simp only[S_,q4]
 rw[run_assign q9,h5]
 simp only[Oper.upon,q5,Exit.thenS]
 refine wpS_of_wp (Code.wp_mono ?_ uk)
 rintro e a' w' ⟨rfl,d1,c',r1,e2,p1⟩
 refine⟨d1.trans Zq,.returning,by rw[←hu],.tuple #[],?_,⟨_,rfl⟩,rfl,c',r1,p1⟩
 exact(ob (s:=⟨I.env,I.ax,I.h⟩) (vs:=[]) r1 e2 (fn:=Tryz.f220) rfl).1
theorem HB (hP:C.P=Tryz.prog)(hm:C.P.follows .mixedOrders=true)(hT:eM C){args:List V}{v:V}{dz:H}(hr:toldParsed C n args σ=some (v,dz))(h:Rel c σ w)(hw:∀x∈args,wf c x):
  fe C.P 191 args c w v dz:=by
 have hS:=(xJ (C:=C) hm hT n).1
 unfold toldParsed at hr
 split at hr
 ·rename_i x
  split at hr
  ·rename_i I h₁
   cases Ud:Nat.blt 4 I.ax with
   |false=>rw[Ud] at hr;cases hr
   |true =>
   rw[Ud,ah] at hr
   have We:=ig.1 Ud
   split at hr
   ·rename_i Nn Qf
    split at hr
    ·rename_i aaj Dy
     split at hr
     ·rename_i ad2 ad3 aeF
      simp only[aB,bC] at hr
      obtain⟨rfl,rfl⟩:=hr
      unfold fe
      refine calls_of_wp_defers (fn:=Tryz.f191) (c:=yx) (by rw[hP];exact JL) Ua ?_
      have ad4:=jt (c:=c) (args:=[x]) (n:=9) (by simp) hw
      have JO:yx=.seq Ot (.seq (leftC (cS yx)) (.seq Ou .ret)):=rfl
      rw[JO]
      refine wp_seq (Code.wp_mono ?_ (hS _ _ _ _ h₁ c _ w h ad4))
      rintro e J sn ⟨rfl,nE,c₁,Ih,uq,acZ⟩
      simp only[exOf,Exit.then]
      refine wp_seq ?_
      have qy:=uq.val 2
      have Rm:=uq.val 3
      have Po:J.defers=[]:=nE
      have hfn:wf c₁ (.fn (.func 220) [] [I.env.v 2,I.env.v 3]):=by
       simp only[wf,fL]
       exact⟨aa,uq.sg 2,uq.sg 3,aa⟩
      have Di:=uq.put We hfn
      have jO:conc c₁ (.fn (.func 220) [] [I.env.v 2,I.env.v 3])=.func (.func 220) #[] #[J.tmps.getD 2 undef,J.tmps.getD 3 undef]:=by
       rw[qy,Rm];simp[conc,concL]
      have ev4:=Di.val 4
      rw[show Env.v (I.env.set 4 (some (.fn (.func 220) [] [I.env.v 2,I.env.v 3]))) 4=.fn (.func 220) [] [I.env.v 2,I.env.v 3] from by simp[Env.v,bh]] at ev4
      obtain⟨id,Na,KB,cl,t1,t2,t3,t4,t5,t6,t7,t8,t9⟩:=ac8
      rw[t1]
      refine HA t2 t3 ?_
      unfold Oper.wp
      rw[JM t6]
      simp only[Oper.upon,t4]
      rw[show(.func (.func 220) (Array.map J.eval #[]) (Array.map J.eval #[.tmp 2,.tmp 3]):Value)=conc c₁ (.fn (.func 220) [] [I.env.v 2,I.env.v 3]) from by rw[jO];simp[Act.eval]]
      rw[Rn t7 t8 (ev4.trans jO)]
      simp only[Exit.then,t5,t9]
      have aeG:dG c₁ (I.env.set 4 (some (.fn (.func 220) [] [I.env.v 2,I.env.v 3]))) I.ax
        ({ J.put (some 4) (conc c₁ (.fn (.func 220) [] [I.env.v 2,I.env.v 3])) with defers:={ target:=.fn (.func 220) #[J.tmps.getD 2 undef,J.tmps.getD 3 undef],args := #[]++Array.map (J.put (some 4) (conc c₁ (.fn (.func 220) [] [I.env.v 2,I.env.v 3]))).eval #[] }::J.defers }:Act):=⟨Di.size,Di.val,Di.sg⟩
      refine wp_seq (Code.wp_mono ?_ (hS _ _ _ _ Qf c₁ _ sn Ih aeG))
      rintro e Hr YQ ⟨rfl,Fv,c₂,Ii,abM,ZX⟩
      simp only[exOf,Exit.then]
      refine wp_ret ?_
      simp only[bodyPostD]
      rw[Fv]
      simp only[put_defers,Po]
      have hx:=cu ZX.ext _ (uq.sg 2)
      have hy:=cu ZX.ext _ (uq.sg 3)
      refine leaves_cons (f:=220) (args := #[conc c₂ (I.env.v 2),conc c₂ (I.env.v 3)]) (by simp) ?_ ?_
      ·rw[hx.1,hy.1,←qy,←Rm]
       simp only[invoke]
       rw[JN (fn:=Tryz.f220) (by rw[hP];exact Tryz.func220) rfl (by decide)]
       simp
      ·refine(Uc hP hm hT Dy Ii hx.2 hy.2).mono ?_
       rintro e u' Ov ⟨⟨v,rfl⟩,rfl,CY,XX,ad5⟩
       simp only[settle,Leaves]
       obtain⟨q1,q2⟩:=ob (s:=⟨Nn.env,Nn.ax,aaj.h⟩) XX (abM.ext ad5.ext) (fn:=Tryz.f191) aeF
       refine⟨_,q1,CY,by simp[conc,concL],?_,XX,(acZ.trans ZX).trans ad5⟩
       simp only[wf,fL]
       exact⟨q2 _ (by simp),q2 _ (by simp),aa⟩
     ·cases hr
    ·cases hr
   ·cases hr
  ·cases hr
 ·cases hr
end
end Go.Proofs.YtiojppeahfoiaaaGreat.Am
