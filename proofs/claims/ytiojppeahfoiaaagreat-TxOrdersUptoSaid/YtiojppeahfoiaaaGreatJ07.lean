/- TxOrders: a part of its proof; conditions: its statement's. -/
import Derived.Test.YtiojppeahfoiaaaGreatJ02
import Derived.Test.YtiojppeahfoiaaaGreatProg
import Derived.KernelRfl
import Derived.Recover
set_option linter.defProp false
namespace Go.Proofs.YtiojppeahfoiaaaGreat.Am
open Go
def GR:=@Tryz.func191
variable {cl:Go.Call} {n:Nat} {o:Oper} {ρ:Operand→Value} {P:Program}
noncomputable def vL : Code:=(Tryz.f191.body).getD .skip
noncomputable def Lm : Code:=leftC vL
noncomputable def Ln : Code:=leftC (b6 (b6 vL))
noncomputable def yW : Code:=(Tryz.f220.body).getD .skip
noncomputable def EW : Code:=b6 yW
noncomputable def toldParsed (C:dR)(n:Nat): List V→H→Option (V×H)
 |[x],h=>match ev C n Lm ⟨bindArgs [x] 0 .lf,9,h⟩ with
  |some (.normal,I)=>cond (Nat.blt 4 I.aj) (match ev C n Ln ⟨I.env.set 4 (some (.fn (.func 220) [] [I.env.v 2,I.env.v 3])),I.aj,I.h⟩ with
   |some (.normal,J)=>match ev C n EW ⟨((bindArgs [I.env.v 2,I.env.v 3] 0 .lf).set 5 (some .ig)).set 2 (some .ig),16,J.h⟩ with
    |some (.normal,Wg)=>match mapO (resV C.P ⟨J.env,J.aj,Wg.h⟩) Tryz.f191.results.toList with
     |some [aa_,aba]=>some (.aI [aa_,aba],Wg.h)
     |_=>none
    |_=>none
   |_=>none) none
  |_=>none
 |_,_=>none
theorem QK : Tryz.f191.body=some vL:=rfl
theorem QL : Tryz.f220.body=some yW:=rfl
theorem EA {id:Nat}{I J:Oper}{Q:Exit→Act→World→Prop}{a:Act}{w:World}(aae:I.guard=none)(aaf:J.guard=none)
 (h:I.wp P a w (fun a w=>J.wp P a w (Q .normal) Q) Q): (Code.region id #[I,J] false).wp P Q a w:=by
 refine wp_region ?_
 rw[show List.range (#[I,J]:Array Oper).size=[0,1] from rfl]
 simp only[wpOps,kW,kU,lZ,Region.wanted,aae,aaf,b7]
 refine .inl (Oper.wp_mono (fun a w h => ?_) h)
 exact .inl h
theorem GS {f:Fn}{x y:Array Operand}(ho:o.op=.makeFunc f x y)(w:World):
  (execOp ρ o).run P w=.ok (.value (.func f (x.map ρ) (y.map ρ))) w:=by
 simp[execOp,ho,Instr.makeFunc]
theorem Og {f:Operand}{g:Fn}{x y:Array Value}(ho:o.op=.defer cl)(I:cl.callee=.value f)(J:ρ f=.func g x y)(w:World):
  (execOp ρ o).run P w=.ok (.defer { target:=.fn g y,args:=x++cl.args.map ρ }) w:=by
 simp[execOp,ho,resolve,I,J,Deferred.ofValue]
theorem Is (ho:o.op=.call cl)(I:cl.callee=.builtin .recover)(J:cl.args = #[])(w:World): (execOp ρ o).run P w=.ok .recover w:=by
 simp[execOp,ho,resolve,I,J,invoke,builtin]
theorem run_assign {x:Operand}(ho:o.op=.assign x)(w:World): (execOp ρ o).run P w=.ok (.value (ρ x)) w:=by
 simp[execOp,ho]
theorem GU {f : FuncId} {fn : Func} (I : P.funcs[f]? = some fn) (J : fn.body.isNone = false) (hn : (fn.name == "runtime.NumGoroutine") = false) (x : Array Value) (w : World) :
  (callFunc f x).run P w = .ok (.enter f x) w := by
 simp only [callFunc, Sem.run_bind, run_program, Result.andThen_ok, I, hn, j5, eM, J, Sem.run_pure]
theorem aao : ∃id I J cl,leftC (b6 vL)=.region id #[I,J] false∧I.guard=none∧J.guard=none∧I.dst=some 4∧J.dst=none∧I.op=.makeFunc (.func 220) #[] #[.tmp 2,.tmp 3] ∧
  J.op=.defer cl∧cl.callee=.value (.tmp 4)∧cl.args = #[]:=⟨_,_,_,_,rfl,rfl,rfl,rfl,rfl,rfl,rfl,rfl,rfl⟩
theorem X7 : ∃id I J cl,leftC yW=.region id #[I,J] false∧I.guard=none∧J.guard=none∧I.dst=some 5∧J.dst=some 2∧I.op=.call cl∧cl.callee=.builtin .recover∧cl.args = #[]∧J.op=.assign (.tmp 5) :=
 ⟨_,_,_,_,rfl,rfl,rfl,rfl,rfl,rfl,rfl,rfl,rfl⟩
section
variable {C:dR} {c:Ctx} {σ:H} {w:World}
theorem QM (hP:C.P=Tryz.prog)(hm:C.P.follows .mixedOrders=true)(hT:dA C){x y:V}{I:St}(Bg:ev C n EW ⟨((bindArgs [x,y] 0 .lf).set 5 (some .ig)).set 2 (some .ig),16,σ⟩=some (.normal,I))
 (h:Rel c σ w)(hx:wf c x)(hy:wf c y): CallsD C.P 220 #[conc c x,conc c y] .returning w fun e u' w'=>(∃v,e=.returned v)∧u'=.returning∧∃c',Rel c' I.h w'∧bT c w c' w':=by
 have hS:=(vj (C:=C) hm hT n).1
 refine callsD_of_wpS (fn:=Tryz.f220) (c:=yW) (by rw[hP];exact Tryz.func220) QL fun c₀ cs hu => ?_
 rw[show Tryz.f220.ntmps=16 from Tryz.ntmps220]
 have GV:yW=.seq (leftC yW) EW:=rfl
 rw[GV]
 refine wpS_seq ?_
 have hw:∀z∈[x,y],wf c z:=fun z hz=>by
  simp only[gY,iu,j8] at hz
  rcases hz with rfl|rfl
  ·exact hx
  ·exact hy
 have J:=ij (c:=c) (args:=[x,y]) (n:=16) (by simp) hw
 rw[show(List.map (conc c) [x,y]).toArray = #[conc c x,conc c y] from rfl] at J
 generalize hA:({ tmps := #[conc c x,conc c y]++Array.replicate (16-(#[conc c x,conc c y]:Array Value).size) undef,defers:=[] }:Act)=A at J ⊢
 have Vd:A.defers=[]:=by rw[←hA]
 have rK:=(J.put (d:=5) (v:=.ig) (by decide) (by simp[wf])).put (d:=2) (v:=.ig) (by decide) (by simp[wf])
 have rG:=hS _ _ _ _ Bg c _ w h rK
 rw[show conc c .ig=.nilIface from by simp[conc]] at rG
 have Pw:recoverD (c₀::cs)=none:=by simp[recoverD,hu]
 have h5:(A.put (some 5) .nilIface).eval (.tmp 5)=.nilIface:=by simp[Act.eval,Act.put,Array.getD,J.size]
 obtain⟨id,LN,JX,cl,q1,q2,q3,q4,q5,q6,q7,q8,q9⟩:=X7
 rw[q1]
 refine wpS_region ?_
 rw[show List.range (#[LN,JX]:Array Oper).size=[0,1] from rfl]
 simp only[wpOpsS,kW,kU,lZ,Region.wanted,q2,q3,b7]
 rw[Is q6 q7 q8]
 simp only[Pw,q4]
 rw[run_assign q9,h5]
 simp only[Oper.upon,q5,Exit.thenS]
 refine wpS_of_wp (Code.wp_mono ?_ rG)
 rintro e a' w' ⟨rfl,d1,c',r1,e2,p1⟩
 refine⟨d1.trans Vd,.returning,by rw[←hu],.tuple #[],?_,⟨_,rfl⟩,rfl,c',r1,p1⟩
 exact(me (s:=⟨I.env,I.aj,I.h⟩) (vs:=[]) r1 e2 (fn:=Tryz.f220) rfl).1
theorem EB (hP:C.P=Tryz.prog)(hm:C.P.follows .mixedOrders=true)(hT:dA C){args:List V}{v:V}{cJ:H}(hr:toldParsed C n args σ=some (v,cJ))(h:Rel c σ w)(hw:∀x∈args,wf c x):
  eE C.P 191 args c w v cJ:=by
 have hS:=(vj (C:=C) hm hT n).1
 unfold toldParsed at hr
 split at hr
 ·rename_i x
  split at hr
  ·rename_i I h₁
   cases QN:Nat.blt 4 I.aj with
   |false=>rw[QN] at hr;cases hr
   |true =>
   rw[QN,ai] at hr
   have Se:=fT.1 QN
   split at hr
   ·rename_i J9 MY
    split at hr
    ·rename_i Wg Bg
     split at hr
     ·rename_i aa_ aba abL
      simp only[au,br] at hr
      obtain⟨rfl,rfl⟩:=hr
      unfold eE
      refine calls_of_wp_defers (fn:=Tryz.f191) (c:=vL) (by rw[hP];exact GR) QK ?_
      have abb:=ij (c:=c) (args:=[x]) (n:=9) (by simp) hw
      have GV:vL=.seq Lm (.seq (leftC (b6 vL)) (.seq Ln .ret)):=rfl
      rw[GV]
      refine wp_seq (Code.wp_mono ?_ (hS _ _ _ _ h₁ c _ w h abb))
      rintro e J pS ⟨rfl,lP,c₁,Fi,rK,aag⟩
      simp only[exOf,Exit.then]
      refine wp_seq ?_
      have sU:=rK.val 2
      have Wf:=rK.val 3
      have L5:J.defers=[]:=lP
      have hfn:wf c₁ (.fn (.func 220) [] [I.env.v 2,I.env.v 3]):=by
       simp only[wf,fe]
       exact⟨aa,rK.pR 2,rK.pR 3,aa⟩
      have A3:=rK.put Se hfn
      have iZ:conc c₁ (.fn (.func 220) [] [I.env.v 2,I.env.v 3])=.func (.func 220) #[] #[J.tmps.getD 2 undef,J.tmps.getD 3 undef]:=by
       rw[sU,Wf];simp[conc,concL]
      have Zj:=A3.val 4
      rw[show Env.v (I.env.set 4 (some (.fn (.func 220) [] [I.env.v 2,I.env.v 3]))) 4=.fn (.func 220) [] [I.env.v 2,I.env.v 3] from by simp[Env.v,aL]] at Zj
      obtain⟨id,LN,JX,cl,t1,t2,t3,t4,t5,t6,t7,t8,t9⟩:=aao
      rw[t1]
      refine EA t2 t3 ?_
      unfold Oper.wp
      rw[GS t6]
      simp only[Oper.upon,t4]
      rw[show(.func (.func 220) (Array.map J.eval #[]) (Array.map J.eval #[.tmp 2,.tmp 3]):Value)=conc c₁ (.fn (.func 220) [] [I.env.v 2,I.env.v 3]) from by rw[iZ];simp[Act.eval]]
      rw[Og t7 t8 (Zj.trans iZ)]
      simp only[Exit.then,t5,t9]
      have abM:cO c₁ (I.env.set 4 (some (.fn (.func 220) [] [I.env.v 2,I.env.v 3]))) I.aj
        ({ J.put (some 4) (conc c₁ (.fn (.func 220) [] [I.env.v 2,I.env.v 3])) with defers:={ target:=.fn (.func 220) #[J.tmps.getD 2 undef,J.tmps.getD 3 undef],args := #[]++Array.map (J.put (some 4) (conc c₁ (.fn (.func 220) [] [I.env.v 2,I.env.v 3]))).eval #[] }::J.defers }:Act):=⟨A3.size,A3.val,A3.pR⟩
      refine wp_seq (Code.wp_mono ?_ (hS _ _ _ _ MY c₁ _ pS Fi abM))
      rintro e Es UB ⟨rfl,CR,c₂,Fj,X8,VN⟩
      simp only[exOf,Exit.then]
      refine wp_ret ?_
      simp only[bodyPostD]
      rw[CR]
      simp only[put_defers,L5]
      have hx:=bL VN.ext _ (rK.pR 2)
      have hy:=bL VN.ext _ (rK.pR 3)
      refine leaves_cons (f:=220) (args := #[conc c₂ (I.env.v 2),conc c₂ (I.env.v 3)]) (by simp) ?_ ?_
      ·rw[hx.1,hy.1,←sU,←Wf]
       simp only[invoke]
       rw[GU (fn:=Tryz.f220) (by rw[hP];exact Tryz.func220) rfl (by decide)]
       simp
      ·refine(QM hP hm hT Bg Fj hx.2 hy.2).mono ?_
       rintro e u' Lo ⟨⟨v,rfl⟩,rfl,AI,TO,abc⟩
       simp only[settle,Leaves]
       obtain⟨q1,q2⟩:=me (s:=⟨J9.env,J9.aj,Wg.h⟩) TO (X8.ext abc.ext) (fn:=Tryz.f191) abL
       refine⟨_,q1,AI,by simp[conc,concL],?_,TO,(aag.trans VN).trans abc⟩
       simp only[wf,fe]
       exact⟨q2 _ (by simp),q2 _ (by simp),aa⟩
     ·cases hr
    ·cases hr
   ·cases hr
  ·cases hr
 ·cases hr
end
end Go.Proofs.YtiojppeahfoiaaaGreat.Am
