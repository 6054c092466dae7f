/- TxLong: a part of its proof; conditions: its statement's. -/
import Derived.Test.YtiojppeahfoiaaaGreatK02
import Derived.Test.YtiojppeahfoiaaaGreatProg
import Derived.KernelRfl
import Derived.Recover
set_option linter.defProp false
namespace Go.Proofs.YtiojppeahfoiaaaGreat.Am
open Go
def It:=@Tryz.func191
variable {cl:Go.Call} {n:Nat} {o:Oper} {ρ:Operand→Value} {P:Program}
noncomputable def xp : Code:=(Tryz.f191.body).getD .skip
noncomputable def MK : Code:=leftC xp
noncomputable def ML : Code:=leftC (cz (cz xp))
noncomputable def AO : Code:=(Tryz.f220.body).getD .skip
noncomputable def Gq : Code:=cz AO
noncomputable def toldParsed (C:eO)(n:Nat): List V→H→Option (V×H)
 |[x],h=>match ev C n MK ⟨bindArgs [x] 0 .lf,9,h⟩ with
  |some (.normal,I)=>cond (Nat.blt 4 I.ak) (match ev C n ML ⟨I.env.set 4 (some (.fn (.func 220) [] [I.env.v 2,I.env.v 3])),I.ak,I.h⟩ with
   |some (.normal,J)=>match ev C n Gq ⟨((bindArgs [I.env.v 2,I.env.v 3] 0 .lf).set 5 (some .iP)).set 2 (some .iP),16,J.h⟩ with
    |some (.normal,YC)=>match mapO (resV C.P ⟨J.env,J.ak,YC.h⟩) Tryz.f191.results.toList with
     |some [abS,abT]=>some (.aO [abS,abT],YC.h)
     |_=>none
    |_=>none
   |_=>none) none
  |_=>none
 |_,_=>none
theorem Sw : Tryz.f191.body=some xp:=rfl
theorem Sx : Tryz.f220.body=some AO:=rfl
theorem F4 {id:Nat}{I J:Oper}{Q:Exit→Act→World→Prop}{a:Act}{w:World}(aaZ:I.guard=none)(aa0:J.guard=none)
 (h:I.wp P a w (fun a w=>J.wp P a w (Q .normal) Q) Q): (Code.region id #[I,J] false).wp P Q a w:=by
 refine wp_region ?_
 rw[show List.range (#[I,J]:Array Oper).size=[0,1] from rfl]
 simp only[wpOps,me,l_,mc,Region.wanted,aaZ,aa0,cA]
 refine .inl (Oper.wp_mono (fun a w h => ?_) h)
 exact .inl h
theorem Iu {f:Fn}{x y:Array Operand}(ho:o.op=.makeFunc f x y)(w:World):
  (execOp ρ o).run P w=.ok (.value (.func f (x.map ρ) (y.map ρ))) w:=by
 simp[execOp,ho,Instr.makeFunc]
theorem PL {f:Operand}{g:Fn}{x y:Array Value}(ho:o.op=.defer cl)(I:cl.callee=.value f)(J:ρ f=.func g x y)(w:World):
  (execOp ρ o).run P w=.ok (.defer { target:=.fn g y,args:=x++cl.args.map ρ }) w:=by
 simp[execOp,ho,resolve,I,J,Deferred.ofValue]
theorem JU (ho:o.op=.call cl)(I:cl.callee=.builtin .recover)(J:cl.args = #[])(w:World): (execOp ρ o).run P w=.ok .recover w:=by
 simp[execOp,ho,resolve,I,J,invoke,builtin]
theorem run_assign {x:Operand}(ho:o.op=.assign x)(w:World): (execOp ρ o).run P w=.ok (.value (ρ x)) w:=by
 simp[execOp,ho]
theorem Iv {f : FuncId} {fn : Func} (I : P.funcs[f]? = some fn) (J : fn.body.isNone = false) (hn : (fn.name == "runtime.NumGoroutine") = false) (x : Array Value) (w : World) :
  (callFunc f x).run P w = .ok (.enter f x) w := by
 simp only [callFunc, Sem.run_bind, run_program, Result.andThen_ok, I, hn, kf, fb, J, Sem.run_pure]
theorem abd : ∃id I J cl,leftC (cz xp)=.region id #[I,J] false∧I.guard=none∧J.guard=none∧I.dst=some 4∧J.dst=none∧I.op=.makeFunc (.func 220) #[] #[.tmp 2,.tmp 3] ∧
  J.op=.defer cl∧cl.callee=.value (.tmp 4)∧cl.args = #[]:=⟨_,_,_,_,rfl,rfl,rfl,rfl,rfl,rfl,rfl,rfl,rfl⟩
theorem Z_ : ∃id I J cl,leftC AO=.region id #[I,J] false∧I.guard=none∧J.guard=none∧I.dst=some 5∧J.dst=some 2∧I.op=.call cl∧cl.callee=.builtin .recover∧cl.args = #[]∧J.op=.assign (.tmp 5) :=
 ⟨_,_,_,_,rfl,rfl,rfl,rfl,rfl,rfl,rfl,rfl,rfl⟩
section
variable {C:eO} {c:Ctx} {σ:H} {w:World}
theorem Sy (hP:C.P=Tryz.prog)(hm:C.P.follows .mixedOrders=true)(hT:ep C){x y:V}{I:St}(Cj:ev C n Gq ⟨((bindArgs [x,y] 0 .lf).set 5 (some .iP)).set 2 (some .iP),16,σ⟩=some (.normal,I))
 (h:Rel c σ w)(hx:wf c x)(hy:wf c y): CallsD C.P 220 #[conc c x,conc c y] .returning w fun e u' w'=>(∃v,e=.returned v)∧u'=.returning∧∃c',Rel c' I.h w'∧bZ c w c' w':=by
 have hS:=(wM (C:=C) hm hT n).1
 refine callsD_of_wpS (fn:=Tryz.f220) (c:=AO) (by rw[hP];exact Tryz.func220) Sx fun c₀ cs hu => ?_
 rw[show Tryz.f220.ntmps=16 from Tryz.ntmps220]
 have Iw:AO=.seq (leftC AO) Gq:=rfl
 rw[Iw]
 refine wpS_seq ?_
 have hw:∀z∈[x,y],wf c z:=fun z hz=>by
  simp only[jI,kZ,oR] at hz
  rcases hz with rfl|rfl
  ·exact hx
  ·exact hy
 have J:=iR (c:=c) (args:=[x,y]) (n:=16) (by simp) hw
 rw[show(List.map (conc c) [x,y]).toArray = #[conc c x,conc c y] from rfl] at J
 generalize hA:({ tmps := #[conc c x,conc c y]++Array.replicate (16-(#[conc c x,conc c y]:Array Value).size) undef,defers:=[] }:Act)=A at J ⊢
 have Xh:A.defers=[]:=by rw[←hA]
 have tw:=(J.put (d:=5) (v:=.iP) (by decide) (by simp[wf])).put (d:=2) (v:=.iP) (by decide) (by simp[wf])
 have tq:=hS _ _ _ _ Cj c _ w h tw
 rw[show conc c .iP=.nilIface from by simp[conc]] at tq
 have Q3:recoverD (c₀::cs)=none:=by simp[recoverD,hu]
 have h5:(A.put (some 5) .nilIface).eval (.tmp 5)=.nilIface:=by simp[Act.eval,Act.put,Array.getD,J.size]
 obtain⟨id,I8,Gy,cl,q1,q2,q3,q4,q5,q6,q7,q8,q9⟩:=Z_
 rw[q1]
 refine wpS_region ?_
 rw[show List.range (#[I8,Gy]:Array Oper).size=[0,1] from rfl]
 simp only[wpOpsS,me,l_,mc,Region.wanted,q2,q3,cA]
 rw[JU q6 q7 q8]
 simp only[Q3,q4]
 rw[run_assign q9,h5]
 simp only[Oper.upon,q5,Exit.thenS]
 refine wpS_of_wp (Code.wp_mono ?_ tq)
 rintro e a' w' ⟨rfl,d1,c',r1,e2,p1⟩
 refine⟨d1.trans Xh,.returning,by rw[←hu],.tuple #[],?_,⟨_,rfl⟩,rfl,c',r1,p1⟩
 exact(nm (s:=⟨I.env,I.ak,I.h⟩) (vs:=[]) r1 e2 (fn:=Tryz.f220) rfl).1
theorem F5 (hP:C.P=Tryz.prog)(hm:C.P.follows .mixedOrders=true)(hT:ep C){args:List V}{v:V}{cV:H}(hr:toldParsed C n args σ=some (v,cV))(h:Rel c σ w)(hw:∀x∈args,wf c x):
  eo C.P 191 args c w v cV:=by
 have hS:=(wM (C:=C) hm hT n).1
 unfold toldParsed at hr
 split at hr
 ·rename_i x
  split at hr
  ·rename_i I h₁
   cases Sz:Nat.blt 4 I.ak with
   |false=>rw[Sz] at hr;cases hr
   |true =>
   rw[Sz,ah] at hr
   have T8:=gF.1 Sz
   split at hr
   ·rename_i Lo Oo
    split at hr
    ·rename_i YC Cj
     split at hr
     ·rename_i abS abT acE
      simp only[ay,bz] at hr
      obtain⟨rfl,rfl⟩:=hr
      unfold eo
      refine calls_of_wp_defers (fn:=Tryz.f191) (c:=xp) (by rw[hP];exact It) Sw ?_
      have abU:=iR (c:=c) (args:=[x]) (n:=9) (by simp) hw
      have Iw:xp=.seq MK (.seq (leftC (cz xp)) (.seq ML .ret)):=rfl
      rw[Iw]
      refine wp_seq (Code.wp_mono ?_ (hS _ _ _ _ h₁ c _ w h abU))
      rintro e J rC ⟨rfl,mQ,c₁,GL,tw,aa1⟩
      simp only[exOf,Exit.then]
      refine wp_seq ?_
      have uo:=tw.val 2
      have YB:=tw.val 3
      have Nt:J.defers=[]:=mQ
      have hfn:wf c₁ (.fn (.func 220) [] [I.env.v 2,I.env.v 3]):=by
       simp only[wf,fJ]
       exact⟨aa,tw.ry 2,tw.ry 3,aa⟩
      have B5:=tw.put T8 hfn
      have jC:conc c₁ (.fn (.func 220) [] [I.env.v 2,I.env.v 3])=.func (.func 220) #[] #[J.tmps.getD 2 undef,J.tmps.getD 3 undef]:=by
       rw[uo,YB];simp[conc,concL]
      have ev4:=B5.val 4
      rw[show Env.v (I.env.set 4 (some (.fn (.func 220) [] [I.env.v 2,I.env.v 3]))) 4=.fn (.func 220) [] [I.env.v 2,I.env.v 3] from by simp[Env.v,aR]] at ev4
      obtain⟨id,I8,Gy,cl,t1,t2,t3,t4,t5,t6,t7,t8,t9⟩:=abd
      rw[t1]
      refine F4 t2 t3 ?_
      unfold Oper.wp
      rw[Iu t6]
      simp only[Oper.upon,t4]
      rw[show(.func (.func 220) (Array.map J.eval #[]) (Array.map J.eval #[.tmp 2,.tmp 3]):Value)=conc c₁ (.fn (.func 220) [] [I.env.v 2,I.env.v 3]) from by rw[jC];simp[Act.eval]]
      rw[PL t7 t8 (ev4.trans jC)]
      simp only[Exit.then,t5,t9]
      have acF:cX c₁ (I.env.set 4 (some (.fn (.func 220) [] [I.env.v 2,I.env.v 3]))) I.ak
        ({ J.put (some 4) (conc c₁ (.fn (.func 220) [] [I.env.v 2,I.env.v 3])) with defers:={ target:=.fn (.func 220) #[J.tmps.getD 2 undef,J.tmps.getD 3 undef],args := #[]++Array.map (J.put (some 4) (conc c₁ (.fn (.func 220) [] [I.env.v 2,I.env.v 3]))).eval #[] }::J.defers }:Act):=⟨B5.size,B5.val,B5.ry⟩
      refine wp_seq (Code.wp_mono ?_ (hS _ _ _ _ Oo c₁ _ rC GL acF))
      rintro e FU Wu ⟨rfl,DZ,c₂,GM,aaa,XT⟩
      simp only[exOf,Exit.then]
      refine wp_ret ?_
      simp only[bodyPostD]
      rw[DZ]
      simp only[put_defers,Nt]
      have hx:=b9 XT.ext _ (tw.ry 2)
      have hy:=b9 XT.ext _ (tw.ry 3)
      refine leaves_cons (f:=220) (args := #[conc c₂ (I.env.v 2),conc c₂ (I.env.v 3)]) (by simp) ?_ ?_
      ·rw[hx.1,hy.1,←uo,←YB]
       simp only[invoke]
       rw[Iv (fn:=Tryz.f220) (by rw[hP];exact Tryz.func220) rfl (by decide)]
       simp
      ·refine(Sy hP hm hT Cj GM hx.2 hy.2).mono ?_
       rintro e u' MM ⟨⟨v,rfl⟩,rfl,BN,VE,abV⟩
       simp only[settle,Leaves]
       obtain⟨q1,q2⟩:=nm (s:=⟨Lo.env,Lo.ak,YC.h⟩) VE (aaa.ext abV.ext) (fn:=Tryz.f191) acE
       refine⟨_,q1,BN,by simp[conc,concL],?_,VE,(aa1.trans XT).trans abV⟩
       simp only[wf,fJ]
       exact⟨q2 _ (by simp),q2 _ (by simp),aa⟩
     ·cases hr
    ·cases hr
   ·cases hr
  ·cases hr
 ·cases hr
end
end Go.Proofs.YtiojppeahfoiaaaGreat.Am
