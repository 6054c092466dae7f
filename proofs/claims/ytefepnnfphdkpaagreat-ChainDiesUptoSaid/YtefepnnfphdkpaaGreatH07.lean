/- ChainDies: a part of its proof; conditions: its statement's. -/
import Derived.Test.YtefepnnfphdkpaaGreatH02
import Derived.Test.YtefepnnfphdkpaaGreatProg
import Derived.KernelRfl
import Derived.Recover
set_option linter.defProp false
namespace Go.Proofs.YtefepnnfphdkpaaGreat.Am
open Go
def Kb:=@Tryz.func173
variable {cl:Go.Call} {n:Nat} {o:Oper} {ρ:Operand→Value} {P:Program}
noncomputable def yI : Code:=(Tryz.f173.body).getD .skip
noncomputable def OM : Code:=leftC yI
noncomputable def ON : Code:=leftC (cX (cX yI))
noncomputable def BJ : Code:=(Tryz.f191.body).getD .skip
noncomputable def HT : Code:=cX BJ
noncomputable def toldParsed (C:fc)(n:Nat): List V→H→Option (V×H)
 |[x],h=>match ev C n OM ⟨bindArgs [x] 0 .lf,9,h⟩ with
  |some (.normal,I)=>cond (Nat.blt 4 I.au) (match ev C n ON ⟨I.env.set 4 (some (.fn (.func 191) [] [I.env.v 2,I.env.v 3])),I.au,I.h⟩ with
   |some (.normal,J)=>match ev C n HT ⟨((bindArgs [I.env.v 2,I.env.v 3] 0 .lf).set 5 (some .jQ)).set 2 (some .jQ),16,J.h⟩ with
    |some (.normal,aar)=>match mapO (resV C.P ⟨J.env,J.au,aar.h⟩) Tryz.f173.results.toList with
     |some [adT,adU]=>some (.bf [adT,adU],aar.h)
     |_=>none
    |_=>none
   |_=>none) none
  |_=>none
 |_,_=>none
theorem UC : Tryz.f173.body=some yI:=rfl
theorem UD : Tryz.f191.body=some BJ:=rfl
theorem HB {id:Nat}{I J:Oper}{Q:Exit→Act→World→Prop}{a:Act}{w:World}(acH:I.guard=none)(acI:J.guard=none)
 (h:I.wp P a w (fun a w=>J.wp P a w (Q .normal) Q) Q): (Code.region id #[I,J] false).wp P Q a w:=by
 refine wp_region ?_
 rw[show List.range (#[I,J]:Array Oper).size=[0,1] from rfl]
 simp only[wpOps,ni,ng,nh,Region.wanted,acH,acI,cY]
 refine .inl (Oper.wp_mono (fun a w h => ?_) h)
 exact .inl h
theorem Kc {f:Fn}{x y:Array Operand}(ho:o.op=.makeFunc f x y)(w:World):
  (execOp ρ o).run P w=.ok (.value (.func f (x.map ρ) (y.map ρ))) w:=by
 simp[execOp,ho,Instr.makeFunc]
theorem RZ {f:Operand}{g:Fn}{x y:Array Value}(ho:o.op=.defer cl)(I:cl.callee=.value f)(J:ρ f=.func g x y)(w:World):
  (execOp ρ o).run P w=.ok (.defer { target:=.fn g y,args:=x++cl.args.map ρ }) w:=by
 simp[execOp,ho,resolve,I,J,Deferred.ofValue]
theorem Lp (ho:o.op=.call cl)(I:cl.callee=.builtin .recover)(J:cl.args = #[])(w:World): (execOp ρ o).run P w=.ok .recover w:=by
 simp[execOp,ho,resolve,I,J,invoke,builtin]
theorem run_assign {x:Operand}(ho:o.op=.assign x)(w:World): (execOp ρ o).run P w=.ok (.value (ρ x)) w:=by
 simp[execOp,ho]
theorem Ke {f : FuncId} {fn : Func} (I : P.funcs[f]? = some fn) (J : fn.body.isNone = false) (hn : (fn.name == "runtime.NumGoroutine") = false) (x : Array Value) (w : World) :
  (callFunc f x).run P w = .ok (.enter f x) w := by
 simp only [callFunc, Sem.run_bind, run_program, Result.andThen_ok, I, hn, kN, fQ, J, Sem.run_pure]
theorem ac5 : ∃id I J cl,leftC (cX yI)=.region id #[I,J] false∧I.guard=none∧J.guard=none∧I.dst=some 4∧J.dst=none∧I.op=.makeFunc (.func 191) #[] #[.tmp 2,.tmp 3] ∧
  J.op=.defer cl∧cl.callee=.value (.tmp 4)∧cl.args = #[]:=⟨_,_,_,_,rfl,rfl,rfl,rfl,rfl,rfl,rfl,rfl,rfl⟩
theorem abI : ∃id I J cl,leftC BJ=.region id #[I,J] false∧I.guard=none∧J.guard=none∧I.dst=some 5∧J.dst=some 2∧I.op=.call cl∧cl.callee=.builtin .recover∧cl.args = #[]∧J.op=.assign (.tmp 5) :=
 ⟨_,_,_,_,rfl,rfl,rfl,rfl,rfl,rfl,rfl,rfl,rfl⟩
section
variable {C:fc} {c:Ctx} {σ:H} {w:World}
theorem UE (hP:C.P=Tryz.prog)(hm:C.P.follows .mixedOrders=true)(hT:fq C){x y:V}{I:St}(Du:ev C n HT ⟨((bindArgs [x,y] 0 .lf).set 5 (some .jQ)).set 2 (some .jQ),16,σ⟩=some (.normal,I))
 (h:Rel c σ w)(hx:wf c x)(hy:wf c y): CallsD C.P 191 #[conc c x,conc c y] .returning w fun e u' w'=>(∃v,e=.returned v)∧u'=.returning∧∃c',Rel c' I.h w'∧cF c w c' w':=by
 have hS:=(xT (C:=C) hm hT n).1
 refine callsD_of_wpS (fn:=Tryz.f191) (c:=BJ) (by rw[hP];exact Tryz.func191) UD fun c₀ cs hu => ?_
 rw[show Tryz.f191.ntmps=16 from Tryz.ntmps191]
 have Kf:BJ=.seq (leftC BJ) HT:=rfl
 rw[Kf]
 refine wpS_seq ?_
 have hw:∀z∈[x,y],wf c z:=fun z hz=>by
  simp only[kP,ow,ug] at hz
  rcases hz with rfl|rfl
  ·exact hx
  ·exact hy
 have J:=jN (c:=c) (args:=[x,y]) (n:=16) (by simp) hw
 rw[show(List.map (conc c) [x,y]).toArray = #[conc c x,conc c y] from rfl] at J
 generalize hA:({ tmps := #[conc c x,conc c y]++Array.replicate (16-(#[conc c x,conc c y]:Array Value).size) undef,defers:=[] }:Act)=A at J ⊢
 have Zp:A.defers=[]:=by rw[←hA]
 have uI:=(J.put (d:=5) (v:=.jQ) (by decide) (by simp[wf])).put (d:=2) (v:=.jQ) (by decide) (by simp[wf])
 have uE:=hS _ _ _ _ Du c _ w h uI
 rw[show conc c .jQ=.nilIface from by simp[conc]] at uE
 have Cw:recoverD (c₀::cs)=none:=by simp[recoverD,hu]
 have h5:(A.put (some 5) .nilIface).eval (.tmp 5)=.nilIface:=by simp[Act.eval,Act.put,Array.getD,J.size]
 obtain⟨id,M9,KB,cl,q1,q2,q3,q4,q5,q6,q7,q8,q9⟩:=abI
 rw[q1]
 refine wpS_region ?_
 rw[show List.range (#[M9,KB]:Array Oper).size=[0,1] from rfl]
 simp only[wpOpsS,ni,ng,nh,Region.wanted,q2,q3,cY]
 rw[Lp q6 q7 q8]
 simp only[Cw,q4]
 rw[run_assign q9,h5]
 simp only[Oper.upon,q5,Exit.thenS]
 refine wpS_of_wp (Code.wp_mono ?_ uE)
 rintro e a' w' ⟨rfl,d1,c',r1,e2,p1⟩
 refine⟨d1.trans Zp,.returning,by rw[←hu],.tuple #[],?_,⟨_,rfl⟩,rfl,c',r1,p1⟩
 exact(oB (s:=⟨I.env,I.au,I.h⟩) (vs:=[]) r1 e2 (fn:=Tryz.f191) rfl).1
theorem HD (hP:C.P=Tryz.prog)(hm:C.P.follows .mixedOrders=true)(hT:fq C){args:List V}{v:V}{dz:H}(hr:toldParsed C n args σ=some (v,dz))(h:Rel c σ w)(hw:∀x∈args,wf c x):
  eZ C.P 173 args c w v dz:=by
 have hS:=(xT (C:=C) hm hT n).1
 unfold toldParsed at hr
 split at hr
 ·rename_i x
  split at hr
  ·rename_i I h₁
   cases UF:Nat.blt 4 I.au with
   |false=>rw[UF] at hr;cases hr
   |true =>
   rw[UF,aj] at hr
   have We:=iF.1 UF
   split at hr
   ·rename_i Nk Ql
    split at hr
    ·rename_i aar Du
     split at hr
     ·rename_i adT adU aex
      simp only[az,bJ] at hr
      obtain⟨rfl,rfl⟩:=hr
      unfold eZ
      refine calls_of_wp_defers (fn:=Tryz.f173) (c:=yI) (by rw[hP];exact Kb) UC ?_
      have adV:=jN (c:=c) (args:=[x]) (n:=9) (by simp) hw
      have Kf:yI=.seq OM (.seq (leftC (cX yI)) (.seq ON .ret)):=rfl
      rw[Kf]
      refine wp_seq (Code.wp_mono ?_ (hS _ _ _ _ h₁ c _ w h adV))
      rintro e J sE ⟨rfl,nZ,c₁,Ih,uI,acJ⟩
      simp only[exOf,Exit.then]
      refine wp_seq ?_
      have nL:=uI.val 2
      have RY:=uI.val 3
      have Pp:J.defers=[]:=nZ
      have hfn:wf c₁ (.fn (.func 191) [] [I.env.v 2,I.env.v 3]):=by
       simp only[wf,gM]
       exact⟨aa,uI.sC 2,uI.sC 3,aa⟩
      have Dc:=uI.put We hfn
      have je:conc c₁ (.fn (.func 191) [] [I.env.v 2,I.env.v 3])=.func (.func 191) #[] #[J.tmps.getD 2 undef,J.tmps.getD 3 undef]:=by
       rw[nL,RY];simp[conc,concL]
      have ev4:=Dc.val 4
      rw[show Env.v (I.env.set 4 (some (.fn (.func 191) [] [I.env.v 2,I.env.v 3]))) 4=.fn (.func 191) [] [I.env.v 2,I.env.v 3] from by simp[Env.v,bp]] at ev4
      obtain⟨id,M9,KB,cl,t1,t2,t3,t4,t5,t6,t7,t8,t9⟩:=ac5
      rw[t1]
      refine HB t2 t3 ?_
      unfold Oper.wp
      rw[Kc t6]
      simp only[Oper.upon,t4]
      rw[show(.func (.func 191) (Array.map J.eval #[]) (Array.map J.eval #[.tmp 2,.tmp 3]):Value)=conc c₁ (.fn (.func 191) [] [I.env.v 2,I.env.v 3]) from by rw[je];simp[Act.eval]]
      rw[RZ t7 t8 (ev4.trans je)]
      simp only[Exit.then,t5,t9]
      have aey:dH c₁ (I.env.set 4 (some (.fn (.func 191) [] [I.env.v 2,I.env.v 3]))) I.au
        ({ J.put (some 4) (conc c₁ (.fn (.func 191) [] [I.env.v 2,I.env.v 3])) with defers:={ target:=.fn (.func 191) #[J.tmps.getD 2 undef,J.tmps.getD 3 undef],args := #[]++Array.map (J.put (some 4) (conc c₁ (.fn (.func 191) [] [I.env.v 2,I.env.v 3]))).eval #[] }::J.defers }:Act):=⟨Dc.size,Dc.val,Dc.sC⟩
      refine wp_seq (Code.wp_mono ?_ (hS _ _ _ _ Ql c₁ _ sE Ih aey))
      rintro e Hq YR ⟨rfl,Fj,c₂,Ii,abF,ZU⟩
      simp only[exOf,Exit.then]
      refine wp_ret ?_
      simp only[bodyPostD]
      rw[Fj]
      simp only[put_defers,Pp]
      have hx:=cx ZU.ext _ (uI.sC 2)
      have hy:=cx ZU.ext _ (uI.sC 3)
      refine leaves_cons (f:=191) (args := #[conc c₂ (I.env.v 2),conc c₂ (I.env.v 3)]) (by simp) ?_ ?_
      ·rw[hx.1,hy.1,←nL,←RY]
       simp only[invoke]
       rw[Ke (fn:=Tryz.f191) (by rw[hP];exact Tryz.func191) rfl (by decide)]
       simp
      ·refine(UE hP hm hT Du Ii hx.2 hy.2).mono ?_
       rintro e u' OA ⟨⟨v,rfl⟩,rfl,CR,XX,adW⟩
       simp only[settle,Leaves]
       obtain⟨q1,q2⟩:=oB (s:=⟨Nk.env,Nk.au,aar.h⟩) XX (abF.ext adW.ext) (fn:=Tryz.f173) aex
       refine⟨_,q1,CR,by simp[conc,concL],?_,XX,(acJ.trans ZU).trans adW⟩
       simp only[wf,gM]
       exact⟨q2 _ (by simp),q2 _ (by simp),aa⟩
     ·cases hr
    ·cases hr
   ·cases hr
  ·cases hr
 ·cases hr
end
end Go.Proofs.YtefepnnfphdkpaaGreat.Am
