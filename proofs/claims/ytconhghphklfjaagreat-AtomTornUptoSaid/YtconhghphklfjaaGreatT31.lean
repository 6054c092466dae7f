/- AtomTorn: a part of its proof; conditions: its statement's. -/
import Derived.Test.YtconhghphklfjaaGreatT11
import Derived.Test.YtconhghphklfjaaGreatProg
import Derived.KernelRfl
import Derived.Recover
set_option linter.defProp false
namespace Go.Proofs.YtconhghphklfjaaGreat.Am
open Go
def Ir:=@Tryz.func101
noncomputable def xT : Code:=(Tryz.f101.body).getD .skip
noncomputable def Mo : Code:=leftC xT
noncomputable def Mp : Code:=leftC (cG (cG xT))
noncomputable def Bf : Code:=(Tryz.f131.body).getD .skip
noncomputable def Gr : Code:=cG Bf
noncomputable def toldParsed (C:dF)(n:Nat): List V→H→Option (V×H)
 | [x],h=>match ev C n Mo ⟨bindArgs [x] 0 .lf,9,h⟩ with
  | some (.normal,I)=>cond (Nat.blt 4 I.az) (match ev C n Mp ⟨I.env.set 4 (some (.fn (.func 131) [] [I.env.v 2,I.env.v 3])),I.az,I.h⟩ with
   | some (.normal,J)=>match ev C n Gr ⟨((bindArgs [I.env.v 2,I.env.v 3] 0 .lf).set 5 (some .mJ)).set 2 (some .mJ),16,J.h⟩ with
    | some (.normal,U)=>match mapO (resV C.P ⟨J.env,J.az,U.h⟩) Tryz.f101.results.toList with
     | some [abT,X3]=>some (.bE [abT,X3],U.h)
     | _=>none
    | _=>none
   | _=>none) none
  | _=>none
 | _,_=>none
theorem Rm : Tryz.f101.body=some xT:=rfl
theorem Rn : Tryz.f131.body=some Bf:=rfl
theorem F_ {P:Program}{id:Nat}{I J:Oper}{Q:Exit→Act→World→Prop}{a:Act}{w:World}(U:I.guard=none)(aaU:J.guard=none)
 (h:I.wp P a w (fun a w=>J.wp P a w (Q .normal) Q) Q): (Code.region id #[I,J] false).wp P Q a w:=by
 refine wp_region ?_
 rw [show List.range (#[I,J]:Array Oper).size=[0,1] from rfl]
 simp only [wpOps,m6,nU,kF,Region.wanted,U,aaU,bQ]
 refine .inl (Oper.wp_mono (fun a w h => ?_) h)
 exact .inl h
theorem Is {P:Program}{o:Oper}{ρ:Operand→Value}{f:Fn}{x y:Array Operand}(ho:o.op=.makeFunc f x y)(w:World):
  (execOp ρ o).run P w=.ok (.value (.func f (x.map ρ) (y.map ρ))) w:=by
 simp [execOp,ho,Instr.makeFunc]
theorem O2 {P:Program}{o:Oper}{ρ:Operand→Value}{cl:Go.Call}{f:Operand}{g:Fn}{x y:Array Value}(ho:o.op=.defer cl)(I:cl.callee=.value f)(J:ρ f=.func g x y)(w:World):
  (execOp ρ o).run P w=.ok (.defer { target:=.fn g y,args:=x++cl.args.map ρ }) w:=by
 simp [execOp,ho,resolve,I,J,Deferred.ofValue]
theorem JJ {P:Program}{o:Oper}{ρ:Operand→Value}{cl:Go.Call}(ho:o.op=.call cl)(I:cl.callee=.builtin .recover)(J:cl.args = #[])(w:World): (execOp ρ o).run P w=.ok .recover w:=by
 simp [execOp,ho,resolve,I,J,invoke,builtin]
theorem run_assign {P:Program}{o:Oper}{ρ:Operand→Value}{x:Operand}(ho:o.op=.assign x)(w:World): (execOp ρ o).run P w=.ok (.value (ρ x)) w:=by
 simp [execOp,ho]
theorem It {P : Program} {f : FuncId} {fn : Func} (I : P.funcs[f]? = some fn) (J : fn.body.isNone = false) (U : (fn.name == "runtime.NumGoroutine") = false) (x : Array Value) (w : World) :
  (callFunc f x).run P w = .ok (.enter f x) w := by
 simp only [callFunc, Sem.run_bind, run_program, Result.andThen_ok, I, U, eY, bN, J, Sem.run_pure]
theorem aa5 : ∃id I J cl,leftC (cG xT)=.region id #[I,J] false∧I.guard=none∧J.guard=none∧I.dst=some 4∧J.dst=none∧I.op=.makeFunc (.func 131) #[] #[.tmp 2,.tmp 3] ∧
  J.op=.defer cl∧cl.callee=.value (.tmp 4)∧cl.args = #[]:=⟨_,_,_,_,rfl,rfl,rfl,rfl,rfl,rfl,rfl,rfl,rfl⟩
theorem YL : ∃id I J cl,leftC Bf=.region id #[I,J] false∧I.guard=none∧J.guard=none∧I.dst=some 5∧J.dst=some 2∧I.op=.call cl∧cl.callee=.builtin .recover∧cl.args = #[]∧J.op=.assign (.tmp 5) :=
 ⟨_,_,_,_,rfl,rfl,rfl,rfl,rfl,rfl,rfl,rfl,rfl⟩
section
variable {C:dF} {c:Ctx} {σ:H} {w:World}
theorem Ro (hP:C.P=Tryz.prog)(hm:C.P.follows .mixedOrders=true)(hT:hG C){n:Nat}{x y:V}{I:St}(TX:ev C n Gr ⟨((bindArgs [x,y] 0 .lf).set 5 (some .mJ)).set 2 (some .mJ),16,σ⟩=some (.normal,I))
 (h:Rel c σ w)(hx:wf c x)(hy:wf c y): CallsD C.P 131 #[conc c x,conc c y] .returning w fun e u' w'=>(∃v,e=.returned v)∧u'=.returning∧∃c',Rel c' I.h w'∧dL c w c' w':=by
 have hS:=(Ge (C:=C) hm hT n).1
 refine callsD_of_wpS (fn:=Tryz.f131) (c:=Bf) (by rw [hP]; exact Tryz.func131) Rn fun c₀ cs hu => ?_
 rw [show Tryz.f131.ntmps=16 from Tryz.ntmps131]
 have U:Bf=.seq (leftC Bf) Gr:=rfl
 rw [U]
 refine wpS_seq ?_
 have hw:∀z∈[x,y],wf c z:=fun z hz=>by
  simp only [fo,mo,rD] at hz
  rcases hz with rfl | rfl
  ·exact hx
  ·exact hy
 have J:=qp (c:=c) (args:=[x,y]) (n:=16) (by simp) hw
 rw [show (List.map (conc c) [x,y]).toArray = #[conc c x,conc c y] from rfl] at J
 generalize hA:({ tmps := #[conc c x,conc c y]++Array.replicate (16-(#[conc c x,conc c y]:Array Value).size) undef,defers:=[] }:Act)=A at J ⊢
 have hAd:A.defers=[]:=by rw [←hA]
 have Ln:=(J.put (d:=5) (v:=.mJ) (by decide) (by simp [wf])).put (d:=2) (v:=.mJ) (by decide) (by simp [wf])
 have Lh:=hS _ _ _ _ TX c _ w h Ln
 rw [show conc c .mJ=.nilIface from by simp [conc]] at Lh
 have aa6:recoverD (c₀::cs)=none:=by simp [recoverD,hu]
 have h5:(A.put (some 5) .nilIface).eval (.tmp 5)=.nilIface:=by simp [Act.eval,Act.put,Array.getD,J.size]
 obtain ⟨id,PL,Tr,cl,q1,q2,q3,q4,q5,q6,q7,q8,q9⟩:=YL
 rw [q1]
 refine wpS_region ?_
 rw [show List.range (#[PL,Tr]:Array Oper).size=[0,1] from rfl]
 simp only [wpOpsS,m6,nU,kF,Region.wanted,q2,q3,bQ]
 rw [JJ q6 q7 q8]
 simp only [aa6,q4]
 rw [run_assign q9,h5]
 simp only [Oper.upon,q5,Exit.thenS]
 refine wpS_of_wp (Code.wp_mono ?_ Lh)
 rintro e a' w' ⟨rfl,d1,c',r1,e2,p1⟩
 refine ⟨d1.trans hAd,.returning,by rw [←hu],.tuple #[],?_,⟨_,rfl⟩,rfl,c',r1,p1⟩
 exact (tc (s:=⟨I.env,I.az,I.h⟩) (vs:=[]) r1 e2 (fn:=Tryz.f131) rfl).1
theorem Ga (hP:C.P=Tryz.prog)(hm:C.P.follows .mixedOrders=true)(hT:hG C){n:Nat}{args:List V}{v:V}{iJ:H}(hr:toldParsed C n args σ=some (v,iJ))(h:Rel c σ w)(hw:∀x∈args,wf c x):
  fX C.P 101 args c w v iJ:=by
 have hS:=(Ge (C:=C) hm hT n).1
 unfold toldParsed at hr
 split at hr
 ·rename_i x
  split at hr
  ·rename_i I h₁
   cases Rp:Nat.blt 4 I.az with
   | false=>rw [Rp] at hr; cases hr
   | true =>
   rw [Rp,ag] at hr
   have hnt:=i_.1 Rp
   split at hr
   ·rename_i K_ P9
    split at hr
    ·rename_i abU TX
     split at hr
     ·rename_i abT X3 acv
      simp only [au,aP] at hr
      obtain ⟨rfl,rfl⟩:=hr
      unfold fX
      refine calls_of_wp_defers (fn:=Tryz.f101) (c:=xT) (by rw [hP]; exact Ir) Rm ?_
      have abV:=qp (c:=c) (args:=[x]) (n:=9) (by simp) hw
      have W_:xT=.seq Mo (.seq (leftC (cG xT)) (.seq Mp .ret)):=rfl
      rw [W_]
      refine wp_seq (Code.wp_mono ?_ (hS _ _ _ _ h₁ c _ w h abV))
      rintro e J GN ⟨rfl,acw,c₁,Vq,U,aaV⟩
      simp only [exOf,Exit.then]
      refine wp_seq ?_
      have oz:=U.val 2
      have O1:=U.val 3
      have Zj:J.defers=[]:=acw
      have hfn:wf c₁ (.fn (.func 131) [] [I.env.v 2,I.env.v 3]):=by
       simp only [wf,fW]
       exact ⟨aa,U.wo 2,U.wo 3,aa⟩
      have TC:=U.put hnt hfn
      have kg:conc c₁ (.fn (.func 131) [] [I.env.v 2,I.env.v 3])=.func (.func 131) #[] #[J.tmps.getD 2 undef,J.tmps.getD 3 undef]:=by
       rw [oz,O1]; simp [conc,concL]
      have Z2:=TC.val 4
      rw [show Env.v (I.env.set 4 (some (.fn (.func 131) [] [I.env.v 2,I.env.v 3]))) 4=.fn (.func 131) [] [I.env.v 2,I.env.v 3] from by simp [Env.v,a_]] at Z2
      obtain ⟨id,PL,Tr,cl,t1,t2,t3,t4,t5,t6,t7,t8,t9⟩:=aa5
      rw [t1]
      refine F_ t2 t3 ?_
      unfold Oper.wp
      rw [Is t6]
      simp only [Oper.upon,t4]
      rw [show (.func (.func 131) (Array.map J.eval #[]) (Array.map J.eval #[.tmp 2,.tmp 3]):Value)=conc c₁ (.fn (.func 131) [] [I.env.v 2,I.env.v 3]) from by rw [kg]; simp [Act.eval]]
      rw [O2 t7 t8 (Z2.trans kg)]
      simp only [Exit.then,t5,t9]
      have acy:fu c₁ (I.env.set 4 (some (.fn (.func 131) [] [I.env.v 2,I.env.v 3]))) I.az
        ({ J.put (some 4) (conc c₁ (.fn (.func 131) [] [I.env.v 2,I.env.v 3])) with defers:={ target:=.fn (.func 131) #[J.tmps.getD 2 undef,J.tmps.getD 3 undef],args := #[]++Array.map (J.put (some 4) (conc c₁ (.fn (.func 131) [] [I.env.v 2,I.env.v 3]))).eval #[] }::J.defers }:Act):=⟨TC.size,TC.val,TC.wo⟩
      refine wp_seq (Code.wp_mono ?_ (hS _ _ _ _ P9 c₁ _ GN Vq acy))
      rintro e aah aai ⟨rfl,QX,c₂,X2,acz,Wy⟩
      simp only [exOf,Exit.then]
      refine wp_ret ?_
      simp only [bodyPostD]
      rw [QX]
      simp only [put_defers,Zj]
      have hx:=cu Wy.ext _ (U.wo 2)
      have hy:=cu Wy.ext _ (U.wo 3)
      refine leaves_cons (f:=131) (args := #[conc c₂ (I.env.v 2),conc c₂ (I.env.v 3)]) (by simp) ?_ ?_
      ·rw [hx.1,hy.1,←oz,←O1]
       simp only [invoke]
       rw [It (fn:=Tryz.f131) (by rw [hP]; exact Tryz.func131) rfl (by decide)]
       simp
      ·refine (Ro hP hm hT TX X2 hx.2 hy.2).mono ?_
       rintro e u' ac0 ⟨⟨v,rfl⟩,rfl,acA,abW,abX⟩
       simp only [settle,Leaves]
       obtain ⟨q1,q2⟩:=tc (s:=⟨K_.env,K_.az,abU.h⟩) abW (acz.ext abX.ext) (fn:=Tryz.f101) acv
       refine ⟨_,q1,acA,by simp [conc,concL],?_,abW,(aaV.trans Wy).trans abX⟩
       simp only [wf,fW]
       exact ⟨q2 _ (by simp),q2 _ (by simp),aa⟩
     ·cases hr
    ·cases hr
   ·cases hr
  ·cases hr
 ·cases hr
end
end Go.Proofs.YtconhghphklfjaaGreat.Am
