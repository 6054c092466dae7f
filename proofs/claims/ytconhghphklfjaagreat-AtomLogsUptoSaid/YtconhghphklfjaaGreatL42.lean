/- After a crash the log has the records of the groups that are there and no others, with their numbers and data; the conditions are those of the given statement, for arguments that a machine can hold. Part 42 of 54. -/
import Derived.Test.YtconhghphklfjaaGreatL13
import Derived.Test.YtconhghphklfjaaGreatProg
import Derived.KernelRfl
import Derived.Recover
namespace Go.Proofs.YtconhghphklfjaaGreat.Am
open Go
noncomputable def qw : Code:=(Tryz.f101.body).getD .skip
noncomputable def Ek : Code:=leftC qw
noncomputable def El : Code:=leftC (bH (bH qw))
noncomputable def s_ : Code:=(Tryz.f131.body).getD .skip
noncomputable def yS : Code:=bH s_
noncomputable def toldParsed (C:cf)(n:Nat): List V→H→Option (V×H)
 | [x],h=>match Cz C n Ek ⟨bindArgs [x] 0 .lf,9,h⟩ with
  | some (.normal,I)=>cond (Nat.blt 4 I.ak) (match Cz C n El ⟨I.env.set 4 (some (.fn (.func 131) [] [I.env.v 2,I.env.v 3])),I.ak,I.h⟩ with
   | some (.normal,J)=>match Cz C n yS ⟨((bindArgs [I.env.v 2,I.env.v 3] 0 .lf).set 5 (some .iJ)).set 2 (some .iJ),16,J.h⟩ with
    | some (.normal,U)=>match mapO (resV C.P ⟨J.env,J.ak,U.h⟩) Tryz.f101.results.toList with
     | some [Ua,OG]=>some (.aW [Ua,OG],U.h)
     | _=>none
    | _=>none
   | _=>none) none
  | _=>none
 | _,_=>none
theorem I6 : Tryz.f101.body=some qw:=rfl
theorem I7 : Tryz.f131.body=some s_:=rfl
theorem yD {P:Program}{id:Nat}{I J:Oper}{Q:Exit→Act→World→Prop}{a:Act}{w:World}(U:I.guard=none)(RY:J.guard=none)
 (h:I.wp P a w (fun a w=>J.wp P a w (Q .normal) Q) Q): (Code.region id #[I,J] false).wp P Q a w:=by
 refine wp_region ?_
 rw [show List.range (#[I,J]:Array Oper).size=[0,1] from rfl]
 simp only [wpOps,List.getElem?_toArray,List.getElem?_cons_zero,List.getElem?_cons_succ,Region.wanted,U,RY,if_true]
 refine .inl (Oper.wp_mono (fun a w h => ?_) h)
 exact .inl h
theorem AZ {P:Program}{o:Oper}{ρ:Operand→Value}{f:Fn}{x y:Array Operand}(ho:o.op=.makeFunc f x y)(w:World):
  (execOp ρ o).run P w=.ok (.value (.func f (x.map ρ) (y.map ρ))) w:=by
 simp [execOp,ho,Instr.makeFunc]
theorem GS {P:Program}{o:Oper}{ρ:Operand→Value}{cl:Call}{f:Operand}{g:Fn}{x y:Array Value}(ho:o.op=.defer cl)(I:cl.callee=.value f)(J:ρ f=.func g x y)(w:World):
  (execOp ρ o).run P w=.ok (.defer { target:=.fn g y,args:=x++cl.args.map ρ }) w:=by
 simp [execOp,ho,resolve,I,J,Deferred.ofValue]
theorem B8 {P:Program}{o:Oper}{ρ:Operand→Value}{cl:Call}(ho:o.op=.call cl)(I:cl.callee=.builtin .recover)(J:cl.args = #[])(w:World): (execOp ρ o).run P w=.ok .recover w:=by
 simp [execOp,ho,resolve,I,J,invoke,builtin]
theorem run_assign {P:Program}{o:Oper}{ρ:Operand→Value}{x:Operand}(ho:o.op=.assign x)(w:World): (execOp ρ o).run P w=.ok (.value (ρ x)) w:=by
 simp [execOp,ho]
theorem A0 {P : Program} {f : FuncId} {fn : Func} (I : P.funcs[f]? = some fn) (J : fn.body.isNone = false) (U : (fn.name == "runtime.NumGoroutine") = false) (x : Array Value) (w : World) :
  (callFunc f x).run P w = .ok (.enter f x) w := by
 simp only [callFunc, Sem.run_bind, run_program, Result.andThen_ok, I, U, Bool.false_eq_true, if_false, J, Sem.run_pure]
theorem R7 : ∃id I J cl,leftC (bH qw)=.region id #[I,J] false∧I.guard=none∧J.guard=none∧I.dst=some 4∧J.dst=none∧I.op=.makeFunc (.func 131) #[] #[.tmp 2,.tmp 3] ∧
  J.op=.defer cl∧cl.callee=.value (.tmp 4)∧cl.args = #[]:=⟨_,_,_,_,rfl,rfl,rfl,rfl,rfl,rfl,rfl,rfl,rfl⟩
theorem Pp : ∃id I J cl,leftC s_=.region id #[I,J] false∧I.guard=none∧J.guard=none∧I.dst=some 5∧J.dst=some 2∧I.op=.call cl∧cl.callee=.builtin .recover∧cl.args = #[]∧J.op=.assign (.tmp 5) :=
 ⟨_,_,_,_,rfl,rfl,rfl,rfl,rfl,rfl,rfl,rfl,rfl⟩
section
variable {C:cf} {c:Ctx} {σ:H} {w:World}
theorem I8 (hP:C.P=Tryz.prog)(hm:C.P.follows .mixedOrders=true)(hT:eM C){n:Nat}{x y:V}{I:St}(Le:ev C n yS ⟨((bindArgs [x,y] 0 .lf).set 5 (some .iJ)).set 2 (some .iJ),16,σ⟩=some (.normal,I))
 (h:Rel c σ w)(hx:wf c x)(hy:wf c y): CallsD C.P 131 #[conc c x,conc c y] .returning w fun e u' w'=>(∃v,e=.returned v)∧u'=.returning∧∃c',Rel c' I.h w'∧cm c w c' w':=by
 have hS:=(yH (C:=C) hm hT n).1
 refine callsD_of_wpS (fn:=Tryz.f131) (c:=s_) (by rw [hP]; exact Tryz.func131) I7 fun c₀ cs hu => ?_
 rw [show Tryz.f131.ntmps=16 from Tryz.ntmps131]
 have U:s_=.seq (leftC s_) yS:=rfl
 rw [U]
 refine wpS_seq ?_
 have hw:∀z∈[x,y],wf c z:=fun z hz=>by
  simp only [List.mem_cons,List.not_mem_nil,or_false] at hz
  rcases hz with rfl | rfl
  ·exact hx
  ·exact hy
 have J:=kU (c:=c) (args:=[x,y]) (n:=16) (by simp) hw
 rw [show (List.map (conc c) [x,y]).toArray = #[conc c x,conc c y] from rfl] at J
 generalize hA:({ tmps := #[conc c x,conc c y]++Array.replicate (16-(#[conc c x,conc c y]:Array Value).size) undef,defers:=[] }:Act)=A at J ⊢
 have Ub:A.defers=[]:=by rw [←hA]
 have Dr:=(J.put (d:=5) (v:=.iJ) (by decide) (by simp [wf])).put (d:=2) (v:=.iJ) (by decide) (by simp [wf])
 have Dj:=hS _ _ _ _ Le c _ w h Dr
 rw [show conc c .iJ=.nilIface from by simp [conc]] at Dj
 have R8:recoverD (c₀::cs)=none:=by simp [recoverD,hu]
 have h5:(A.put (some 5) .nilIface).eval (.tmp 5)=.nilIface:=by simp [Act.eval,Act.put,Array.getD,J.size]
 obtain ⟨id,KG,Mg,cl,q1,q2,q3,q4,q5,q6,q7,q8,q9⟩:=Pp
 rw [q1]
 refine wpS_region ?_
 rw [show List.range (#[KG,Mg]:Array Oper).size=[0,1] from rfl]
 simp only [wpOpsS,List.getElem?_toArray,List.getElem?_cons_zero,List.getElem?_cons_succ,Region.wanted,q2,q3,if_true]
 rw [B8 q6 q7 q8]
 simp only [R8,q4]
 rw [run_assign q9,h5]
 simp only [Oper.upon,q5,Exit.thenS]
 refine wpS_of_wp (Code.wp_mono ?_ Dj)
 rintro e a' w' ⟨rfl,d1,c',r1,e2,p1⟩
 refine ⟨d1.trans Ub,.returning,by rw [←hu],.tuple #[],?_,⟨_,rfl⟩,rfl,c',r1,p1⟩
 exact (mU (s:=⟨I.env,I.ak,I.h⟩) (vs:=[]) r1 e2 (fn:=Tryz.f131) rfl).1
theorem yE (hP:C.P=Tryz.prog)(hm:C.P.follows .mixedOrders=true)(hT:eM C){n:Nat}{args:List V}{v:V}{fg:H}(hr:toldParsed C n args σ=some (v,fg))(h:Rel c σ w)(hw:∀x∈args,wf c x):
  ei C.P 101 args c w v fg:=by
 have hS:=(yH (C:=C) hm hT n).1
 unfold toldParsed at hr
 rw [vc] at hr
 split at hr
 ·rename_i x
  split at hr
  ·rename_i I h₁
   cases I9:Nat.blt 4 I.ak with
   | false=>rw [I9] at hr; cases hr
   | true =>
   rw [I9,cond_true] at hr
   have Uc:=fA.1 I9
   split at hr
   ·rename_i Dc HP
    split at hr
    ·rename_i Ud Le
     split at hr
     ·rename_i Ua OG Vz
      simp only [Option.some.injEq,Prod.mk.injEq] at hr
      obtain ⟨rfl,rfl⟩:=hr
      unfold ei
      refine calls_of_wp_defers (fn:=Tryz.f101) (c:=qw) (by rw [hP]; exact Tryz.func101) I6 ?_
      have Ue:=kU (c:=c) (args:=[x]) (n:=9) (by simp) hw
      have N0:qw=.seq Ek (.seq (leftC (bH qw)) (.seq El .ret)):=rfl
      rw [N0]
      refine wp_seq (Code.wp_mono ?_ (hS _ _ _ _ h₁ c _ w h Ue))
      rintro e J wA ⟨rfl,VA,c₁,Mu,U,RZ⟩
      simp only [exOf,Exit.then]
      refine wp_seq ?_
      have vA:=U.val 2
      have NY:=U.val 3
      have PV:J.defers=[]:=VA
      have Uf:wf c₁ (.fn (.func 131) [] [I.env.v 2,I.env.v 3]):=by
       simp only [wf,dH]
       exact ⟨trivial,U.oW 2,U.oW 3,trivial⟩
      have KR:=U.put Uc Uf
      have nW:conc c₁ (.fn (.func 131) [] [I.env.v 2,I.env.v 3])=.func (.func 131) #[] #[J.tmps.getD 2 undef,J.tmps.getD 3 undef]:=by
       rw [vA,NY]; simp [conc,concL]
      have QV:=KR.val 4
      rw [show Env.v (I.env.set 4 (some (.fn (.func 131) [] [I.env.v 2,I.env.v 3]))) 4=.fn (.func 131) [] [I.env.v 2,I.env.v 3] from by simp [Env.v,aC]] at QV
      obtain ⟨id,KG,Mg,cl,t1,t2,t3,t4,t5,t6,t7,t8,t9⟩:=R7
      rw [t1]
      refine yD t2 t3 ?_
      unfold Oper.wp
      rw [AZ t6]
      simp only [Oper.upon,t4]
      rw [show (.func (.func 131) (Array.map J.eval #[]) (Array.map J.eval #[.tmp 2,.tmp 3]):Value)=conc c₁ (.fn (.func 131) [] [I.env.v 2,I.env.v 3]) from by rw [nW]; simp [Act.eval]]
      rw [GS t7 t8 (QV.trans nW)]
      simp only [Exit.then,t5,t9]
      have VB:cW c₁ (I.env.set 4 (some (.fn (.func 131) [] [I.env.v 2,I.env.v 3]))) I.ak
        ({ J.put (some 4) (conc c₁ (.fn (.func 131) [] [I.env.v 2,I.env.v 3])) with defers:={ target:=.fn (.func 131) #[J.tmps.getD 2 undef,J.tmps.getD 3 undef],args := #[]++Array.map (J.put (some 4) (conc c₁ (.fn (.func 131) [] [I.env.v 2,I.env.v 3]))).eval #[] }::J.defers }:Act):=⟨KR.size,KR.val,KR.oW⟩
      refine wp_seq (Code.wp_mono ?_ (hS _ _ _ _ HP c₁ _ wA Mu VB))
      rintro e Rn Ro ⟨rfl,IM,c₂,OF,VC,NG⟩
      simp only [exOf,Exit.then]
      refine wp_ret ?_
      simp only [bodyPostD]
      rw [IM]
      simp only [put_defers,PV]
      have hx:=bG NG.ext _ (U.oW 2)
      have hy:=bG NG.ext _ (U.oW 3)
      refine leaves_cons (f:=131) (args := #[conc c₂ (I.env.v 2),conc c₂ (I.env.v 3)]) (by simp) ?_ ?_
      ·rw [hx.1,hy.1,←vA,←NY]
       simp only [invoke]
       rw [A0 (fn:=Tryz.f131) (by rw [hP]; exact Tryz.func131) rfl (by decide)]
       simp
      ·refine (I8 hP hm hT Le OF hx.2 hy.2).mono ?_
       rintro e u' WL ⟨⟨v,rfl⟩,rfl,VD,Ug,Uh⟩
       simp only [settle,Leaves]
       obtain ⟨q1,q2⟩:=mU (s:=⟨Dc.env,Dc.ak,Ud.h⟩) Ug (VC.ext Uh.ext) (fn:=Tryz.f101) Vz
       refine ⟨_,q1,VD,by simp [conc,concL],?_,Ug,(RZ.trans NG).trans Uh⟩
       simp only [wf,dH]
       exact ⟨q2 _ (by simp),q2 _ (by simp),trivial⟩
     ·cases hr
    ·cases hr
   ·cases hr
  ·cases hr
 ·cases hr
end
end Go.Proofs.YtconhghphklfjaaGreat.Am
