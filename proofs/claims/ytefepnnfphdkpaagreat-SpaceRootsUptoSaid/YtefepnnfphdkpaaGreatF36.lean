/- SpaceRoots: a part of its proof; conditions: its statement's. -/
import Derived.Test.YtefepnnfphdkpaaGreatF11
import Derived.Test.YtefepnnfphdkpaaGreatProg
import Derived.KernelRfl
import Derived.Recover
set_option linter.defProp false
namespace Go.Proofs.YtefepnnfphdkpaaGreat.Am
open Go
def IW:=@Tryz.func173
noncomputable def xZ : Code:=(Tryz.f173.body).getD .skip
noncomputable def MW : Code:=leftC xZ
noncomputable def MX : Code:=leftC (cN (cN xZ))
noncomputable def Bi : Code:=(Tryz.f191.body).getD .skip
noncomputable def GN : Code:=cN Bi
noncomputable def toldParsed (C:cL)(n:Nat): List V→H→Option (V×H)
 | [x],h=>match ev C n MW ⟨bindArgs [x] 0 .lf,9,h⟩ with
  | some (.normal,I)=>cond (Nat.blt 4 I.ay) (match ev C n MX ⟨I.env.set 4 (some (.fn (.func 191) [] [I.env.v 2,I.env.v 3])),I.ay,I.h⟩ with
   | some (.normal,J)=>match ev C n GN ⟨((bindArgs [I.env.v 2,I.env.v 3] 0 .lf).set 5 (some .jz)).set 2 (some .jz),16,J.h⟩ with
    | some (.normal,XL)=>match mapO (resV C.P ⟨J.env,J.ay,XL.h⟩) Tryz.f173.results.toList with
     | some [abQ,Yo]=>some (.bj [abQ,Yo],XL.h)
     | _=>none
    | _=>none
   | _=>none) none
  | _=>none
 | _,_=>none
theorem Sh : Tryz.f173.body=some xZ:=rfl
theorem Si : Tryz.f191.body=some Bi:=rfl
theorem Gx {P:Program}{id:Nat}{I J:Oper}{Q:Exit→Act→World→Prop}{a:Act}{w:World}(aaS:I.guard=none)(aaT:J.guard=none)
 (h:I.wp P a w (fun a w=>J.wp P a w (Q .normal) Q) Q): (Code.region id #[I,J] false).wp P Q a w:=by
 refine wp_region ?_
 rw [show List.range (#[I,J]:Array Oper).size=[0,1] from rfl]
 simp only [wpOps,lN,mT,kK,Region.wanted,aaS,aaT,bO]
 refine .inl (Oper.wp_mono (fun a w h => ?_) h)
 exact .inl h
theorem IX {P:Program}{o:Oper}{ρ:Operand→Value}{f:Fn}{x y:Array Operand}(ho:o.op=.makeFunc f x y)(w:World):
  (execOp ρ o).run P w=.ok (.value (.func f (x.map ρ) (y.map ρ))) w:=by
 simp [execOp,ho,Instr.makeFunc]
theorem PU {P:Program}{o:Oper}{ρ:Operand→Value}{cl:Go.Call}{f:Operand}{g:Fn}{x y:Array Value}(ho:o.op=.defer cl)(I:cl.callee=.value f)(J:ρ f=.func g x y)(w:World):
  (execOp ρ o).run P w=.ok (.defer { target:=.fn g y,args:=x++cl.args.map ρ }) w:=by
 simp [execOp,ho,resolve,I,J,Deferred.ofValue]
theorem J4 {P:Program}{o:Oper}{ρ:Operand→Value}{cl:Go.Call}(ho:o.op=.call cl)(I:cl.callee=.builtin .recover)(J:cl.args = #[])(w:World): (execOp ρ o).run P w=.ok .recover w:=by
 simp [execOp,ho,resolve,I,J,invoke,builtin]
theorem run_assign {P:Program}{o:Oper}{ρ:Operand→Value}{x:Operand}(ho:o.op=.assign x)(w:World): (execOp ρ o).run P w=.ok (.value (ρ x)) w:=by
 simp [execOp,ho]
theorem IY {P : Program} {f : FuncId} {fn : Func} (I : P.funcs[f]? = some fn) (J : fn.body.isNone = false) (hn : (fn.name == "runtime.NumGoroutine") = false) (x : Array Value) (w : World) :
  (callFunc f x).run P w = .ok (.enter f x) w := by
 simp only [callFunc, Sem.run_bind, run_program, Result.andThen_ok, I, hn, dY, bN, J, Sem.run_pure]
theorem abc : ∃id I J cl,leftC (cN xZ)=.region id #[I,J] false∧I.guard=none∧J.guard=none∧I.dst=some 4∧J.dst=none∧I.op=.makeFunc (.func 191) #[] #[.tmp 2,.tmp 3] ∧
  J.op=.defer cl∧cl.callee=.value (.tmp 4)∧cl.args = #[]:=⟨_,_,_,_,rfl,rfl,rfl,rfl,rfl,rfl,rfl,rfl,rfl⟩
theorem Ze : ∃id I J cl,leftC Bi=.region id #[I,J] false∧I.guard=none∧J.guard=none∧I.dst=some 5∧J.dst=some 2∧I.op=.call cl∧cl.callee=.builtin .recover∧cl.args = #[]∧J.op=.assign (.tmp 5) :=
 ⟨_,_,_,_,rfl,rfl,rfl,rfl,rfl,rfl,rfl,rfl,rfl⟩
section
variable {C:cL} {c:Ctx} {σ:H} {w:World}
theorem Sj (hP:C.P=Tryz.prog)(hm:C.P.follows .mixedOrders=true)(hT:fy C){n:Nat}{x y:V}{I:St}(OE:ev C n GN ⟨((bindArgs [x,y] 0 .lf).set 5 (some .jz)).set 2 (some .jz),16,σ⟩=some (.normal,I))
 (h:Rel c σ w)(hx:wf c x)(hy:wf c y): CallsD C.P 191 #[conc c x,conc c y] .returning w fun e u' w'=>(∃v,e=.returned v)∧u'=.returning∧∃c',Rel c' I.h w'∧cV c w c' w':=by
 have hS:=(xk (C:=C) hm hT n).1
 refine callsD_of_wpS (fn:=Tryz.f191) (c:=Bi) (by rw [hP]; exact Tryz.func191) Si fun c₀ cs hu => ?_
 rw [show Tryz.f191.ntmps=16 from Tryz.ntmps191]
 have IZ:Bi=.seq (leftC Bi) GN:=rfl
 rw [IZ]
 refine wpS_seq ?_
 have hw:∀z∈[x,y],wf c z:=fun z hz=>by
  simp only [fq,lP,qT] at hz
  rcases hz with rfl | rfl
  ·exact hx
  ·exact hy
 have J:=kx (c:=c) (args:=[x,y]) (n:=16) (by simp) hw
 rw [show (List.map (conc c) [x,y]).toArray = #[conc c x,conc c y] from rfl] at J
 generalize hA:({ tmps := #[conc c x,conc c y]++Array.replicate (16-(#[conc c x,conc c y]:Array Value).size) undef,defers:=[] }:Act)=A at J ⊢
 have XA:A.defers=[]:=by rw [←hA]
 have xg:=(J.put (d:=5) (v:=.jz) (by decide) (by simp [wf])).put (d:=2) (v:=.jz) (by decide) (by simp [wf])
 have tT:=hS _ _ _ _ OE c _ w h xg
 rw [show conc c .jz=.nilIface from by simp [conc]] at tT
 have R7:recoverD (c₀::cs)=none:=by simp [recoverD,hu]
 have h5:(A.put (some 5) .nilIface).eval (.tmp 5)=.nilIface:=by simp [Act.eval,Act.put,Array.getD,J.size]
 obtain ⟨id,Nj,Lx,cl,q1,q2,q3,q4,q5,q6,q7,q8,q9⟩:=Ze
 rw [q1]
 refine wpS_region ?_
 rw [show List.range (#[Nj,Lx]:Array Oper).size=[0,1] from rfl]
 simp only [wpOpsS,lN,mT,kK,Region.wanted,q2,q3,bO]
 rw [J4 q6 q7 q8]
 simp only [R7,q4]
 rw [run_assign q9,h5]
 simp only [Oper.upon,q5,Exit.thenS]
 refine wpS_of_wp (Code.wp_mono ?_ tT)
 rintro e a' w' ⟨rfl,d1,c',r1,e2,p1⟩
 refine ⟨d1.trans XA,.returning,by rw [←hu],.tuple #[],?_,⟨_,rfl⟩,rfl,c',r1,p1⟩
 exact (pW (s:=⟨I.env,I.ay,I.h⟩) (vs:=[]) r1 e2 (fn:=Tryz.f191) rfl).1
theorem Gy (hP:C.P=Tryz.prog)(hm:C.P.follows .mixedOrders=true)(hT:fy C){n:Nat}{args:List V}{v:V}{eS:H}(hr:toldParsed C n args σ=some (v,eS))(h:Rel c σ w)(hw:∀x∈args,wf c x):
  gh C.P 173 args c w v eS:=by
 have hS:=(xk (C:=C) hm hT n).1
 unfold toldParsed at hr
 split at hr
 ·rename_i x
  split at hr
  ·rename_i I h₁
   cases Sk:Nat.blt 4 I.ay with
   | false=>rw [Sk] at hr; cases hr
   | true =>
   rw [Sk,ag] at hr
   have TN:=gJ.1 Sk
   split at hr
   ·rename_i Lu Ju
    split at hr
    ·rename_i XL OE
     split at hr
     ·rename_i abQ Yo ach
      simp only [aq,aF] at hr
      obtain ⟨rfl,rfl⟩:=hr
      unfold gh
      refine calls_of_wp_defers (fn:=Tryz.f173) (c:=xZ) (by rw [hP]; exact IW) Sh ?_
      have abR:=kx (c:=c) (args:=[x]) (n:=9) (by simp) hw
      have IZ:xZ=.seq MW (.seq (leftC (cN xZ)) (.seq MX .ret)):=rfl
      rw [IZ]
      refine wp_seq (Code.wp_mono ?_ (hS _ _ _ _ h₁ c _ w h abR))
      rintro e J tX ⟨rfl,sN,c₁,VU,xg,aaU⟩
      simp only [exOf,Exit.then]
      refine wp_seq ?_
      have um:=xg.val 2
      have PT:=xg.val 3
      have Zx:J.defers=[]:=sN
      have hfn:wf c₁ (.fn (.func 191) [] [I.env.v 2,I.env.v 3]):=by
       simp only [wf,fu]
       exact ⟨aa,xg.uS 2,xg.uS 3,aa⟩
      have Ua:=xg.put TN hfn
      have iG:conc c₁ (.fn (.func 191) [] [I.env.v 2,I.env.v 3])=.func (.func 191) #[] #[J.tmps.getD 2 undef,J.tmps.getD 3 undef]:=by
       rw [um,PT]; simp [conc,concL]
      have ev4:=Ua.val 4
      rw [show Env.v (I.env.set 4 (some (.fn (.func 191) [] [I.env.v 2,I.env.v 3]))) 4=.fn (.func 191) [] [I.env.v 2,I.env.v 3] from by simp [Env.v,aX]] at ev4
      obtain ⟨id,Nj,Lx,cl,t1,t2,t3,t4,t5,t6,t7,t8,t9⟩:=abc
      rw [t1]
      refine Gx t2 t3 ?_
      unfold Oper.wp
      rw [IX t6]
      simp only [Oper.upon,t4]
      rw [show (.func (.func 191) (Array.map J.eval #[]) (Array.map J.eval #[.tmp 2,.tmp 3]):Value)=conc c₁ (.fn (.func 191) [] [I.env.v 2,I.env.v 3]) from by rw [iG]; simp [Act.eval]]
      rw [PU t7 t8 (ev4.trans iG)]
      simp only [Exit.then,t5,t9]
      have aci:dQ c₁ (I.env.set 4 (some (.fn (.func 191) [] [I.env.v 2,I.env.v 3]))) I.ay
        ({ J.put (some 4) (conc c₁ (.fn (.func 191) [] [I.env.v 2,I.env.v 3])) with defers:={ target:=.fn (.func 191) #[J.tmps.getD 2 undef,J.tmps.getD 3 undef],args := #[]++Array.map (J.put (some 4) (conc c₁ (.fn (.func 191) [] [I.env.v 2,I.env.v 3]))).eval #[] }::J.defers }:Act):=⟨Ua.size,Ua.val,Ua.uS⟩
      refine wp_seq (Code.wp_mono ?_ (hS _ _ _ _ Ju c₁ _ tX VU aci))
      rintro e Yk Yl ⟨rfl,B9,c₂,Ym,acj,Xc⟩
      simp only [exOf,Exit.then]
      refine wp_ret ?_
      simp only [bodyPostD]
      rw [B9]
      simp only [put_defers,Zx]
      have hx:=cg Xc.ext _ (xg.uS 2)
      have hy:=cg Xc.ext _ (xg.uS 3)
      refine leaves_cons (f:=191) (args := #[conc c₂ (I.env.v 2),conc c₂ (I.env.v 3)]) (by simp) ?_ ?_
      ·rw [hx.1,hy.1,←um,←PT]
       simp only [invoke]
       rw [IY (fn:=Tryz.f191) (by rw [hP]; exact Tryz.func191) rfl (by decide)]
       simp
      ·refine (Sj hP hm hT OE Ym hx.2 hy.2).mono ?_
       rintro e u' acE ⟨⟨v,rfl⟩,rfl,ack,abS,abT⟩
       simp only [settle,Leaves]
       obtain ⟨q1,q2⟩:=pW (s:=⟨Lu.env,Lu.ay,XL.h⟩) abS (acj.ext abT.ext) (fn:=Tryz.f173) ach
       refine ⟨_,q1,ack,by simp [conc,concL],?_,abS,(aaU.trans Xc).trans abT⟩
       simp only [wf,fu]
       exact ⟨q2 _ (by simp),q2 _ (by simp),aa⟩
     ·cases hr
    ·cases hr
   ·cases hr
  ·cases hr
 ·cases hr
end
end Go.Proofs.YtefepnnfphdkpaaGreat.Am
