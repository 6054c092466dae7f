/- After a crash the log has the records of the groups that are there and no others, with their numbers and data; the conditions are those of the given statement, for arguments that a machine can hold. Part 16 of 54. -/
import Derived.Test.YtconhghphklfjaaGreatL14
import Derived.Test.YtconhghphklfjaaGreatL15
namespace Go.Proofs.YtconhghphklfjaaGreat.Am
open Go
def iC (h:H): Prop:=∀id o,T.get h.tr id=some o→id<h.next
theorem iC.new {h:H}(hw:iC h)(o:Obj): iC (h.new o):=by
 intro id q I
 rw [eZ] at I
 show id<h.next+1
 split at I
 ·omega
 ·exact Nat.lt_succ_of_lt (hw id q I)
theorem iC.put {h:H}(hw:iC h){id:Nat}(J:id<h.next)(o:Option Obj): iC (h.put id o):=by
 intro j q I
 rw [bC] at I
 show j<h.next
 split at I
 ·omega
 ·exact hw j q I
structure cJ (k:Nat)(S:List Nat)(h h':H): Prop where
 wf:iC h'
 le:h.next≤h'.next
 bd:h'.next≤h.next+k
 get:∀id,id<h.next→id∉S→T.get h'.tr id=T.get h.tr id
theorem cJ.refl {h:H}(hw:iC h)(S:List Nat): cJ 0 S h h:=⟨hw,Nat.le_refl _,Nat.le_refl _,fun _ _ _=>rfl⟩
theorem cJ.trans {k k':Nat}{S S':List Nat}{h h' I:H}(a:cJ k S h h')(b:cJ k' S' h' I)(hs:∀i∈S',i∈S∨h.next≤i): cJ (k+k') S h I:=by
 refine ⟨b.wf,Nat.le_trans a.le b.le,by have:=a.bd; have:=b.bd; omega,fun id J U => ?_⟩
 rw [b.get id (Nat.lt_of_lt_of_le J a.le) (fun hm => ?_),a.get id J U]
 rcases hs id hm with h1 | h1
 ·exact U h1
 ·omega
theorem cJ.mono {k k':Nat}{S S':List Nat}{h h':H}(a:cJ k S h h')(J:k≤k')(hs:∀i∈S,i∈S'): cJ k' S' h h' :=
 ⟨a.wf,a.le,Nat.le_trans a.bd (Nat.add_le_add_left J _),fun id I U=>a.get id I (fun hm=>U (hs id hm))⟩
theorem cJ.row {k:Nat}{S:List Nat}{h h':H}(a:cJ k S h h')(hw:iC h){id:Nat}{o:Obj}(I:T.get h.tr id=some o)(J:id∉S): T.get h'.tr id=some o:=by
 rw [a.get id (hw id o I) J]; exact I
theorem cJ.sE {h:H}(hw:iC h)(o:Obj): cJ 1 [] h (h.new o) :=
 ⟨hw.new o,Nat.le_succ _,Nat.le_refl _,fun id I _=>by rw [eZ,if_neg (by omega)]⟩
theorem cJ.JV {h:H}(hw:iC h){id:Nat}(I:id<h.next)(o:Option Obj): cJ 0 [id] h (h.put id o) :=
 ⟨hw.put I o,Nat.le_refl _,Nat.le_refl _,fun j _ J=>by rw [bC,if_neg (fun e=>J (by simp [e]))]⟩
theorem cu (l:List Nat): (ofBytes l).length=l.length:=by simp [ofBytes]
theorem mc (l m:List Nat): ofBytes (l++m)=ofBytes l++ofBytes m:=by simp [ofBytes]
def View (h:H)(v:V)(l:List Nat): Prop:=(∀b∈l,b<256)∧(((v=.aH∨∃a,v=.sle a)∧l=[]) ∨
 ∃id off cap n cs st,v=.sl id off l.length cap∧T.get h.tr id=some (.cells n cs st)∧cs.length=n∧off+l.length≤n∧(cs.drop off).take l.length=ofBytes l ∧
  (match cap with | .exact c=>l.length≤c | .rest e _=>e=1))
def f_ (h:H)(v:V)(l:List Nat): Prop:=(∀b∈l,b<256)∧((v=.aH∧l=[]) ∨
 (∃id cs c,v=.sl id 0 l.length (.exact c)∧T.get h.tr id=some (.cells c (ofBytes l++cs) false)∧l.length+cs.length=c) ∨
 (∃id,v=.sl id 0 l.length (.rest 1 0)∧T.get h.tr id=some (.cells l.length (ofBytes l) false)∧1≤l.length))
def rowIds : V→List Nat
 | .sl id _ _ _=>[id]
 | _=>[]
theorem f_.view {h:H}{v:V}{l:List Nat}(I:f_ h v l): View h v l:=by
 obtain ⟨U,I⟩:=I
 refine ⟨U,?_⟩
 rcases I with I | ⟨id,cs,c,rfl,J,hc⟩ | ⟨id,rfl,J,h1⟩
 ·exact .inl ⟨.inl I.1,I.2⟩
 ·refine .inr ⟨id,0,.exact c,c,_,false,rfl,J,by simp [cu,hc],by omega,?_,by show l.length≤c; omega⟩
  rw [List.drop_zero,List.take_left' (cu l)]
 ·refine .inr ⟨id,0,.rest 1 0,_,_,false,rfl,J,cu l,by omega,?_,rfl⟩
  rw [List.drop_zero]
  exact List.take_of_length_le (by rw [cu]; exact Nat.le_refl _)
theorem View.bX {k:Nat}{S:List Nat}{h h':H}{v:V}{l:List Nat}(I:View h v l)(hw:iC h)(J:cJ k S h h')(U:∀i∈rowIds v,i∉S): View h' v l:=by
 obtain ⟨hl,I⟩:=I
 refine ⟨hl,?_⟩
 rcases I with I | ⟨id,off,cap,n,cs,st,rfl,hg,h1,h2,h3,h4⟩
 ·exact .inl I
 ·exact .inr ⟨id,off,cap,n,cs,st,rfl,J.row hw hg (U id (by simp [rowIds])),h1,h2,h3,h4⟩
theorem f_.bX {k:Nat}{S:List Nat}{h h':H}{v:V}{l:List Nat}(I:f_ h v l)(hw:iC h)(U:cJ k S h h')(hn:∀i∈rowIds v,i∉S): f_ h' v l:=by
 obtain ⟨hl,I⟩:=I
 refine ⟨hl,?_⟩
 rcases I with I | ⟨id,cs,c,rfl,J,hc⟩ | ⟨id,rfl,J,h1⟩
 ·exact .inl I
 ·exact .inr (.inl ⟨id,cs,c,rfl,U.row hw J (hn id (by simp [rowIds])),hc⟩)
 ·exact .inr (.inr ⟨id,rfl,U.row hw J (hn id (by simp [rowIds])),h1⟩)
theorem View.len {h:H}{v:V}{l:List Nat}(I:View h v l): lenV Tryz.prog h 32 v=some (.int .i64 l.length):=by
 obtain ⟨_,I⟩:=I
 rcases I with ⟨rfl | ⟨J,rfl⟩,rfl⟩ | ⟨id,off,cap,n,cs,st,rfl,_⟩ <;> simp [lenV,Tryz.underlying32]
theorem View.rdN {h:H}{id off len:Nat}{cap:Cap}{l:List Nat}(J:View h (.sl id off len cap) l): len=l.length∧rdN h id off len=some (ofBytes l):=by
 obtain ⟨_,J⟩:=J
 rcases J with ⟨I,_⟩ | ⟨tK,off',U,n,cs,st,I,hg,h1,h2,h3,h4⟩
 ·rcases I with I | ⟨_,I⟩ <;> cases I
 ·injection I with e1 e2 e3 e4
  subst e1; subst e2; subst e3
  refine ⟨rfl,?_⟩
  unfold Am.rdN
  simp only [hg]
  rw [ay.2 h2,cond_true]
  cases hc:(Nat.beq off 0&&Nat.beq l.length n) with
  | true =>
   simp only [Bool.and_eq_true,beq_iff] at hc
   obtain ⟨rfl,hn⟩:=hc
   rw [cond_true,←h3,List.drop_zero,List.take_of_length_le (by omega)]
  | false=>rw [cond_false,h3]
theorem o5 : ∃i,Tryz.prog.info? 5=some i∧i.size=1∧i.bytes=1:=by
 refine ⟨_,(show Tryz.prog.info? 5=some ((Tryz.prog.info? 5).getD default) by kernel_rfl),by kernel_rfl,by kernel_rfl⟩
theorem lQ : zeroT Tryz.prog 5=some (.int .u8 0):=by kernel_rfl
theorem vj {h:H}{x:V}{m:List Nat}(J:View h x m): srcV h 1 x=some (ofBytes m,m.length):=by
 obtain ⟨U,I⟩:=J
 rcases I with ⟨rfl | ⟨ea,rfl⟩,rfl⟩ | ⟨id,off,cap,n,cs,st,rfl,hg,h1,h2,h3,h4⟩
 ·rfl
 ·rfl
 ·simp only [srcV,Nat.mul_one]
  rw [(View.rdN (l:=m) ⟨U,.inr ⟨id,off,cap,n,cs,st,rfl,hg,h1,h2,h3,h4⟩⟩).2]
  rfl
theorem rC {h:H}{s x:V}{l m:List Nat}(hw:iC h)(hs:f_ h s l)(hx:View h x m)(ee:l.length+m.length≤140737488355328):
  ∃v' h',appendV Tryz.prog h #[32,32] s x=some (v',h')∧f_ h' v' (l++m)∧cJ 1 (rowIds s) h h'∧(∀i∈rowIds v',i∈rowIds s∨h.next≤i):=by
 obtain ⟨i,hi,i1,i2⟩:=o5
 have J:∀b∈l++m,b<256:=fun b hb=>by
  rcases List.mem_append.1 hb with hb | hb
  ·exact hs.1 b hb
  ·exact hx.1 b hb
 have M_:iR (l.length+m.length) 1=true:=pT.2 ⟨ee,by omega⟩
 unfold appendV
 simp only [Tryz.underlying32,hi,lQ,i1,i2,V.cells,List.length_cons,List.length_nil,vj hx]
 rw [show (Nat.ble 1 1&&Nat.ble 1 4096&&Nat.beq (0+1) 1)=true from rfl,cond_true]
 cases hm:Nat.beq m.length 0 with
 | true =>
  have xB:m=[]:=List.eq_nil_of_length_eq_zero (beq_iff.1 hm)
  subst xB
  rw [cond_true,List.append_nil]
  have I:=hs
  obtain ⟨_,I⟩:=I
  rcases I with ⟨rfl,rfl⟩ | ⟨id,cs,c,rfl,hg,hc⟩ | ⟨id,rfl,hg,h1⟩
  ·exact ⟨_,_,rfl,hs,(cJ.refl hw _).mono (Nat.zero_le _) (fun _ h=>h),fun i hi=>.inl hi⟩
  ·exact ⟨_,_,rfl,hs,(cJ.refl hw _).mono (Nat.zero_le _) (fun _ h=>h),fun i hi=>.inl hi⟩
  ·exact ⟨_,_,rfl,hs,(cJ.refl hw _).mono (Nat.zero_le _) (fun _ h=>h),fun i hi=>.inl hi⟩
 | false =>
  have xB:1≤m.length:=by
   rcases Nat.eq_zero_or_pos m.length with h0 | h0
   ·rw [eH h0] at hm; cases hm
   ·exact h0
  rw [cond_false]
  have U:∀(σ:H) (old:List Nat),iC σ→1≤(old++m).length→(∀b∈old++m,b<256)→f_ (jC σ 1 (ofBytes old) (ofBytes m) (old.length+m.length)).2 (jC σ 1 (ofBytes old) (ofBytes m) (old.length+m.length)).1 (old++m):=by
   intro σ old _ h1 h2
   refine ⟨h2,.inr (.inr ⟨σ.next,?_,?_,h1⟩)⟩
   ·simp only [jC,List.length_append]
   ·simp only [jC]
    rw [eZ,if_pos rfl,Nat.mul_one,List.length_append,mc]
  have I:=hs
  obtain ⟨_,I⟩:=I
  rcases I with ⟨rfl,rfl⟩ | ⟨id,cs,c,rfl,hg,hc⟩ | ⟨id,rfl,hg,h1⟩
  ·simp only
   have RC:iR m.length 1=true:=by simpa using M_
   rw [RC,cond_true]
   have:=U h [] hw (by simpa using xB) (by simpa using hx.1)
   simp only [List.length_nil,Nat.zero_add,List.nil_append] at this
   exact ⟨_,_,rfl,by rw [List.nil_append]; exact this,(cJ.sE hw _).mono (Nat.le_refl _) (fun i hi=>by simp at hi),fun i hi=>.inr (by simp [rowIds] at hi; omega)⟩
  ·simp only [Nat.mul_one,Nat.zero_add]
   have hv:=f_.view hs
   cases hq:Nat.ble (l.length+m.length) c with
   | true =>
    have nI:=ay.1 hq
    rw [cond_true]
    unfold wrN
    simp only [hg,cu]
    rw [hq,cond_true]
    simp only
    have uj:(cond (Nat.beq l.length 0&&Nat.beq m.length c) (ofBytes m) ((ofBytes l++cs).take l.length++(ofBytes m++(ofBytes l++cs).drop (l.length+m.length))))=ofBytes (l++m)++cs.drop m.length:=by
     have e1:(ofBytes l++cs).take l.length=ofBytes l:=List.take_left' (cu l)
     have e2:(ofBytes l++cs).drop (l.length+m.length)=cs.drop m.length:=by
      rw [List.drop_append,cu,show l.length+m.length-l.length=m.length from by omega,List.drop_eq_nil_of_le (by rw [cu]; omega),List.nil_append]
     cases hz:(Nat.beq l.length 0&&Nat.beq m.length c) with
     | true =>
      simp only [Bool.and_eq_true,beq_iff] at hz
      have xo:l=[]:=List.eq_nil_of_length_eq_zero hz.1
      subst xo
      have kx:cs.drop m.length=[]:=List.drop_eq_nil_of_le (by simp at hc; omega)
      simp [kx]
     | false=>rw [cond_false,e1,e2,mc,List.append_assoc]
    rw [uj]
    refine ⟨_,_,rfl,⟨J,.inr (.inl ⟨id,cs.drop m.length,c,by simp,?_,by simp; omega⟩)⟩,(cJ.JV hw (hw id _ hg) _).mono (Nat.zero_le _) (fun i hi=>by simpa [rowIds] using hi),fun i hi=>.inl (by simpa [rowIds] using hi)⟩
    rw [bC,if_pos rfl]
   | false =>
    rw [cond_false,M_,cond_true,hv.rdN.2]
    simp only
    exact ⟨_,_,rfl,U h l hw (by simp; omega) J,(cJ.sE hw _).mono (Nat.le_refl _) (fun i hi=>by simp at hi),fun i hi=>.inr (by simp [rowIds] at hi; omega)⟩
  ·simp only [Nat.beq_refl,cond_true,Nat.mul_one,Nat.zero_add]
   have hv:=f_.view hs
   have uc:gY h id 0 1=l.length:=by simp [gY,hg]
   have hf:Nat.ble (l.length+m.length) l.length=false:=by
    cases hq:Nat.ble (l.length+m.length) l.length with
    | true=>have:=ay.1 hq; omega
    | false=>rfl
   rw [uc,hf,cond_false,M_,show Nat.ble 2 (l.length+m.length)=true from ay.2 (by omega),Bool.and_self,cond_true,hv.rdN.2,hg]
   simp only
   have lH:iC (h.put id none):=hw.put (hw id _ hg) _
   refine ⟨_,_,rfl,U (h.put id none) l lH (by simp; omega) J,?_,fun i hi=>.inr (by simp [rowIds,H.put] at hi; omega)⟩
   refine ((cJ.JV hw (hw id _ hg) none).trans (S':=[]) (cJ.sE lH _) (fun i hi=>by simp at hi)).mono (Nat.le_refl _) (fun i hi=>by simpa [rowIds] using hi)
end Go.Proofs.YtconhghphklfjaaGreat.Am
namespace Go.Proofs.YtconhghphklfjaaGreat.Am
open Go
section
variable {P:Program} {E:List (Nat×V)} {h h₁:H} {x y a b:Operand} {v u r:V}
theorem aV (I:lookO E x=some v): opE P E h (.move x)=some (v,h):=by simp only [opE,gn,I]
theorem c_ (I:lookO E x=some v): opE P E h (.assign x)=some (v,h):=by simp only [opE,gn,I]
theorem sF (I:lookO E x=some (.bool true))(J:lookO E a=some v): opE P E h (.pick x a b)=some (v,h):=by simp only [opE,gn,I,cond_true,J]
theorem kA (I:lookO E x=some (.bool false))(J:lookO E b=some v): opE P E h (.pick x a b)=some (v,h):=by simp only [opE,gn,I,cond_false,J]
theorem kX {i o:Nat}(I:lookO E x=some (.ptr i o)): opE P E h (.nilCheck x)=some (.ptr i o,h):=by simp only [opE,gn,I]
theorem iO {t i:Nat}(I:lookO E x=some v)(J:fieldAddrV P t v i=some r): opE P E h (.fieldAddr t x i)=some (r,h):=by simp only [opE,gn,I,J,aB]
theorem aI {t:TypeId}(I:lookO E x=some v)(J:loadV P h t v=some r): opE P E h (.load t x)=some (r,h):=by simp only [opE,gn,I,J,aB]
theorem sG {t:TypeId}(I:lookO E x=some v)(J:lookO E y=some u)(U:fl P h t v u=some h₁): opE P E h (.store t x y)=some (bt,h₁):=by simp only [opE,ou,I,J,U,jf]
theorem af {op:BinOp}{t t':TypeId}(I:lookO E x=some v)(J:lookO E y=some u)(U:binV P h op t x y v u=some r): opE P E h (.binOp op t x y t')=some (r,h):=by simp only [opE,ou,I,J,U,aB]
theorem dA {op:UnOp}{t:TypeId}(I:lookO E x=some v)(J:unV op v=some r): opE P E h (.unOp op t x)=some (r,h):=by simp only [opE,gn,I,J,aB]
theorem bz {s d:TypeId}(I:lookO E x=some v)(J:convV P h s d v=some (r,h₁)): opE P E h (.convert s d x)=some (r,h₁):=by simp only [opE,gn,I,J]
theorem cH {t:TypeId}(I:lookO E x=some v)(J:lookO E y=some u)(U:indexAddrV P t v u=some r): opE P E h (.indexAddr t x y)=some (r,h):=by simp only [opE,ou,I,J,U,aB]
theorem wJ {t:TypeId}(I:lookO E x=some v)(J:lookO E y=some u)(U:indexV P t v u=some r): opE P E h (.index t x y)=some (r,h):=by simp only [opE,ou,I,J,U,aB]
theorem bL {i:Nat}{l:List V}(I:lookO E x=some (.aW l))(J:nth l i=some r): opE P E h (.extract x i)=some (r,h):=by simp only [opE,gn,I,J,aB]
theorem bW {t:TypeId}{ps:Array (Nat×Operand)}{l:List (Nat×V)}(I:lookParts E ps.toList=some l)(J:buildV P t l=some r): opE P E h (.build t ps)=some (r,h):=by simp only [opE,I,J,aB]
theorem ff {t:TypeId}(I:lookO E x=some v)(hs:v.cells.all storable=true): opE P E h (.box t x)=some (.ptr h.next 0,newRow h v.cells):=by simp only [opE,gn,I,hs,cond_true]
theorem bK {t:TypeId}(I:zeroT P t=some v): opE P E h (.alloc t)=some (.ptr h.next 0,newRow h v.cells):=by simp only [opE,I]
theorem JW {t:TypeId}(I:lookO E x=some v)(J:makeIfaceV P t v=some r): opE P E h (.makeInterface t x)=some (r,h):=by simp only [opE,gn,I,J,aB]
theorem yJ {f:Fn}{p q:Array Operand}{l m:List V}(I:lookArgs E p.toList=some l)(J:lookArgs E q.toList=some m): opE P E h (.makeFunc f p q)=some (.fn f l m,h):=by simp only [opE,I,J]
theorem aL {c:Go.Call}{t:TypeId}(I:c.callee=.builtin .len)(J:lookArgs E c.args.toList=some [v])(U:c.argTypes.toList=[t])(hf:lenV P h t v=some r): opE P E h (.call c)=some (r,h):=by
 simp only [opE,I,J,builtinV,U,hf,Option.map_some]
theorem j_ {c:Go.Call}(I:c.callee=.builtin .append)(J:lookArgs E c.args.toList=some [v,u])(U:appendV P h c.argTypes v u=some (r,h₁)): opE P E h (.call c)=some (r,h₁):=by
 simp only [opE,I,J,builtinV,U]
theorem ow {t:TypeId}(I:lookO E x=some v)(J:lookO E y=some u)(U:makeSliceV P h t v u=some (r,h₁)): opE P E h (.makeSlice t x y)=some (r,h₁):=by simp only [opE,ou,I,J,U]
theorem mD {t n:Nat}{ps:Array (Nat×Operand)}{l:List (Nat×V)}(I:lookParts E ps.toList=some l)(J:buildSliceV P h t n l=some (r,h₁)): opE P E h (.buildSlice t n ps)=some (r,h₁):=by simp only [opE,I,J]
theorem bM {t:TypeId}{lo hi mx:Option Operand}{p q m:Option V}{p' q' m':Option Nat}(I:lookO E x=some v)(J:lookOpt E lo=some p)(U:lookOpt E hi=some q)(h3:lookOpt E mx=some m)
 (g1:er p=some p')(g2:er q=some q')(g3:er m=some m')(hf:sliceV P h t v p' q' m'=some r): opE P E h (.slice t x lo hi mx)=some (r,h):=by simp only [opE,gn,I,J,U,h3,g1,g2,g3,hf,aB]
theorem Ic {t s:TypeId}{ok:Bool}(I:lookO E x=some v)(J:assertV P v s ok=some r): opE P E h (.typeAssert x t s ok)=some (r,h):=by simp only [opE,gn,I,J,aB]
theorem FL {t:TypeId}{id off n:Nat}{cs:List V}{st:Bool}(I:bx P t=some false)(J:T.get h.tr id=some (.cells n cs st))(U:nth cs off=some v): loadV P h t (.ptr id off)=some v:=by
 simp only [loadV,I,qD,J,U]
theorem dF {t:TypeId}{id n:Nat}{cs:List V}{st:Bool}(I:bx P t=some true)(hs:aY P t=some n)(J:T.get h.tr id=some (.cells n cs st)): loadV P h t (.ptr id 0)=some (.agg cs):=by
 simp only [loadV,I,hs,rdN,J,Nat.zero_add]
 rw [ay.2 (Nat.le_refl n),cond_true,Nat.beq_refl,Nat.beq_refl]
 rfl
end
section
variable {C:cf} {ak:Nat} {E:List (Nat×V)} {h:H} {R:List (Nat×V)→H→Prop} {L rest:List Oper} {o:Oper} {d:Nat} {cs:List V}
end
section
variable {C:cf} {ak:Nat} {E:List (Nat×V)} {h:H} {R:List (Nat×V)→H→Prop} {L rest:List Oper} {o:Oper} {d:Nat}
theorem xC {h:H}(hw:iC h){b:Nat}(I:b<256):
  ∃v h₁,buildSliceV Tryz.prog h 32 1 [(0,.int .u8 b)]=some (v,h₁)∧f_ h₁ v [b]∧cJ 1 [] h h₁∧∀i∈rowIds v,h.next≤i:=by
 refine ⟨.sl h.next 0 1 (.exact 1),newRow h [.int .u8 b],?_,⟨by simpa using I,.inr (.inl ⟨h.next,[],1,rfl,?_,rfl⟩)⟩,cJ.sE hw _,fun i hi=>by simp [rowIds] at hi; omega⟩
 ·simp only [buildSliceV,Tryz.underlying32,dz,lQ,V.cells]
  rfl
 ·rw [newRow,eZ,if_pos rfl]; rfl
theorem ae.DJ {t:TypeId}{ps:Array (Nat×Operand)}{b:Nat}(J:C.P=Tryz.prog)(hw:iC h)(U:wantE L E o.guard=some true)(hd:o.dst=some d)(hn:Nat.blt d ak=true)(I:o.op=.buildSlice t 1 ps)(ht:t=32)
 (hx:lookParts E ps.toList=some [(0,.int .u8 (b:Int))])(hb:b<256)
 (hr:∀v h₁,f_ h₁ v [b]→cJ 1 [] h h₁→(∀i∈rowIds v,h.next≤i)→ae C ak L rest ((d,v)::E) h₁ R): ae C ak L (o::rest) E h R:=by
 obtain ⟨v,h₁,e1,e2,e3,e4⟩:=xC hw hb
 refine ae.op U hd hn (v:=v) (h₁:=h₁) ?_ (hr v h₁ e2 e3 e4)
 rw [I,ht,J]
 exact mD hx e1
theorem ae.app {c:Go.Call}{s x:V}{l m:List Nat}(hP:C.P=Tryz.prog)(hw:iC h)(hg:wantE L E o.guard=some true)(hd:o.dst=some d)(hn:Nat.blt d ak=true)(I:o.op=.call c)(hc:c.callee=.builtin .append)
 (J:c.argTypes = #[32,32])(ha:lookArgs E c.args.toList=some [s,x])(hs:f_ h s l)(hx:View h x m)(U:l.length+m.length≤140737488355328)
 (hr:∀v h₁,f_ h₁ v (l++m)→cJ 1 (rowIds s) h h₁→(∀i∈rowIds v,i∈rowIds s∨h.next≤i)→ae C ak L rest ((d,v)::E) h₁ R): ae C ak L (o::rest) E h R:=by
 obtain ⟨v,h₁,e1,e2,e3,e4⟩:=rC hw hs hx U
 refine ae.op hg hd hn (v:=v) (h₁:=h₁) ?_ (hr v h₁ e2 e3 e4)
 rw [I,hP]
 exact j_ hc ha (by rw [J]; exact e1)
theorem vk {h:H}(hw:iC h){c:Nat}(J:c<1073741824):
  ∃v h₁,makeSliceV Tryz.prog h 32 (.int .i64 0) (.int .i64 (c:Int))=some (v,h₁)∧f_ h₁ v []∧cJ 1 [] h h₁∧∀i∈rowIds v,h.next≤i:=by
 obtain ⟨i,hi,i1,i2⟩:=o5
 refine ⟨.sl h.next 0 0 (.exact c),h.new (.cells c (repeatL [.int .u8 0] c) false),?_,⟨by simp,.inr (.inl ⟨h.next,repeatL [.int .u8 0] c,c,rfl,?_,?_⟩)⟩,cJ.sE hw _,fun i hi=>by simp [rowIds] at hi; omega⟩
 ·simp only [makeSliceV,Tryz.underlying32,hi,lQ,i1,i2,V.cells,List.length_cons,List.length_nil,Int.toNat_natCast,Nat.mul_one]
  rw [show (decide ((0:Int)≤0)&&decide ((0:Int)≤(c:Int))&&decide ((c:Int)<1073741824)&&Nat.ble 1 4096&&Nat.beq (0+1) 1&&Nat.ble 1 1)=true by simp; omega,cond_true]
  rfl
 ·rw [eZ,if_pos rfl]; rfl
 ·have:∀n,(repeatL [V.int .u8 0] n).length=n:=fun n=>by
   induction n with
   | zero=>rfl
   | succ n I=>simp [repeatL,I]
  simp [this]
end
section
variable {C:cf} {ak:Nat} {L rest:List Oper} {E:List (Nat×V)} {h h₁:H} {R:List (Nat×V)→H→Prop} {o:Oper} {d i:Nat} {v u r:V} {x y a b:Operand} {t t':TypeId}
theorem zm (e:(o.op,wantE L E o.guard,o.dst,Nat.blt d ak,lookO E x)=(Op.move x,some true,some d,true,some v))(hw:ae C ak L rest ((d,v)::E) h R): ae C ak L (o::rest) E h R:=by
  simp only [Prod.mk.injEq] at e; exact ae.op e.2.1 e.2.2.1 e.2.2.2.1 (by rw [e.1]; exact aV e.2.2.2.2) hw
theorem za (e:(o.op,wantE L E o.guard,o.dst,Nat.blt d ak,lookO E x)=(Op.assign x,some true,some d,true,some v))(hw:ae C ak L rest ((d,v)::E) h R): ae C ak L (o::rest) E h R:=by
  simp only [Prod.mk.injEq] at e; exact ae.op e.2.1 e.2.2.1 e.2.2.2.1 (by rw [e.1]; exact c_ e.2.2.2.2) hw
theorem zn {j k:Nat}(e:(o.op,wantE L E o.guard,o.dst,Nat.blt d ak,lookO E x)=(Op.nilCheck x,some true,some d,true,some (V.ptr j k)))(hw:ae C ak L rest ((d,.ptr j k)::E) h R): ae C ak L (o::rest) E h R:=by
  simp only [Prod.mk.injEq] at e; exact ae.op e.2.1 e.2.2.1 e.2.2.2.1 (by rw [e.1]; exact kX e.2.2.2.2) hw
theorem zf (e:(o.op,wantE L E o.guard,o.dst,Nat.blt d ak,lookO E x)=(Op.fieldAddr t x i,some true,some d,true,some v))(I:fieldAddrV C.P t v i=some r)(hw:ae C ak L rest ((d,r)::E) h R): ae C ak L (o::rest) E h R:=by
  simp only [Prod.mk.injEq] at e; exact ae.op e.2.1 e.2.2.1 e.2.2.2.1 (by rw [e.1]; exact iO e.2.2.2.2 I) hw
theorem zl (e:(o.op,wantE L E o.guard,o.dst,Nat.blt d ak,lookO E x)=(Op.load t x,some true,some d,true,some v))(I:loadV C.P h t v=some r)(hw:ae C ak L rest ((d,r)::E) h R): ae C ak L (o::rest) E h R:=by
  simp only [Prod.mk.injEq] at e; exact ae.op e.2.1 e.2.2.1 e.2.2.2.1 (by rw [e.1]; exact aI e.2.2.2.2 I) hw
theorem ze {l:List V}(e:(o.op,wantE L E o.guard,o.dst,Nat.blt d ak,lookO E x,nth l i)=(Op.extract x i,some true,some d,true,some (V.aW l),some r))(hw:ae C ak L rest ((d,r)::E) h R): ae C ak L (o::rest) E h R:=by
  simp only [Prod.mk.injEq] at e; exact ae.op e.2.1 e.2.2.1 e.2.2.2.1 (by rw [e.1]; exact bL e.2.2.2.2.1 e.2.2.2.2.2) hw
theorem zp (e:(o.op,wantE L E o.guard,o.dst,Nat.blt d ak,lookO E x,lookO E b)=(Op.pick x a b,some true,some d,true,some (V.bool false),some v))(hw:ae C ak L rest ((d,v)::E) h R): ae C ak L (o::rest) E h R:=by
  simp only [Prod.mk.injEq] at e; exact ae.op e.2.1 e.2.2.1 e.2.2.2.1 (by rw [e.1]; exact kA e.2.2.2.2.1 e.2.2.2.2.2) hw
theorem zq (e:(o.op,wantE L E o.guard,o.dst,Nat.blt d ak,lookO E x,lookO E a)=(Op.pick x a b,some true,some d,true,some (V.bool true),some v))(hw:ae C ak L rest ((d,v)::E) h R): ae C ak L (o::rest) E h R:=by
  simp only [Prod.mk.injEq] at e; exact ae.op e.2.1 e.2.2.1 e.2.2.2.1 (by rw [e.1]; exact sF e.2.2.2.2.1 e.2.2.2.2.2) hw
theorem zb {op:BinOp}(e:(o.op,wantE L E o.guard,o.dst,Nat.blt d ak,lookO E x,lookO E y)=(Op.binOp op t x y t',some true,some d,true,some v,some u))(I:binV C.P h op t x y v u=some r)(hw:ae C ak L rest ((d,r)::E) h R): ae C ak L (o::rest) E h R:=by
  simp only [Prod.mk.injEq] at e; exact ae.op e.2.1 e.2.2.1 e.2.2.2.1 (by rw [e.1]; exact af e.2.2.2.2.1 e.2.2.2.2.2 I) hw
theorem zx (e:(wantE L E o.guard,o.dst,Nat.blt d ak)=(some false,some d,true))(hw:ae C ak L rest ((d,bt)::E) h R): ae C ak L (o::rest) E h R:=by
  simp only [Prod.mk.injEq] at e; exact ae.no e.1 e.2.1 e.2.2 hw
theorem zo (e:(wantE L E o.guard,o.dst,Nat.blt d ak)=(some true,some d,true))(ho:opE C.P E h o.op=some (v,h₁))(hw:ae C ak L rest ((d,v)::E) h₁ R): ae C ak L (o::rest) E h R:=by
  simp only [Prod.mk.injEq] at e; exact ae.op e.1 e.2.1 e.2.2 ho hw
theorem zv (I:R E h): ae C ak L [] E h R:=ae.nil I
variable {Q:Ex→List (Nat×V)→H→Prop} {c f:Code}
theorem zw (hw:WP C ak c E h fun ex I h'=>match ex with
    | .normal=>WP C ak f I h' Q
    | ex=>Q ex I h'): WP C ak (.seq c f) E h Q:=WP.seq hw
theorem zr {k:Nat}{ops:Array Oper}(I:ops.toList=L)(hw:ae C ak L L E h fun J h'=>Q .normal J h'): WP C ak (.region k ops false) E h Q:=WP.region I hw
theorem zg {k:Nat}{ops:Array Oper}(I:ops.toList=L)(hw:ae C ak L L E h fun J h'=>WP C ak f J h' Q): WP C ak (.seq (.region k ops false) f) E h Q:=WP.seq (WP.region I hw)
theorem zi (I:lookO E x=some (.bool true))(hw:WP C ak c E h Q): WP C ak (.cond x c f) E h Q:=WP.cond I hw
theorem zj (I:lookO E x=some (.bool false))(hw:WP C ak f E h Q): WP C ak (.cond x c f) E h Q:=WP.cond I hw
end
end Go.Proofs.YtconhghphklfjaaGreat.Am
