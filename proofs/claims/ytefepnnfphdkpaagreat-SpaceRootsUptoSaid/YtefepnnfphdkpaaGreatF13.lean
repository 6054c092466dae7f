/- SpaceRoots: a part of its proof; conditions: its statement's. -/
import Derived.Test.YtefepnnfphdkpaaGreatF11
import Derived.Test.YtefepnnfphdkpaaGreatF12
namespace Go.Proofs.YtefepnnfphdkpaaGreat.Am
open Go
def lX (h:H): Prop:=∀id o,T.get h.tr id=some o→id<h.next
theorem lX.new {h:H}(hw:lX h)(o:Obj): lX (h.new o):=by
 intro id q I
 rw [iz] at I
 show id<h.next+1
 split at I
 ·omega
 ·exact Nat.lt_succ_of_lt (hw id q I)
theorem lX.put {h:H}(hw:lX h){id:Nat}(J:id<h.next)(o:Option Obj): lX (h.put id o):=by
 intro j q I
 rw [cD] at I
 show j<h.next
 split at I
 ·omega
 ·exact hw j q I
structure d_ (k:Nat)(S:List Nat)(h h':H): Prop where
 wf:lX h'
 le:h.next≤h'.next
 bd:h'.next≤h.next+k
 get:∀id,id<h.next→id∉S→T.get h'.tr id=T.get h.tr id
theorem d_.refl {h:H}(hw:lX h)(S:List Nat): d_ 0 S h h:=⟨hw,aD _,aD _,fun _ _ _=>rfl⟩
theorem d_.trans {k k':Nat}{S S':List Nat}{h h' I:H}(a:d_ k S h h')(b:d_ k' S' h' I)(hs:∀i∈S',i∈S∨h.next≤i): d_ (k+k') S h I:=by
 refine ⟨b.wf,cC a.le b.le,by have:=a.bd; have:=b.bd; omega,fun id J hn => ?_⟩
 rw [b.get id (gX J a.le) (fun hm => ?_),a.get id J hn]
 rcases hs id hm with h1 | h1
 ·exact hn h1
 ·omega
theorem d_.mono {k k':Nat}{S S':List Nat}{h h':H}(a:d_ k S h h')(J:k≤k')(hs:∀i∈S,i∈S'): d_ k' S' h h' :=
 ⟨a.wf,a.le,cC a.bd (vM J _),fun id I hn=>a.get id I (fun hm=>hn (hs id hm))⟩
theorem d_.row {k:Nat}{S:List Nat}{h h':H}(a:d_ k S h h')(hw:lX h){id:Nat}{o:Obj}(I:T.get h.tr id=some o)(J:id∉S): T.get h'.tr id=some o:=by
 rw [a.get id (hw id o I) J]; exact I
theorem d_.AP {h:H}(hw:lX h)(o:Obj): d_ 1 [] h (h.new o) :=
 ⟨hw.new o,qS _,aD _,fun id I _=>by rw [iz,ah (by omega)]⟩
theorem d_.S_ {h:H}(hw:lX h){id:Nat}(I:id<h.next)(o:Option Obj): d_ 0 [id] h (h.put id o) :=
 ⟨hw.put I o,aD _,aD _,fun j _ J=>by rw [cD,ah (fun e=>J (by simp [e]))]⟩
theorem c7 (l:List Nat): (ofBytes l).length=l.length:=by simp [ofBytes]
theorem rG (l m:List Nat): ofBytes (l++m)=ofBytes l++ofBytes m:=by simp [ofBytes]
def View (h:H)(v:V)(l:List Nat): Prop:=(∀b∈l,b<256)∧(((v=.bw∨∃a,v=.sle a)∧l=[]) ∨
 ∃id off cap n cs st,v=.sl id off l.length cap∧T.get h.tr id=some (.cells n cs st)∧cs.length=n∧off+l.length≤n∧(cs.drop off).take l.length=ofBytes l ∧
  (match cap with | .exact c=>l.length≤c | .rest e _=>e=1))
def jR (h:H)(v:V)(l:List Nat): Prop:=(∀b∈l,b<256)∧((v=.bw∧l=[]) ∨
 (∃id cs c,v=.sl id 0 l.length (.exact c)∧T.get h.tr id=some (.cells c (ofBytes l++cs) false)∧l.length+cs.length=c) ∨
 (∃id,v=.sl id 0 l.length (.rest 1 0)∧T.get h.tr id=some (.cells l.length (ofBytes l) false)∧1≤l.length))
def rowIds : V→List Nat
 | .sl id _ _ _=>[id]
 | _=>[]
theorem jR.view {h:H}{v:V}{l:List Nat}(I:jR h v l): View h v l:=by
 obtain ⟨hl,I⟩:=I
 refine ⟨hl,?_⟩
 rcases I with I | ⟨id,cs,c,rfl,J,hc⟩ | ⟨id,rfl,J,h1⟩
 ·exact .inl ⟨.inl I.1,I.2⟩
 ·refine .inr ⟨id,0,.exact c,c,_,false,rfl,J,by simp [c7,hc],by omega,?_,by show l.length≤c; omega⟩
  rw [eu,ke (c7 l)]
 ·refine .inr ⟨id,0,.rest 1 0,_,_,false,rfl,J,c7 l,by omega,?_,rfl⟩
  rw [eu]
  exact dO (by rw [c7]; exact aD _)
theorem View.mD {k:Nat}{S:List Nat}{h h':H}{v:V}{l:List Nat}(hv:View h v l)(hw:lX h)(I:d_ k S h h')(J:∀i∈rowIds v,i∉S): View h' v l:=by
 obtain ⟨hl,hv⟩:=hv
 refine ⟨hl,?_⟩
 rcases hv with hv | ⟨id,off,cap,n,cs,st,rfl,hg,h1,h2,h3,h4⟩
 ·exact .inl hv
 ·exact .inr ⟨id,off,cap,n,cs,st,rfl,I.row hw hg (J id (by simp [rowIds])),h1,h2,h3,h4⟩
theorem jR.mD {k:Nat}{S:List Nat}{h h':H}{v:V}{l:List Nat}(hv:jR h v l)(hw:lX h)(J:d_ k S h h')(hn:∀i∈rowIds v,i∉S): jR h' v l:=by
 obtain ⟨hl,hv⟩:=hv
 refine ⟨hl,?_⟩
 rcases hv with hv | ⟨id,cs,c,rfl,I,hc⟩ | ⟨id,rfl,I,h1⟩
 ·exact .inl hv
 ·exact .inr (.inl ⟨id,cs,c,rfl,J.row hw I (hn id (by simp [rowIds])),hc⟩)
 ·exact .inr (.inr ⟨id,rfl,J.row hw I (hn id (by simp [rowIds])),h1⟩)
theorem View.len {h:H}{v:V}{l:List Nat}(hv:View h v l): lenV Tryz.prog h 28 v=some (.int .i64 l.length):=by
 obtain ⟨_,hv⟩:=hv
 rcases hv with ⟨rfl | ⟨I,rfl⟩,rfl⟩ | ⟨id,off,cap,n,cs,st,rfl,_⟩ <;> simp [lenV,aG]
theorem View.rdN {h:H}{id off len:Nat}{cap:Cap}{l:List Nat}(hv:View h (.sl id off len cap) l): len=l.length∧rdN h id off len=some (ofBytes l):=by
 obtain ⟨_,hv⟩:=hv
 rcases hv with ⟨I,_⟩ | ⟨yJ,off',J,n,cs,st,I,hg,h1,h2,h3,h4⟩
 ·rcases I with I | ⟨_,I⟩ <;> cases I
 ·injection I with e1 e2 e3 e4
  subst e1; subst e2; subst e3
  refine ⟨rfl,?_⟩
  unfold Am.rdN
  simp only [hg]
  rw [aJ.2 h2,ag]
  cases hc:(Nat.beq off 0&&Nat.beq l.length n) with
  | true =>
   simp only [aO,beq_iff] at hc
   obtain ⟨rfl,hn⟩:=hc
   rw [ag,←h3,eu,dO (by omega)]
  | false=>rw [az,h3]
theorem wA : ∃i,Tryz.prog.info? 5=some i∧i.size=1∧i.bytes=1:=by
 refine ⟨_,(show Tryz.prog.info? 5=some ((Tryz.prog.info? 5).getD default) by kernel_rfl),by kernel_rfl,by kernel_rfl⟩
theorem oO : zeroT Tryz.prog 5=some (.int .u8 0):=by kernel_rfl
theorem CR {h:H}{x:V}{m:List Nat}(J:View h x m): srcV h 1 x=some (ofBytes m,m.length):=by
 obtain ⟨hl,I⟩:=J
 rcases I with ⟨rfl | ⟨ea,rfl⟩,rfl⟩ | ⟨id,off,cap,n,cs,st,rfl,hg,h1,h2,h3,h4⟩
 ·rfl
 ·rfl
 ·simp only [srcV,c9]
  rw [(View.rdN (l:=m) ⟨hl,.inr ⟨id,off,cap,n,cs,st,rfl,hg,h1,h2,h3,h4⟩⟩).2]
  rfl
theorem yU {h:H}{s x:V}{l m:List Nat}(hw:lX h)(hs:jR h s l)(hx:View h x m)(eZ:l.length+m.length≤140737488355328):
  ∃v' h',appendV Tryz.prog h #[28,28] s x=some (v',h')∧jR h' v' (l++m)∧d_ 1 (rowIds s) h h'∧(∀i∈rowIds v',i∈rowIds s∨h.next≤i):=by
 obtain ⟨i,hi,i1,i2⟩:=wA
 have J:∀b∈l++m,b<256:=fun b hb=>by
  rcases List.mem_append.1 hb with hb | hb
  ·exact hs.1 b hb
  ·exact hx.1 b hb
 have Fq:kO (l.length+m.length) 1=true:=w9.2 ⟨eZ,by omega⟩
 unfold appendV
 simp only [aG,hi,oO,i1,i2,V.cells,aS,bT,CR hx]
 rw [show (Nat.ble 1 1&&Nat.ble 1 4096&&Nat.beq (0+1) 1)=true from rfl,ag]
 cases hm:Nat.beq m.length 0 with
 | true =>
  have Br:m=[]:=lJ (beq_iff.1 hm)
  subst Br
  rw [ag,bR]
  have I:=hs
  obtain ⟨_,I⟩:=I
  rcases I with ⟨rfl,rfl⟩ | ⟨id,cs,c,rfl,hg,hc⟩ | ⟨id,rfl,hg,h1⟩
  ·exact ⟨_,_,rfl,hs,(d_.refl hw _).mono (ew _) (fun _ h=>h),fun i hi=>.inl hi⟩
  ·exact ⟨_,_,rfl,hs,(d_.refl hw _).mono (ew _) (fun _ h=>h),fun i hi=>.inl hi⟩
  ·exact ⟨_,_,rfl,hs,(d_.refl hw _).mono (ew _) (fun _ h=>h),fun i hi=>.inl hi⟩
 | false =>
  have Br:1≤m.length:=by
   rcases vP m.length with h0 | h0
   ·rw [gP h0] at hm; cases hm
   ·exact h0
  rw [az]
  have w_:∀(σ:H) (old:List Nat),lX σ→1≤(old++m).length→(∀b∈old++m,b<256)→jR (nU σ 1 (ofBytes old) (ofBytes m) (old.length+m.length)).2 (nU σ 1 (ofBytes old) (ofBytes m) (old.length+m.length)).1 (old++m):=by
   intro σ old _ h1 h2
   refine ⟨h2,.inr (.inr ⟨σ.next,?_,?_,h1⟩)⟩
   ·simp only [nU,bx]
   ·simp only [nU]
    rw [iz,aj rfl,c9,bx,rG]
  have I:=hs
  obtain ⟨_,I⟩:=I
  rcases I with ⟨rfl,rfl⟩ | ⟨id,cs,c,rfl,hg,hc⟩ | ⟨id,rfl,hg,h1⟩
  ·simp only
   have aav:kO m.length 1=true:=by simpa using Fq
   rw [aav,ag]
   have:=w_ h [] hw (by simpa using Br) (by simpa using hx.1)
   simp only [bT,dH,cZ] at this
   exact ⟨_,_,rfl,by rw [cZ]; exact this,(d_.AP hw _).mono (aD _) (fun i hi=>by simp at hi),fun i hi=>.inr (by simp [rowIds] at hi; omega)⟩
  ·simp only [c9,dH]
   have hv:=jR.view hs
   cases hq:Nat.ble (l.length+m.length) c with
   | true =>
    have rR:=aJ.1 hq
    rw [ag]
    unfold wrN
    simp only [hg,c7]
    rw [hq,ag]
    simp only
    have xq:(cond (Nat.beq l.length 0&&Nat.beq m.length c) (ofBytes m) ((ofBytes l++cs).take l.length++(ofBytes m++(ofBytes l++cs).drop (l.length+m.length))))=ofBytes (l++m)++cs.drop m.length:=by
     have e1:(ofBytes l++cs).take l.length=ofBytes l:=ke (c7 l)
     have e2:(ofBytes l++cs).drop (l.length+m.length)=cs.drop m.length:=by
      rw [Az,c7,show l.length+m.length-l.length=m.length from by omega,je (by rw [c7]; omega),cZ]
     cases hz:(Nat.beq l.length 0&&Nat.beq m.length c) with
     | true =>
      simp only [aO,beq_iff] at hz
      have Cs:l=[]:=lJ hz.1
      subst Cs
      have lG:cs.drop m.length=[]:=je (by simp at hc; omega)
      simp [lG]
     | false=>rw [az,e1,e2,rG,bS]
    rw [xq]
    refine ⟨_,_,rfl,⟨J,.inr (.inl ⟨id,cs.drop m.length,c,by simp,?_,by simp; omega⟩)⟩,(d_.S_ hw (hw id _ hg) _).mono (ew _) (fun i hi=>by simpa [rowIds] using hi),fun i hi=>.inl (by simpa [rowIds] using hi)⟩
    rw [cD,aj rfl]
   | false =>
    rw [az,Fq,ag,hv.rdN.2]
    simp only
    exact ⟨_,_,rfl,w_ h l hw (by simp; omega) J,(d_.AP hw _).mono (aD _) (fun i hi=>by simp at hi),fun i hi=>.inr (by simp [rowIds] at hi; omega)⟩
  ·simp only [dR,ag,c9,dH]
   have hv:=jR.view hs
   have BU:kN h id 0 1=l.length:=by simp [kN,hg]
   have hf:Nat.ble (l.length+m.length) l.length=false:=by
    cases hq:Nat.ble (l.length+m.length) l.length with
    | true=>have:=aJ.1 hq; omega
    | false=>rfl
   rw [BU,hf,az,Fq,show Nat.ble 2 (l.length+m.length)=true from aJ.2 (by omega),iu,ag,hv.rdN.2,hg]
   simp only
   have ud:lX (h.put id none):=hw.put (hw id _ hg) _
   refine ⟨_,_,rfl,w_ (h.put id none) l ud (by simp; omega) J,?_,fun i hi=>.inr (by simp [rowIds,H.put] at hi; omega)⟩
   refine ((d_.S_ hw (hw id _ hg) none).trans (S':=[]) (d_.AP ud _) (fun i hi=>by simp at hi)).mono (aD _) (fun i hi=>by simpa [rowIds] using hi)
section
variable {P:Program} {E:List (Nat×V)} {h h₁:H} {x y a b:Operand} {v u r:V}
theorem bz (I:lookO E x=some v): opE P E h (.move x)=some (v,h):=by simp only [opE,jQ,I]
theorem eT (I:lookO E x=some v): opE P E h (.assign x)=some (v,h):=by simp only [opE,jQ,I]
theorem qW (I:lookO E x=some (.bool true))(J:lookO E a=some v): opE P E h (.pick x a b)=some (v,h):=by simp only [opE,jQ,I,ag,J]
theorem kj (I:lookO E x=some (.bool false))(J:lookO E b=some v): opE P E h (.pick x a b)=some (v,h):=by simp only [opE,jQ,I,az,J]
theorem oK {i o:Nat}(I:lookO E x=some (.ptr i o)): opE P E h (.nilCheck x)=some (.ptr i o,h):=by simp only [opE,jQ,I]
theorem lY {t i:Nat}(I:lookO E x=some v)(J:fieldAddrV P t v i=some r): opE P E h (.fieldAddr t x i)=some (r,h):=by simp only [opE,jQ,I,J,aY]
theorem bh {t:TypeId}(I:lookO E x=some v)(J:loadV P h t v=some r): opE P E h (.load t x)=some (r,h):=by simp only [opE,jQ,I,J,aY]
theorem AQ {t:TypeId}(I:lookO E x=some v)(J:lookO E y=some u)(hf:g9 P h t v u=some h₁): opE P E h (.store t x y)=some (bV,h₁):=by simp only [opE,u6,I,J,hf,nh]
theorem af {op:BinOp}{t t':TypeId}(I:lookO E x=some v)(J:lookO E y=some u)(hf:binV P h op t x y v u=some r): opE P E h (.binOp op t x y t')=some (r,h):=by simp only [opE,u6,I,J,hf,aY]
theorem eD {op:UnOp}{t:TypeId}(I:lookO E x=some v)(J:unV op v=some r): opE P E h (.unOp op t x)=some (r,h):=by simp only [opE,jQ,I,J,aY]
theorem cJ {s d:TypeId}(I:lookO E x=some v)(J:convV P h s d v=some (r,h₁)): opE P E h (.convert s d x)=some (r,h₁):=by simp only [opE,jQ,I,J]
theorem dr {t:TypeId}(I:lookO E x=some v)(J:lookO E y=some u)(hf:indexAddrV P t v u=some r): opE P E h (.indexAddr t x y)=some (r,h):=by simp only [opE,u6,I,J,hf,aY]
theorem yV {t:TypeId}(I:lookO E x=some v)(J:lookO E y=some u)(hf:indexV P t v u=some r): opE P E h (.index t x y)=some (r,h):=by simp only [opE,u6,I,J,hf,aY]
theorem cO {i:Nat}{l:List V}(I:lookO E x=some (.bj l))(J:nth l i=some r): opE P E h (.extract x i)=some (r,h):=by simp only [opE,jQ,I,J,aY]
theorem c_ {t:TypeId}{ps:Array (Nat×Operand)}{l:List (Nat×V)}(I:lookParts E ps.toList=some l)(J:buildV P t l=some r): opE P E h (.build t ps)=some (r,h):=by simp only [opE,I,J,aY]
theorem fe {t:TypeId}(I:lookO E x=some v)(hs:v.cells.all storable=true): opE P E h (.box t x)=some (.ptr h.next 0,newRow h v.cells):=by simp only [opE,jQ,I,hs,ag]
theorem bX {t:TypeId}(I:zeroT P t=some v): opE P E h (.alloc t)=some (.ptr h.next 0,newRow h v.cells):=by simp only [opE,I]
theorem u9 {t:TypeId}(I:lookO E x=some v)(J:makeIfaceV P t v=some r): opE P E h (.makeInterface t x)=some (r,h):=by simp only [opE,jQ,I,J,aY]
theorem GD {f:Fn}{p q:Array Operand}{l m:List V}(I:lookArgs E p.toList=some l)(J:lookArgs E q.toList=some m): opE P E h (.makeFunc f p q)=some (.fn f l m,h):=by simp only [opE,I,J]
theorem aU {c:Go.Call}{t:TypeId}(I:c.callee=.builtin .len)(J:lookArgs E c.args.toList=some [v])(ht:c.argTypes.toList=[t])(hf:lenV P h t v=some r): opE P E h (.call c)=some (r,h):=by
 simp only [opE,I,J,builtinV,ht,hf,jN]
theorem mF {c:Go.Call}(I:c.callee=.builtin .append)(J:lookArgs E c.args.toList=some [v,u])(hf:appendV P h c.argTypes v u=some (r,h₁)): opE P E h (.call c)=some (r,h₁):=by
 simp only [opE,I,J,builtinV,hf]
theorem sK {t:TypeId}(I:lookO E x=some v)(J:lookO E y=some u)(hf:makeSliceV P h t v u=some (r,h₁)): opE P E h (.makeSlice t x y)=some (r,h₁):=by simp only [opE,u6,I,J,hf]
theorem om {t n:Nat}{ps:Array (Nat×Operand)}{l:List (Nat×V)}(I:lookParts E ps.toList=some l)(J:buildSliceV P h t n l=some (r,h₁)): opE P E h (.buildSlice t n ps)=some (r,h₁):=by simp only [opE,I,J]
theorem cf {t:TypeId}{lo hi mx:Option Operand}{p q m:Option V}{p' q' m':Option Nat}(I:lookO E x=some v)(J:lookOpt E lo=some p)(h2:lookOpt E hi=some q)(h3:lookOpt E mx=some m)
 (g1:gI p=some p')(g2:gI q=some q')(g3:gI m=some m')(hf:sliceV P h t v p' q' m'=some r): opE P E h (.slice t x lo hi mx)=some (r,h):=by simp only [opE,jQ,I,J,h2,h3,g1,g2,g3,hf,aY]
theorem QZ {t s:TypeId}{ok:Bool}(I:lookO E x=some v)(J:assertV P v s ok=some r): opE P E h (.typeAssert x t s ok)=some (r,h):=by simp only [opE,jQ,I,J,aY]
theorem Oc {t:TypeId}{id off n:Nat}{cs:List V}{st:Bool}(I:cm P t=some false)(J:T.get h.tr id=some (.cells n cs st))(hn:nth cs off=some v): loadV P h t (.ptr id off)=some v:=by
 simp only [loadV,I,yf,J,hn]
theorem cA {t:TypeId}{id n:Nat}{cs:List V}{st:Bool}(I:cm P t=some true)(hs:bH P t=some n)(J:T.get h.tr id=some (.cells n cs st)): loadV P h t (.ptr id 0)=some (.agg cs):=by
 simp only [loadV,I,hs,rdN,J,dH]
 rw [aJ.2 (aD n),ag,dR,dR]
 rfl
end
section
variable {C:cL} {ay:Nat} {E:List (Nat×V)} {h:H} {R:List (Nat×V)→H→Prop} {L rest:List Oper} {o:Oper} {d:Nat} {cs:List V}
end
section
variable {C:cL} {ay:Nat} {E:List (Nat×V)} {h:H} {R:List (Nat×V)→H→Prop} {L rest:List Oper} {o:Oper} {d:Nat}
theorem Fs {h:H}(hw:lX h){b:Nat}(I:b<256):
  ∃v h₁,buildSliceV Tryz.prog h 28 1 [(0,.int .u8 b)]=some (v,h₁)∧jR h₁ v [b]∧d_ 1 [] h h₁∧∀i∈rowIds v,h.next≤i:=by
 refine ⟨.sl h.next 0 1 (.exact 1),newRow h [.int .u8 b],?_,⟨by simpa using I,.inr (.inl ⟨h.next,[],1,rfl,?_,rfl⟩)⟩,d_.AP hw _,fun i hi=>by simp [rowIds] at hi; omega⟩
 ·simp only [buildSliceV,aG,dP,oO,V.cells]
  rfl
 ·rw [newRow,iz,aj rfl]; rfl
theorem aA.L6 {t:TypeId}{ps:Array (Nat×Operand)}{b:Nat}(J:C.P=Tryz.prog)(hw:lX h)(hg:wantE L E o.guard=some true)(hd:o.dst=some d)(hn:Nat.blt d ay=true)(I:o.op=.buildSlice t 1 ps)(ht:t=28)
 (hx:lookParts E ps.toList=some [(0,.int .u8 (b:Int))])(hb:b<256)
 (hr:∀v h₁,jR h₁ v [b]→d_ 1 [] h h₁→(∀i∈rowIds v,h.next≤i)→aA C ay L rest ((d,v)::E) h₁ R): aA C ay L (o::rest) E h R:=by
 obtain ⟨v,h₁,e1,e2,e3,e4⟩:=Fs hw hb
 refine aA.op hg hd hn (v:=v) (h₁:=h₁) ?_ (hr v h₁ e2 e3 e4)
 rw [I,ht,J]
 exact om hx e1
theorem aA.app {c:Go.Call}{s x:V}{l m:List Nat}(hP:C.P=Tryz.prog)(hw:lX h)(hg:wantE L E o.guard=some true)(hd:o.dst=some d)(hn:Nat.blt d ay=true)(I:o.op=.call c)(hc:c.callee=.builtin .append)
 (J:c.argTypes = #[28,28])(ha:lookArgs E c.args.toList=some [s,x])(hs:jR h s l)(hx:View h x m)(eZ:l.length+m.length≤140737488355328)
 (hr:∀v h₁,jR h₁ v (l++m)→d_ 1 (rowIds s) h h₁→(∀i∈rowIds v,i∈rowIds s∨h.next≤i)→aA C ay L rest ((d,v)::E) h₁ R): aA C ay L (o::rest) E h R:=by
 obtain ⟨v,h₁,e1,e2,e3,e4⟩:=yU hw hs hx eZ
 refine aA.op hg hd hn (v:=v) (h₁:=h₁) ?_ (hr v h₁ e2 e3 e4)
 rw [I,hP]
 exact mF hc ha (by rw [J]; exact e1)
theorem CS {h:H}(hw:lX h){c:Nat}(J:c<1073741824):
  ∃v h₁,makeSliceV Tryz.prog h 28 (.int .i64 0) (.int .i64 (c:Int))=some (v,h₁)∧jR h₁ v []∧d_ 1 [] h h₁∧∀i∈rowIds v,h.next≤i:=by
 obtain ⟨i,hi,i1,i2⟩:=wA
 refine ⟨.sl h.next 0 0 (.exact c),h.new (.cells c (repeatL [.int .u8 0] c) false),?_,⟨by simp,.inr (.inl ⟨h.next,repeatL [.int .u8 0] c,c,rfl,?_,?_⟩)⟩,d_.AP hw _,fun i hi=>by simp [rowIds] at hi; omega⟩
 ·simp only [makeSliceV,aG,hi,oO,i1,i2,V.cells,aS,bT,b9,c9]
  rw [show (decide ((0:Int)≤0)&&decide ((0:Int)≤(c:Int))&&decide ((c:Int)<1073741824)&&Nat.ble 1 4096&&Nat.beq (0+1) 1&&Nat.ble 1 1)=true by simp; omega,ag]
  rfl
 ·rw [iz,aj rfl]; rfl
 ·have:∀n,(repeatL [V.int .u8 0] n).length=n:=fun n=>by
   induction n with
   | zero=>rfl
   | succ n I=>simp [repeatL,I]
  simp [this]
end
section
variable {C:cL} {ay:Nat} {L rest:List Oper} {E:List (Nat×V)} {h h₁:H} {R:List (Nat×V)→H→Prop} {o:Oper} {d i:Nat} {v u r:V} {x y a b:Operand} {t t':TypeId}
theorem zm (e:(o.op,wantE L E o.guard,o.dst,Nat.blt d ay,lookO E x)=(Op.move x,some true,some d,true,some v))(hw:aA C ay L rest ((d,v)::E) h R): aA C ay L (o::rest) E h R:=by
  simp only [aF] at e; exact aA.op e.2.1 e.2.2.1 e.2.2.2.1 (by rw [e.1]; exact bz e.2.2.2.2) hw
theorem za (e:(o.op,wantE L E o.guard,o.dst,Nat.blt d ay,lookO E x)=(Op.assign x,some true,some d,true,some v))(hw:aA C ay L rest ((d,v)::E) h R): aA C ay L (o::rest) E h R:=by
  simp only [aF] at e; exact aA.op e.2.1 e.2.2.1 e.2.2.2.1 (by rw [e.1]; exact eT e.2.2.2.2) hw
theorem zn {j k:Nat}(e:(o.op,wantE L E o.guard,o.dst,Nat.blt d ay,lookO E x)=(Op.nilCheck x,some true,some d,true,some (V.ptr j k)))(hw:aA C ay L rest ((d,.ptr j k)::E) h R): aA C ay L (o::rest) E h R:=by
  simp only [aF] at e; exact aA.op e.2.1 e.2.2.1 e.2.2.2.1 (by rw [e.1]; exact oK e.2.2.2.2) hw
theorem zf (e:(o.op,wantE L E o.guard,o.dst,Nat.blt d ay,lookO E x)=(Op.fieldAddr t x i,some true,some d,true,some v))(I:fieldAddrV C.P t v i=some r)(hw:aA C ay L rest ((d,r)::E) h R): aA C ay L (o::rest) E h R:=by
  simp only [aF] at e; exact aA.op e.2.1 e.2.2.1 e.2.2.2.1 (by rw [e.1]; exact lY e.2.2.2.2 I) hw
theorem zl (e:(o.op,wantE L E o.guard,o.dst,Nat.blt d ay,lookO E x)=(Op.load t x,some true,some d,true,some v))(I:loadV C.P h t v=some r)(hw:aA C ay L rest ((d,r)::E) h R): aA C ay L (o::rest) E h R:=by
  simp only [aF] at e; exact aA.op e.2.1 e.2.2.1 e.2.2.2.1 (by rw [e.1]; exact bh e.2.2.2.2 I) hw
theorem ze {l:List V}(e:(o.op,wantE L E o.guard,o.dst,Nat.blt d ay,lookO E x,nth l i)=(Op.extract x i,some true,some d,true,some (V.bj l),some r))(hw:aA C ay L rest ((d,r)::E) h R): aA C ay L (o::rest) E h R:=by
  simp only [aF] at e; exact aA.op e.2.1 e.2.2.1 e.2.2.2.1 (by rw [e.1]; exact cO e.2.2.2.2.1 e.2.2.2.2.2) hw
theorem zp (e:(o.op,wantE L E o.guard,o.dst,Nat.blt d ay,lookO E x,lookO E b)=(Op.pick x a b,some true,some d,true,some (V.bool false),some v))(hw:aA C ay L rest ((d,v)::E) h R): aA C ay L (o::rest) E h R:=by
  simp only [aF] at e; exact aA.op e.2.1 e.2.2.1 e.2.2.2.1 (by rw [e.1]; exact kj e.2.2.2.2.1 e.2.2.2.2.2) hw
theorem zq (e:(o.op,wantE L E o.guard,o.dst,Nat.blt d ay,lookO E x,lookO E a)=(Op.pick x a b,some true,some d,true,some (V.bool true),some v))(hw:aA C ay L rest ((d,v)::E) h R): aA C ay L (o::rest) E h R:=by
  simp only [aF] at e; exact aA.op e.2.1 e.2.2.1 e.2.2.2.1 (by rw [e.1]; exact qW e.2.2.2.2.1 e.2.2.2.2.2) hw
theorem zb {op:BinOp}(e:(o.op,wantE L E o.guard,o.dst,Nat.blt d ay,lookO E x,lookO E y)=(Op.binOp op t x y t',some true,some d,true,some v,some u))(I:binV C.P h op t x y v u=some r)(hw:aA C ay L rest ((d,r)::E) h R): aA C ay L (o::rest) E h R:=by
  simp only [aF] at e; exact aA.op e.2.1 e.2.2.1 e.2.2.2.1 (by rw [e.1]; exact af e.2.2.2.2.1 e.2.2.2.2.2 I) hw
theorem zx (e:(wantE L E o.guard,o.dst,Nat.blt d ay)=(some false,some d,true))(hw:aA C ay L rest ((d,bV)::E) h R): aA C ay L (o::rest) E h R:=by
  simp only [aF] at e; exact aA.no e.1 e.2.1 e.2.2 hw
theorem zo (e:(wantE L E o.guard,o.dst,Nat.blt d ay)=(some true,some d,true))(ho:opE C.P E h o.op=some (v,h₁))(hw:aA C ay L rest ((d,v)::E) h₁ R): aA C ay L (o::rest) E h R:=by
  simp only [aF] at e; exact aA.op e.1 e.2.1 e.2.2 ho hw
theorem zv (I:R E h): aA C ay L [] E h R:=aA.nil I
variable {Q:Ex→List (Nat×V)→H→Prop} {c f:Code}
theorem zw (hw:WP C ay c E h fun ex E' h'=>match ex with
    | .normal=>WP C ay f E' h' Q
    | ex=>Q ex E' h'): WP C ay (.seq c f) E h Q:=WP.seq hw
theorem zr {k:Nat}{ops:Array Oper}(I:ops.toList=L)(hw:aA C ay L L E h fun E' h'=>Q .normal E' h'): WP C ay (.region k ops false) E h Q:=WP.region I hw
theorem zg {k:Nat}{ops:Array Oper}(I:ops.toList=L)(hw:aA C ay L L E h fun E' h'=>WP C ay f E' h' Q): WP C ay (.seq (.region k ops false) f) E h Q:=WP.seq (WP.region I hw)
theorem zi (I:lookO E x=some (.bool true))(hw:WP C ay c E h Q): WP C ay (.cond x c f) E h Q:=WP.cond I hw
theorem zj (I:lookO E x=some (.bool false))(hw:WP C ay f E h Q): WP C ay (.cond x c f) E h Q:=WP.cond I hw
end
inductive Md where
  | c (c:Code)
  | o (L l:List Oper)
def CT (C:cL)(ay:Nat)(Q:Ex→List (Nat×V)→H→Prop): List Code→Ex→List (Nat×V)→H→Prop
  | []=>Q
  | b::K=>fun ex E' h'=>match ex with
    | .normal=>WP C ay b E' h' (CT C ay Q K)
    | ex=>CT C ay Q K ex E' h'
def Ta : List (Nat×V)→Nat→Option V
  | [],_=>none
  | (d,v)::E,k=>cond (Nat.beq d k) (some v) (Ta E k)
theorem Od : ∀(E:List (Nat×V)) (k:Nat),Ta E k=look E k
  | [],_=>rfl
  | (d,v)::E,k=>by simp only [Ta,look,Od E k]
def CU (E:List (Nat×V)): Operand→Option V
  | .tmp t=>Ta E t
  | .const c=>ofValue c
  | .global _=>none
  | .func f=>some (.fn (.func f) [] [])
theorem Oe (E:List (Nat×V))(x:Operand): CU E x=lookO E x:=by cases x <;> first | rfl | exact Od _ _
def Wy (E:List (Nat×V)): Op→Option V
  | .move x=>CU E x
  | .assign x=>CU E x
  | .nilCheck x=>match CU E x with
    | some (.ptr j k)=>some (.ptr j k)
    | _=>none
  | .extract x i=>match CU E x with
    | some (.bj l)=>nth l i
    | _=>none
  | .pick x a b=>match CU E x with
    | some (.bool true)=>CU E a
    | some (.bool false)=>CU E b
    | _=>none
  | _=>none
def runM (ay:Nat): Nat→Md→List (Nat×V)→List Code→Option (Md×List (Nat×V)×List Code)
  | 0,m,E,K=>some (m,E,K)
  | n+1,.o _ [],E,b::K=>runM ay n (.c b) E K
  | n+1,.o L (o::l),E,K=>match wantE L E o.guard,o.dst with
    | some false,some d=>cond (Nat.blt d ay) (runM ay n (.o L l) ((d,bV)::E) K) none
    | some true,some d=>match Wy E o.op with
      | some v=>cond (Nat.blt d ay) (runM ay n (.o L l) ((d,v)::E) K) none
      | none=>none
    | _,_=>none
  | n+1,.c (.seq a b),E,K=>runM ay n (.c a) E (b::K)
  | n+1,.c (.region _ ops false),E,K=>runM ay n (.o ops.toList ops.toList) E K
  | n+1,.c (.cond x a b),E,K=>match CU E x with
    | some (.bool true)=>runM ay n (.c a) E K
    | some (.bool false)=>runM ay n (.c b) E K
    | _=>none
  | n+1,.c .skip,E,b::K=>runM ay n (.c b) E K
  | _+1,_,_,_=>none
abbrev Gl (C:cL)(ay:Nat)(h:H)(Q:Ex→List (Nat×V)→H→Prop)(m:Md)(E:List (Nat×V))(K:List Code): Prop:=match m with
  | .c c=>WP C ay c E h (CT C ay Q K)
  | .o L l=>aA C ay L l E h fun E' h'=>CT C ay Q K .normal E' h'
class Hr (C:cL)(ay:Nat)(R:List (Nat×V)→H→Prop)(Q:outParam (Ex→List (Nat×V)→H→Prop))where
  K:List Code
  eq:R=fun E' h'=>CT C ay Q K .normal E' h'
class Tb (C:cL)(ay:Nat)(R:Ex→List (Nat×V)→H→Prop)(Q:outParam (Ex→List (Nat×V)→H→Prop))where
  K:List Code
  eq:R=CT C ay Q K
instance (priority:=50) (C:cL) (ay:Nat) (R:List (Nat×V)→H→Prop):Hr C ay R (fun _=>R):=⟨[],rfl⟩
instance (priority:=60) (C:cL) (ay:Nat) (Q:Ex→List (Nat×V)→H→Prop):Hr C ay (fun E' h'=>Q .normal E' h') Q:=⟨[],rfl⟩
instance (priority:=70) (C:cL) (ay:Nat) (f:Code) (Q:Ex→List (Nat×V)→H→Prop) (K:List Code):Hr C ay (fun E' h'=>WP C ay f E' h' (CT C ay Q K)) Q:=⟨f::K,rfl⟩
instance (priority:=65) (C:cL) (ay:Nat) (f:Code) (Q:Ex→List (Nat×V)→H→Prop):Hr C ay (fun E' h'=>WP C ay f E' h' Q) Q:=⟨[f],rfl⟩
instance (priority:=80) (C:cL) (ay:Nat) (K:List Code) (Q:Ex→List (Nat×V)→H→Prop):Hr C ay (fun E' h'=>CT C ay Q K .normal E' h') Q:=⟨K,rfl⟩
instance (priority:=50) (C:cL) (ay:Nat) (Q:Ex→List (Nat×V)→H→Prop):Tb C ay Q Q:=⟨[],rfl⟩
instance (priority:=80) (C:cL) (ay:Nat) (K:List Code) (Q:Ex→List (Nat×V)→H→Prop):Tb C ay (CT C ay Q K) Q:=⟨K,rfl⟩
section
variable {C:cL} {ay:Nat} {L l:List Oper} {E E':List (Nat×V)} {h:H} {R:List (Nat×V)→H→Prop} {Q:Ex→List (Nat×V)→H→Prop} {m m':Md} {K K':List Code} {f:Code}
theorem Wz {o:Op}{v:V}(e:Wy E o=some v): opE C.P E h o=some (v,h):=by
  unfold Wy at e
  simp only [Oe] at e
  split at e
  · exact bz e
  · exact eT e
  · split at e
    · rename_i I
      cases e; exact oK I
    · cases e
  · split at e
    · rename_i I
      exact cO I e
    · cases e
  · split at e
    · rename_i I; exact qW I e
    · rename_i I; exact kj I e
    · cases e
  · cases e
theorem KD : ∀(n:Nat) (m:Md) (E:List (Nat×V)) (K:List Code),runM ay n m E K=some (m',E',K')→Gl C ay h Q m' E' K'→Gl C ay h Q m E K:=by
  intro n
  induction n with
  | zero=>intro m E K e hw; simp only [runM,aq,aF] at e; obtain ⟨rfl,rfl,rfl⟩:=e; exact hw
  | succ n I =>
    intro m E K e hw
    unfold runM at e
    split at e
    · rename_i he; cases he
    · rename_i he; cases he
      exact aA.nil (I _ _ _ e hw)
    · rename_i he; cases he
      split at e
      · rename_i d hg hd
        cases J:Nat.blt d ay with
        | false=>rw [J] at e; cases e
        | true=>rw [J] at e; exact aA.no hg hd J (I _ _ _ e hw)
      · rename_i d hg hd
        split at e
        · rename_i v hv
          cases J:Nat.blt d ay with
          | false=>rw [J] at e; cases e
          | true=>rw [J] at e; exact aA.op hg hd J (Wz hv) (I _ _ _ e hw)
        · cases e
      · cases e
    · rename_i he; cases he
      exact WP.seq (I _ _ _ e hw)
    · rename_i he; cases he
      exact WP.region rfl (I _ _ _ e hw)
    · rename_i he; cases he
      rw [Oe] at e
      split at e
      · rename_i hx; exact WP.cond hx (I _ _ _ e hw)
      · rename_i hx; exact WP.cond hx (I _ _ _ e hw)
      · cases e
    · rename_i he; cases he
      exact WP.skip (I _ _ _ e hw)
    · cases e
theorem zk (n:Nat)[a:Hr C ay R Q](e:runM ay n (.o L l) E (Hr.K C ay R)=some (m',E',K'))(hw:Gl C ay h Q m' E' K'): aA C ay L l E h R:=by
  rw [a.eq]; exact KD n (.o L l) E _ e hw
theorem zK {I:Ex→List (Nat×V)→H→Prop}(n:Nat)[a:Tb C ay I Q](e:runM ay n (.c f) E (Tb.K C ay I)=some (m',E',K'))(hw:Gl C ay h Q m' E' K'): WP C ay f E h I:=by
  rw [a.eq]; exact KD n (.c f) E _ e hw
end
section
variable {C:cL} {ay:Nat} {L l rest:List Oper} {o:Oper} {E:List (Nat×V)} {h h₁:H} {d:Nat}
def OpR (C:cL)(E:List (Nat×V))(h:H)(o:Oper)(R:V→H→Prop): Prop:=∃v h₁,R v h₁∧∀env,jB env E→∃N,evOp C (ev C N) env h o=some (v,h₁)
theorem OpR.call {cl:Go.Call}{x:Operand}{k:FuncId}{first cap args:List V}{R:V→H→Prop}(J:o.op=.call cl)(hc:cl.callee=.value x)(hx:lookO E x=some (.fn (.func k) first cap))
 (ha:lookArgs E cl.args.toList=some args)(I:Am.Call C k (first++(args++cap)) h R): OpR C E h o R:=by
 obtain ⟨v,h₁,yO,hr⟩:=I
 exact ⟨v,h₁,hr,fun env hE=>Fk hE J hc hx ha yO⟩
theorem OpR.of {v:V}{R:V→H→Prop}(ho:opE C.P E h o.op=some (v,h₁))(I:R v h₁): OpR C E h o R:=⟨v,h₁,I,fun _ J=>⟨0,CM J ho⟩⟩
theorem aA.any {R:List (Nat×V)→H→Prop}{xo:V→H→Prop}(hg:wantE L E o.guard=some true)(hd:o.dst=some d)(hn:Nat.blt d ay=true)(ho:OpR C E h o xo)
 (hw:∀v h₁,xo v h₁→aA C ay L rest ((d,v)::E) h₁ R): aA C ay L (o::rest) E h R:=by
 intro env J
 obtain ⟨v,h₁,hr,jZ⟩:=ho
 obtain ⟨N,hN⟩:=jZ env J
 obtain ⟨M,I,h',E',h1,h2,h3⟩:=hw v h₁ hr (env.set d (some v)) (J.set d v)
 refine ⟨Nat.max N M,I,h',E',?_,h2,h3⟩
 simp only [evOps,kz J hg,ag,my (fA (o5 N M)) hN,St.put,hd,hn]
 exact p_ (fA (oZ N M)) _ _ _ h1
def L7 : List (Env×V)→List (List (Nat×V)×V)→Prop
 | [],[]=>True
 | x::l,y::m=>jB x.1 y.1∧x.2=y.2∧L7 l m
 | _,_=>False
def aB (C:cL)(ay:Nat)(L l:List Oper)(E:List (Nat×V))(h:H)(hs:List H)(Q:List (Nat×V)→H→List (List (Nat×V)×V)→List H→Prop): Prop :=
 ∀env,jB env E→∃N I h' E' tr ts J,trace C (ev C N) L l ⟨env,ay,h⟩ hs=some (tr,J,⟨I,ay,h'⟩)∧jB I E'∧L7 tr ts∧Q E' h' ts J
variable {hs:List H} {Q:List (Nat×V)→H→List (List (Nat×V)×V)→List H→Prop}
theorem aB.nil (I:Q E h [] hs): aB C ay L [] E h hs Q:=fun env J=>⟨0,env,h,E,[],[],hs,rfl,J,aa,I⟩
theorem aB.any {xo:V→H→Prop}{e:Bool}(hg:wantE L E o.guard=some true)(hd:o.dst=some d)(hn:Nat.blt d ay=true)(he:isEff C o.op=e)(ho:OpR C E h o xo)
 (hw:∀v h₁,xo v h₁→aB C ay L rest ((d,v)::E) h₁ (cond e (hs++[h₁]) hs) fun E' h' ts I=>Q E' h' ((E,v)::ts) I): aB C ay L (o::rest) E h hs Q:=by
 intro env hE
 obtain ⟨v,h₁,hr,jZ⟩:=ho
 obtain ⟨N,hN⟩:=jZ env hE
 obtain ⟨M,J,h',E',tr,ts,I,h1,h2,h3,h4⟩:=hw v h₁ hr (env.set d (some v)) (hE.set d v)
 refine ⟨Nat.max N M,J,h',E',(env,v)::tr,(E,v)::ts,I,?_,h2,⟨hE,rfl,h3⟩,h4⟩
 simp only [trace,kz hE hg,ag,my (fA (o5 N M)) hN,St.put,hd,hn,he]
 rw [xm (fA (oZ N M)) _ _ _ _ h1]
theorem aB.i_ {xo:V→H→Prop}{e:Bool}(hg:wantE L E o.guard=some true)(hd:o.dst=none)(he:isEff C o.op=e)(ho:OpR C E h o xo)
 (hw:∀v h₁,xo v h₁→aB C ay L rest E h₁ (cond e (hs++[h₁]) hs) fun E' h' ts I=>Q E' h' ((E,v)::ts) I): aB C ay L (o::rest) E h hs Q:=by
 intro env hE
 obtain ⟨v,h₁,hr,jZ⟩:=ho
 obtain ⟨N,hN⟩:=jZ env hE
 obtain ⟨M,J,h',E',tr,ts,I,h1,h2,h3,h4⟩:=hw v h₁ hr env hE
 refine ⟨Nat.max N M,J,h',E',(env,v)::tr,(E,v)::ts,I,?_,h2,⟨hE,rfl,h3⟩,h4⟩
 simp only [trace,kz hE hg,ag,my (fA (o5 N M)) hN,St.put,hd,he]
 rw [xm (fA (oZ N M)) _ _ _ _ h1]
theorem aB.op {v:V}(J:wantE L E o.guard=some true)(hd:o.dst=some d)(hn:Nat.blt d ay=true)(he:isEff C o.op=false)(ho:opE C.P E h o.op=some (v,h))
 (hw:aB C ay L rest ((d,v)::E) h hs fun E' h' ts I=>Q E' h' ((E,v)::ts) I): aB C ay L (o::rest) E h hs Q :=
 aB.any J hd hn he (OpR.of (R:=fun v' h'=>v'=v∧h'=h) ho ⟨rfl,rfl⟩) (fun v' h' hr=>by obtain ⟨rfl,rfl⟩:=hr; exact hw)
theorem aB.no {e:Bool}(hg:wantE L E o.guard=some false)(hd:o.dst=some d)(hn:Nat.blt d ay=true)(he:isEff C o.op=e)
 (hw:aB C ay L rest ((d,bV)::E) h (cond e (hs++[h]) hs) fun E' h' ts I=>Q E' h' ((E,bV)::ts) I): aB C ay L (o::rest) E h hs Q:=by
 intro env hE
 obtain ⟨M,J,h',E',tr,ts,I,h1,h2,h3,h4⟩:=hw (env.set d (some bV)) (hE.set d bV)
 refine ⟨M,J,h',E',(env,bV)::tr,(E,bV)::ts,I,?_,h2,⟨hE,rfl,h3⟩,h4⟩
 simp only [trace,kz hE hg,az,St.put,hd,hn,ag,he]
 rw [h1]
def Ht (C:cL)(L:List Oper)(o:Oper)(x:List (Nat×V)×V)(h:H): Prop :=
 wantE L x.1 o.guard=some false∨(wantE L x.1 o.guard=some true∧(∃h',opE C.P x.1 h o.op=some (x.2,h'))∧x.2.beq x.2=true)
def GF (C:cL)(L:List Oper)(an es:List Nat)(hs:List H): List Oper→List (List (Nat×V)×V)→Nat→Prop
 | o::l,x::tr,i=>(isEff C o.op=true∨(kQ ((nth an i).getD 0) es&&Nat.beq (ij ((nth an i).getD 0) es) (j5 an i es))=true ∨
   (kQ ((nth an i).getD 0) es=true∧∀h∈(hs.drop (ij ((nth an i).getD 0) es)).take (j5 an i es+1-ij ((nth an i).getD 0) es),Ht C L o x h))∧GF C L an es hs l tr (i+1)
 | [],[],_=>True
 | _,_,_=>False
theorem Of {self:Self}{x:Env×V}{y:List (Nat×V)×V}(J:jB x.1 y.1)(hv:x.2=y.2): ∀(hs:List H),(∀h∈hs,Ht C L o y h)→sameIn C self L o x hs=true:=by
 intro hs
 induction hs with
 | nil=>intro _; rfl
 | cons h hs ih =>
  intro I
  simp only [sameIn]
  rcases I h bu with hg | ⟨hg,⟨h',ho⟩,hb⟩
  ·rw [kz J hg,az]
  ·rw [kz J hg,ag,CM J ho]
   simp only
   rw [hv,hb,ag]
   exact ih (fun h hh=>I h (bn _ hh))
theorem Og {self:Self}{an es:List Nat}: ∀(l:List Oper) (tr:List (Env×V)) (J:List (List (Nat×V)×V)) (i:Nat),L7 tr J→GF C L an es hs l J i→stayOk C self L an es hs l tr i=true:=by
 intro l
 induction l with
 | nil=>intro tr J i hn fN; cases tr <;> cases J <;> first | rfl | (exact fN.elim) | (exact hn.elim)
 | cons o l ih =>
  intro tr J i hn fN
  cases tr with
  | nil=>cases J with
   | nil=>exact fN.elim
   | cons y J=>exact hn.elim
  | cons x tr =>
   cases J with
   | nil=>exact hn.elim
   | cons y J =>
    obtain ⟨n1,n2,n3⟩:=hn
    obtain ⟨s1,s2⟩:=fN
    simp only [stayOk]
    have I:=ih tr J (i+1) n3 s2
    cases he:isEff C o.op with
    | true=>rw [ag]; exact I
    | false =>
     rw [az]
     rcases s1 with s1 | s1 | ⟨s1,s3⟩
     ·rw [he] at s1; cases s1
     ·rw [s1,ag]; exact I
     ·cases hq:(kQ ((nth an i).getD 0) es&&Nat.beq (ij ((nth an i).getD 0) es) (j5 an i es)) with
      | true=>rw [ag]; exact I
      | false=>rw [az,s1,Of n1 n2 _ s3,iu,ag]; exact I
theorem WP.draw {id:Nat}{ops:Array Oper}{Q:Ex→List (Nat×V)→H→Prop}(hl:ops.toList=L)(J:nq C false L=true)
 (hw:aB C ay L L E h [h] fun E' h' ts hs=>GF C L (ancs L []) (dA C L 0) hs L ts 0∧Q .normal E' h'): WP C ay (.region id ops true) E h Q:=by
 intro env hE
 obtain ⟨N,I,h',E',tr,ts,Fj,h1,h2,h3,h4,h5⟩:=hw env hE
 refine ⟨N+1,.normal,I,h',E',?_,h2,h5⟩
 subst hl
 rw [jj]
 simp only [evStep,ag,lS,J,h1,Og _ _ _ _ h3 h4]
end
def planOk (C:cL)(an es:List Nat): List Oper→List (Option (Nat×Nat))→Nat→Bool
 | [],[],_=>true
 | o::l,p::ps,i=>(match p with
   | none=>isEff C o.op||(kQ ((nth an i).getD 0) es&&Nat.beq (ij ((nth an i).getD 0) es) (j5 an i es))
   | some (lo,n)=>kQ ((nth an i).getD 0) es&&Nat.beq lo (ij ((nth an i).getD 0) es)&&Nat.beq n (j5 an i es+1-ij ((nth an i).getD 0) es))&&planOk C an es l ps (i+1)
 | _,_,_=>false
def CV (C:cL)(L:List Oper)(hs:List H): List Oper→List (List (Nat×V)×V)→List (Option (Nat×Nat))→Prop
 | o::l,x::tr,p::ps=>(match p with
   | none=>True
   | some (lo,n)=>∀h∈(hs.drop lo).take n,Ht C L o x h)∧CV C L hs l tr ps
 | [],[],_=>True
 | _,_,_=>False
theorem CV.stay {C:cL}{L:List Oper}{hs:List H}{an es:List Nat}: ∀(l:List Oper) (I:List (List (Nat×V)×V)) (ps:List (Option (Nat×Nat))) (i:Nat),planOk C an es l ps i=true→CV C L hs l I ps→GF C L an es hs l I i:=by
 intro l
 induction l with
 | nil=>intro I ps i h1 h2; cases I with
  | nil=>trivial
  | cons x I=>exact h2.elim
 | cons o l ih =>
  intro I ps i h1 h2
  cases I with
  | nil=>cases ps <;> exact h2.elim
  | cons x I =>
   cases ps with
   | nil=>exact h2.elim
   | cons p ps =>
    simp only [planOk,aO] at h1
    obtain ⟨J,a2⟩:=h1
    obtain ⟨b1,b2⟩:=h2
    refine ⟨?_,ih I ps (i+1) a2 b2⟩
    cases p with
    | none =>
     simp only [nP] at J
     rcases J with J | J
     ·exact .inl J
     ·exact .inr (.inl J)
    | some q =>
     obtain ⟨lo,n⟩:=q
     simp only [aO,beq_iff] at J
     obtain ⟨⟨c1,c2⟩,c3⟩:=J
     refine .inr (.inr ⟨c1,?_⟩)
     subst c2
     subst c3
     exact b1
theorem WP.drawn {C:cL}{ay:Nat}{L:List Oper}{E:List (Nat×V)}{h:H}{id:Nat}{ops:Array Oper}{Q:Ex→List (Nat×V)→H→Prop}(ps:List (Option (Nat×Nat)))(hl:ops.toList=L)(J:nq C false L=true)
 (hp:planOk C (ancs L []) (dA C L 0) L ps 0=true)
 (hw:aB C ay L L E h [h] fun E' h' ts hs=>CV C L hs L ts ps∧Q .normal E' h'): WP C ay (.region id ops true) E h Q:=by
 refine WP.draw hl J ?_
 intro env hE
 obtain ⟨N,I,h',E',tr,ts,Fj,h1,h2,h3,h4,h5⟩:=hw env hE
 exact ⟨N,I,h',E',tr,ts,Fj,h1,h2,h3,CV.stay _ _ _ _ hp h4,h5⟩
theorem dW {a b:H}{l:List H}{p:H→Prop}(J:p a)(hb:p b): ∀x∈((a::b::l).drop 0).take 2,p x:=by
 intro x I
 simp only [eu,sR,mX,fq,lP,qT] at I
 rcases I with rfl | rfl
 ·exact J
 ·exact hb
theorem yW {a b c:H}{l:List H}{p:H→Prop}(J:p a)(hb:p b)(hc:p c): ∀x∈((a::b::c::l).drop 0).take 3,p x:=by
 intro x I
 simp only [eu,sR,mX,fq,lP,qT] at I
 rcases I with rfl | rfl | rfl
 ·exact J
 ·exact hb
 ·exact hc
theorem dN (k:IntKind): ikBeq k k=true:=by cases k <;> rfl
theorem lz (n:Int): intBeq n n=true:=by cases n <;> simp [intBeq]
theorem BA (c:Cap): c.beq c=true:=by cases c <;> simp [Cap.beq]
theorem CW (a b c:Nat)(d:Cap): (V.sl a b c d).beq (.sl a b c d)=true:=by simp [V.beq,BA]
theorem dz {h:H}{v:V}{l:List Nat}(hv:View h v l): v.beq v=true:=by
 obtain ⟨_,hv⟩:=hv
 rcases hv with ⟨rfl | ⟨I,rfl⟩,_⟩ | ⟨id,off,cap,n,cs,st,rfl,_⟩
 ·simp [V.beq]
 ·simp [V.beq]
 ·exact CW _ _ _ _
section
variable {C:cL} {ay:Nat} {L rest:List Oper} {E:List (Nat×V)} {h:H} {hs:List H} {Q:List (Nat×V)→H→List (List (Nat×V)×V)→List H→Prop} {o:Oper} {d i:Nat} {v u r:V} {x y a b:Operand} {t t':TypeId}
theorem zM (e:(o.op,wantE L E o.guard,o.dst,Nat.blt d ay,isEff C o.op,lookO E x)=(Op.move x,some true,some d,true,false,some v))(hw:aB C ay L rest ((d,v)::E) h hs fun E' h' J I=>Q E' h' ((E,v)::J) I): aB C ay L (o::rest) E h hs Q:=by
  simp only [aF] at e; exact aB.op e.2.1 e.2.2.1 e.2.2.2.1 e.2.2.2.2.1 (by rw [e.1]; exact bz e.2.2.2.2.2) hw
theorem zA (e:(o.op,wantE L E o.guard,o.dst,Nat.blt d ay,isEff C o.op,lookO E x)=(Op.assign x,some true,some d,true,false,some v))(hw:aB C ay L rest ((d,v)::E) h hs fun E' h' J I=>Q E' h' ((E,v)::J) I): aB C ay L (o::rest) E h hs Q:=by
  simp only [aF] at e; exact aB.op e.2.1 e.2.2.1 e.2.2.2.1 e.2.2.2.2.1 (by rw [e.1]; exact eT e.2.2.2.2.2) hw
theorem zN {j k:Nat}(e:(o.op,wantE L E o.guard,o.dst,Nat.blt d ay,isEff C o.op,lookO E x)=(Op.nilCheck x,some true,some d,true,false,some (V.ptr j k)))(hw:aB C ay L rest ((d,.ptr j k)::E) h hs fun E' h' J I=>Q E' h' ((E,.ptr j k)::J) I): aB C ay L (o::rest) E h hs Q:=by
  simp only [aF] at e; exact aB.op e.2.1 e.2.2.1 e.2.2.2.1 e.2.2.2.2.1 (by rw [e.1]; exact oK e.2.2.2.2.2) hw
theorem zF (e:(o.op,wantE L E o.guard,o.dst,Nat.blt d ay,isEff C o.op,lookO E x)=(Op.fieldAddr t x i,some true,some d,true,false,some v))(J:fieldAddrV C.P t v i=some r)(hw:aB C ay L rest ((d,r)::E) h hs fun E' h' ts I=>Q E' h' ((E,r)::ts) I): aB C ay L (o::rest) E h hs Q:=by
  simp only [aF] at e; exact aB.op e.2.1 e.2.2.1 e.2.2.2.1 e.2.2.2.2.1 (by rw [e.1]; exact lY e.2.2.2.2.2 J) hw
theorem zL (e:(o.op,wantE L E o.guard,o.dst,Nat.blt d ay,isEff C o.op,lookO E x)=(Op.load t x,some true,some d,true,false,some v))(J:loadV C.P h t v=some r)(hw:aB C ay L rest ((d,r)::E) h hs fun E' h' ts I=>Q E' h' ((E,r)::ts) I): aB C ay L (o::rest) E h hs Q:=by
  simp only [aF] at e; exact aB.op e.2.1 e.2.2.1 e.2.2.2.1 e.2.2.2.2.1 (by rw [e.1]; exact bh e.2.2.2.2.2 J) hw
theorem zO (e:(wantE L E o.guard,o.dst,Nat.blt d ay,isEff C o.op)=(some true,some d,true,false))(ho:opE C.P E h o.op=some (v,h))(hw:aB C ay L rest ((d,v)::E) h hs fun E' h' J I=>Q E' h' ((E,v)::J) I): aB C ay L (o::rest) E h hs Q:=by
  simp only [aF] at e; exact aB.op e.1 e.2.1 e.2.2.1 e.2.2.2 ho hw
end
end Go.Proofs.YtefepnnfphdkpaaGreat.Am
