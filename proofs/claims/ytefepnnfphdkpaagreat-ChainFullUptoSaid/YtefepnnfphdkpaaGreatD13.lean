/- ChainFull: a part of its proof; conditions: its statement's. -/
import Derived.Test.YtefepnnfphdkpaaGreatD11
import Derived.Test.YtefepnnfphdkpaaGreatD12
namespace Go.Proofs.YtefepnnfphdkpaaGreat.Am
open Go
def jV (h:H): Prop:=∀id o,T.get h.tr id=some o→id<h.next
theorem jV.new {h:H}(hw:jV h)(o:Obj): jV (h.new o):=by
 intro id q I
 rw [gh] at I
 show id<h.next+1
 split at I
 ·omega
 ·exact Nat.lt_succ_of_lt (hw id q I)
theorem jV.put {h:H}(hw:jV h){id:Nat}(J:id<h.next)(o:Option Obj): jV (h.put id o):=by
 intro j q I
 rw [cj] at I
 show j<h.next
 split at I
 ·omega
 ·exact hw j q I
structure c9 (k:Nat)(S:List Nat)(h h':H): Prop where
 wf:jV h'
 le:h.next≤h'.next
 bd:h'.next≤h.next+k
 get:∀id,id<h.next→id∉S→T.get h'.tr id=T.get h.tr id
theorem c9.refl {h:H}(hw:jV h)(S:List Nat): c9 0 S h h:=⟨hw,aD _,aD _,fun _ _ _=>rfl⟩
theorem c9.trans {k k':Nat}{S S':List Nat}{h h' I:H}(a:c9 k S h h')(b:c9 k' S' h' I)(hs:∀i∈S',i∈S∨h.next≤i): c9 (k+k') S h I:=by
 refine ⟨b.wf,cg a.le b.le,by have:=a.bd; have:=b.bd; omega,fun id J hn => ?_⟩
 rw [b.get id (gH J a.le) (fun hm => ?_),a.get id J hn]
 rcases hs id hm with h1 | h1
 ·exact hn h1
 ·omega
theorem c9.mono {k k':Nat}{S S':List Nat}{h h':H}(a:c9 k S h h')(J:k≤k')(hs:∀i∈S,i∈S'): c9 k' S' h h' :=
 ⟨a.wf,a.le,cg a.bd (wN J _),fun id I hn=>a.get id I (fun hm=>hn (hs id hm))⟩
theorem c9.row {k:Nat}{S:List Nat}{h h':H}(a:c9 k S h h')(hw:jV h){id:Nat}{o:Obj}(I:T.get h.tr id=some o)(J:id∉S): T.get h'.tr id=some o:=by
 rw [a.get id (hw id o I) J]; exact I
theorem c9.xj {h:H}(hw:jV h)(o:Obj): c9 1 [] h (h.new o) :=
 ⟨hw.new o,qA _,aD _,fun id I _=>by rw [gh,ai (by omega)]⟩
theorem c9.HZ {h:H}(hw:jV h){id:Nat}(I:id<h.next)(o:Option Obj): c9 0 [id] h (h.put id o) :=
 ⟨hw.put I o,aD _,aD _,fun j _ J=>by rw [cj,ai (fun e=>J (by simp [e]))]⟩
theorem cG (l:List Nat): (ofBytes l).length=l.length:=by simp [ofBytes]
theorem sA (l m:List Nat): ofBytes (l++m)=ofBytes l++ofBytes m:=by simp [ofBytes]
def View (h:H)(v:V)(l:List Nat): Prop:=(∀b∈l,b<256)∧(((v=.bn∨∃a,v=.sle a)∧l=[]) ∨
 ∃id off cap n cs st,v=.sl id off l.length cap∧T.get h.tr id=some (.cells n cs st)∧cs.length=n∧off+l.length≤n∧(cs.drop off).take l.length=ofBytes l ∧
  (match cap with | .exact c=>l.length≤c | .rest e _=>e=1))
def iN (h:H)(v:V)(l:List Nat): Prop:=(∀b∈l,b<256)∧((v=.bn∧l=[]) ∨
 (∃id cs c,v=.sl id 0 l.length (.exact c)∧T.get h.tr id=some (.cells c (ofBytes l++cs) false)∧l.length+cs.length=c) ∨
 (∃id,v=.sl id 0 l.length (.rest 1 0)∧T.get h.tr id=some (.cells l.length (ofBytes l) false)∧1≤l.length))
def rowIds : V→List Nat
 | .sl id _ _ _=>[id]
 | _=>[]
theorem iN.view {h:H}{v:V}{l:List Nat}(I:iN h v l): View h v l:=by
 obtain ⟨hl,I⟩:=I
 refine ⟨hl,?_⟩
 rcases I with I | ⟨id,cs,c,rfl,J,hc⟩ | ⟨id,rfl,J,h1⟩
 ·exact .inl ⟨.inl I.1,I.2⟩
 ·refine .inr ⟨id,0,.exact c,c,_,false,rfl,J,by simp [cG,hc],by omega,?_,by show l.length≤c; omega⟩
  rw [fg,mW (cG l)]
 ·refine .inr ⟨id,0,.rest 1 0,_,_,false,rfl,J,cG l,by omega,?_,rfl⟩
  rw [fg]
  exact dG (by rw [cG]; exact aD _)
theorem View.kU {k:Nat}{S:List Nat}{h h':H}{v:V}{l:List Nat}(hv:View h v l)(hw:jV h)(I:c9 k S h h')(J:∀i∈rowIds v,i∉S): View h' v l:=by
 obtain ⟨hl,hv⟩:=hv
 refine ⟨hl,?_⟩
 rcases hv with hv | ⟨id,off,cap,n,cs,st,rfl,hg,h1,h2,h3,h4⟩
 ·exact .inl hv
 ·exact .inr ⟨id,off,cap,n,cs,st,rfl,I.row hw hg (J id (by simp [rowIds])),h1,h2,h3,h4⟩
theorem iN.kU {k:Nat}{S:List Nat}{h h':H}{v:V}{l:List Nat}(hv:iN h v l)(hw:jV h)(J:c9 k S h h')(hn:∀i∈rowIds v,i∉S): iN h' v l:=by
 obtain ⟨hl,hv⟩:=hv
 refine ⟨hl,?_⟩
 rcases hv with hv | ⟨id,cs,c,rfl,I,hc⟩ | ⟨id,rfl,I,h1⟩
 ·exact .inl hv
 ·exact .inr (.inl ⟨id,cs,c,rfl,J.row hw I (hn id (by simp [rowIds])),hc⟩)
 ·exact .inr (.inr ⟨id,rfl,J.row hw I (hn id (by simp [rowIds])),h1⟩)
theorem View.len {h:H}{v:V}{l:List Nat}(hv:View h v l): lenV Tryz.prog h 28 v=some (.int .i64 l.length):=by
 obtain ⟨_,hv⟩:=hv
 rcases hv with ⟨rfl | ⟨I,rfl⟩,rfl⟩ | ⟨id,off,cap,n,cs,st,rfl,_⟩ <;> simp [lenV,aJ]
theorem View.rdN {h:H}{id off len:Nat}{cap:Cap}{l:List Nat}(hv:View h (.sl id off len cap) l): len=l.length∧rdN h id off len=some (ofBytes l):=by
 obtain ⟨_,hv⟩:=hv
 rcases hv with ⟨I,_⟩ | ⟨xY,off',J,n,cs,st,I,hg,h1,h2,h3,h4⟩
 ·rcases I with I | ⟨_,I⟩ <;> cases I
 ·injection I with e1 e2 e3 e4
  subst e1; subst e2; subst e3
  refine ⟨rfl,?_⟩
  unfold Am.rdN
  simp only [hg]
  rw [aE.2 h2,af]
  cases hc:(Nat.beq off 0&&Nat.beq l.length n) with
  | true =>
   simp only [aH,beq_iff] at hc
   obtain ⟨rfl,hn⟩:=hc
   rw [af,←h3,fg,dG (by omega)]
  | false=>rw [ay,h3]
theorem BC : ∃i,Tryz.prog.info? 5=some i∧i.size=1∧i.bytes=1:=by
 refine ⟨_,(show Tryz.prog.info? 5=some ((Tryz.prog.info? 5).getD default) by kernel_rfl),by kernel_rfl,by kernel_rfl⟩
theorem ow : zeroT Tryz.prog 5=some (.int .u8 0):=by kernel_rfl
theorem H6 {h:H}{x:V}{m:List Nat}(J:View h x m): srcV h 1 x=some (ofBytes m,m.length):=by
 obtain ⟨hl,I⟩:=J
 rcases I with ⟨rfl | ⟨ea,rfl⟩,rfl⟩ | ⟨id,off,cap,n,cs,st,rfl,hg,h1,h2,h3,h4⟩
 ·rfl
 ·rfl
 ·simp only [srcV,cC]
  rw [(View.rdN (l:=m) ⟨hl,.inr ⟨id,off,cap,n,cs,st,rfl,hg,h1,h2,h3,h4⟩⟩).2]
  rfl
theorem vC {h:H}{s x:V}{l m:List Nat}(hw:jV h)(hs:iN h s l)(hx:View h x m)(eA:l.length+m.length≤140737488355328):
  ∃v' h',appendV Tryz.prog h #[28,28] s x=some (v',h')∧iN h' v' (l++m)∧c9 1 (rowIds s) h h'∧(∀i∈rowIds v',i∈rowIds s∨h.next≤i):=by
 obtain ⟨i,hi,i1,i2⟩:=BC
 have J:∀b∈l++m,b<256:=fun b hb=>by
  rcases List.mem_append.1 hb with hb | hb
  ·exact hs.1 b hb
  ·exact hx.1 b hb
 have RK:jB (l.length+m.length) 1=true:=ue.2 ⟨eA,by omega⟩
 unfold appendV
 simp only [aJ,hi,ow,i1,i2,V.cells,aN,bG,H6 hx]
 rw [show (Nat.ble 1 1&&Nat.ble 1 4096&&Nat.beq (0+1) 1)=true from rfl,af]
 cases hm:Nat.beq m.length 0 with
 | true =>
  have y9:m=[]:=j0 (beq_iff.1 hm)
  subst y9
  rw [af,ff]
  have I:=hs
  obtain ⟨_,I⟩:=I
  rcases I with ⟨rfl,rfl⟩ | ⟨id,cs,c,rfl,hg,hc⟩ | ⟨id,rfl,hg,h1⟩
  ·exact ⟨_,_,rfl,hs,(c9.refl hw _).mono (fh _) (fun _ h=>h),fun i hi=>.inl hi⟩
  ·exact ⟨_,_,rfl,hs,(c9.refl hw _).mono (fh _) (fun _ h=>h),fun i hi=>.inl hi⟩
  ·exact ⟨_,_,rfl,hs,(c9.refl hw _).mono (fh _) (fun _ h=>h),fun i hi=>.inl hi⟩
 | false =>
  have y9:1≤m.length:=by
   rcases sP m.length with h0 | h0
   ·rw [gT h0] at hm; cases hm
   ·exact h0
  rw [ay]
  have uf:∀(σ:H) (old:List Nat),jV σ→1≤(old++m).length→(∀b∈old++m,b<256)→iN (lX σ 1 (ofBytes old) (ofBytes m) (old.length+m.length)).2 (lX σ 1 (ofBytes old) (ofBytes m) (old.length+m.length)).1 (old++m):=by
   intro σ old _ h1 h2
   refine ⟨h2,.inr (.inr ⟨σ.next,?_,?_,h1⟩)⟩
   ·simp only [lX,bD]
   ·simp only [lX]
    rw [gh,ax rfl,cC,bD,sA]
  have I:=hs
  obtain ⟨_,I⟩:=I
  rcases I with ⟨rfl,rfl⟩ | ⟨id,cs,c,rfl,hg,hc⟩ | ⟨id,rfl,hg,h1⟩
  ·simp only
   have VS:jB m.length 1=true:=by simpa using RK
   rw [VS,af]
   have:=uf h [] hw (by simpa using y9) (by simpa using hx.1)
   simp only [bG,dA,c_] at this
   exact ⟨_,_,rfl,by rw [c_]; exact this,(c9.xj hw _).mono (aD _) (fun i hi=>by simp at hi),fun i hi=>.inr (by simp [rowIds] at hi; omega)⟩
  ·simp only [cC,dA]
   have hv:=iN.view hs
   cases hq:Nat.ble (l.length+m.length) c with
   | true =>
    have mu:=aE.1 hq
    rw [af]
    unfold wrN
    simp only [hg,cG]
    rw [hq,af]
    simp only
    have yC:(cond (Nat.beq l.length 0&&Nat.beq m.length c) (ofBytes m) ((ofBytes l++cs).take l.length++(ofBytes m++(ofBytes l++cs).drop (l.length+m.length))))=ofBytes (l++m)++cs.drop m.length:=by
     have e1:(ofBytes l++cs).take l.length=ofBytes l:=mW (cG l)
     have e2:(ofBytes l++cs).drop (l.length+m.length)=cs.drop m.length:=by
      rw [wQ,cG,show l.length+m.length-l.length=m.length from by omega,fI (by rw [cG]; omega),c_]
     cases hz:(Nat.beq l.length 0&&Nat.beq m.length c) with
     | true =>
      simp only [aH,beq_iff] at hz
      have vn:l=[]:=j0 hz.1
      subst vn
      have iV:cs.drop m.length=[]:=fI (by simp at hc; omega)
      simp [iV]
     | false=>rw [ay,e1,e2,sA,ep]
    rw [yC]
    refine ⟨_,_,rfl,⟨J,.inr (.inl ⟨id,cs.drop m.length,c,by simp,?_,by simp; omega⟩)⟩,(c9.HZ hw (hw id _ hg) _).mono (fh _) (fun i hi=>by simpa [rowIds] using hi),fun i hi=>.inl (by simpa [rowIds] using hi)⟩
    rw [cj,ax rfl]
   | false =>
    rw [ay,RK,af,hv.rdN.2]
    simp only
    exact ⟨_,_,rfl,uf h l hw (by simp; omega) J,(c9.xj hw _).mono (aD _) (fun i hi=>by simp at hi),fun i hi=>.inr (by simp [rowIds] at hi; omega)⟩
  ·simp only [dn,af,cC,dA]
   have hv:=iN.view hs
   have Dh:jf h id 0 1=l.length:=by simp [jf,hg]
   have hf:Nat.ble (l.length+m.length) l.length=false:=by
    cases hq:Nat.ble (l.length+m.length) l.length with
    | true=>have:=aE.1 hq; omega
    | false=>rfl
   rw [Dh,hf,ay,RK,show Nat.ble 2 (l.length+m.length)=true from aE.2 (by omega),gK,af,hv.rdN.2,hg]
   simp only
   have mA:jV (h.put id none):=hw.put (hw id _ hg) _
   refine ⟨_,_,rfl,uf (h.put id none) l mA (by simp; omega) J,?_,fun i hi=>.inr (by simp [rowIds,H.put] at hi; omega)⟩
   refine ((c9.HZ hw (hw id _ hg) none).trans (S':=[]) (c9.xj mA _) (fun i hi=>by simp at hi)).mono (aD _) (fun i hi=>by simpa [rowIds] using hi)
section
variable {P:Program} {E:List (Nat×V)} {h h₁:H} {x y a b:Operand} {v u r:V}
theorem b8 (I:lookO E x=some v): opE P E h (.move x)=some (v,h):=by simp only [opE,iL,I]
theorem fD (I:lookO E x=some v): opE P E h (.assign x)=some (v,h):=by simp only [opE,iL,I]
theorem m8 (I:lookO E x=some (.bool true))(J:lookO E a=some v): opE P E h (.pick x a b)=some (v,h):=by simp only [opE,iL,I,af,J]
theorem kf (I:lookO E x=some (.bool false))(J:lookO E b=some v): opE P E h (.pick x a b)=some (v,h):=by simp only [opE,iL,I,ay,J]
theorem uo {i o:Nat}(I:lookO E x=some (.ptr i o)): opE P E h (.nilCheck x)=some (.ptr i o,h):=by simp only [opE,iL,I]
theorem nC {t i:Nat}(I:lookO E x=some v)(J:fieldAddrV P t v i=some r): opE P E h (.fieldAddr t x i)=some (r,h):=by simp only [opE,iL,I,J,aL]
theorem aS {t:TypeId}(I:lookO E x=some v)(J:loadV P h t v=some r): opE P E h (.load t x)=some (r,h):=by simp only [opE,iL,I,J,aL]
theorem Gu {t:TypeId}(I:lookO E x=some v)(J:lookO E y=some u)(hf:gd P h t v u=some h₁): opE P E h (.store t x y)=some (bJ,h₁):=by simp only [opE,rW,I,J,hf,lY]
theorem ag {op:BinOp}{t t':TypeId}(I:lookO E x=some v)(J:lookO E y=some u)(hf:binV P h op t x y v u=some r): opE P E h (.binOp op t x y t')=some (r,h):=by simp only [opE,rW,I,J,hf,aL]
theorem eY {op:UnOp}{t:TypeId}(I:lookO E x=some v)(J:unV op v=some r): opE P E h (.unOp op t x)=some (r,h):=by simp only [opE,iL,I,J,aL]
theorem cN {s d:TypeId}(I:lookO E x=some v)(J:convV P h s d v=some (r,h₁)): opE P E h (.convert s d x)=some (r,h₁):=by simp only [opE,iL,I,J]
theorem cn {t:TypeId}(I:lookO E x=some v)(J:lookO E y=some u)(hf:indexAddrV P t v u=some r): opE P E h (.indexAddr t x y)=some (r,h):=by simp only [opE,rW,I,J,hf,aL]
theorem DC {t:TypeId}(I:lookO E x=some v)(J:lookO E y=some u)(hf:indexV P t v u=some r): opE P E h (.index t x y)=some (r,h):=by simp only [opE,rW,I,J,hf,aL]
theorem rY {i:Nat}{l:List V}(I:lookO E x=some (.aX l))(J:nth l i=some r): opE P E h (.extract x i)=some (r,h):=by simp only [opE,iL,I,J,aL]
theorem cM {t:TypeId}{ps:Array (Nat×Operand)}{l:List (Nat×V)}(I:lookParts E ps.toList=some l)(J:buildV P t l=some r): opE P E h (.build t ps)=some (r,h):=by simp only [opE,I,J,aL]
theorem fR {t:TypeId}(I:lookO E x=some v)(hs:v.cells.all storable=true): opE P E h (.box t x)=some (.ptr h.next 0,newRow h v.cells):=by simp only [opE,iL,I,hs,af]
theorem cE {t:TypeId}(I:zeroT P t=some v): opE P E h (.alloc t)=some (.ptr h.next 0,newRow h v.cells):=by simp only [opE,I]
theorem l7 {t:TypeId}(I:lookO E x=some v)(J:makeIfaceV P t v=some r): opE P E h (.makeInterface t x)=some (r,h):=by simp only [opE,iL,I,J,aL]
theorem H7 {f:Fn}{p q:Array Operand}{l m:List V}(I:lookArgs E p.toList=some l)(J:lookArgs E q.toList=some m): opE P E h (.makeFunc f p q)=some (.fn f l m,h):=by simp only [opE,I,J]
theorem aO {c:Go.Call}{t:TypeId}(I:c.callee=.builtin .len)(J:lookArgs E c.args.toList=some [v])(ht:c.argTypes.toList=[t])(hf:lenV P h t v=some r): opE P E h (.call c)=some (r,h):=by
 simp only [opE,I,J,builtinV,ht,hf,gY]
theorem jL {c:Go.Call}(I:c.callee=.builtin .append)(J:lookArgs E c.args.toList=some [v,u])(hf:appendV P h c.argTypes v u=some (r,h₁)): opE P E h (.call c)=some (r,h₁):=by
 simp only [opE,I,J,builtinV,hf]
theorem qb {t:TypeId}(I:lookO E x=some v)(J:lookO E y=some u)(hf:makeSliceV P h t v u=some (r,h₁)): opE P E h (.makeSlice t x y)=some (r,h₁):=by simp only [opE,rW,I,J,hf]
theorem kg {t n:Nat}{ps:Array (Nat×Operand)}{l:List (Nat×V)}(I:lookParts E ps.toList=some l)(J:buildSliceV P h t n l=some (r,h₁)): opE P E h (.buildSlice t n ps)=some (r,h₁):=by simp only [opE,I,J]
theorem eF {t:TypeId}{lo hi mx:Option Operand}{p q m:Option V}{p' q' m':Option Nat}(I:lookO E x=some v)(J:lookOpt E lo=some p)(h2:lookOpt E hi=some q)(h3:lookOpt E mx=some m)
 (g1:ij p=some p')(g2:ij q=some q')(g3:ij m=some m')(hf:sliceV P h t v p' q' m'=some r): opE P E h (.slice t x lo hi mx)=some (r,h):=by simp only [opE,iL,I,J,h2,h3,g1,g2,g3,hf,aL]
theorem J3 {t:TypeId}{id off n:Nat}{cs:List V}{st:Bool}(I:b6 P t=some false)(J:T.get h.tr id=some (.cells n cs st))(hn:nth cs off=some v): loadV P h t (.ptr id off)=some v:=by
 simp only [loadV,I,uL,J,hn]
theorem c5 {t:TypeId}{id n:Nat}{cs:List V}{st:Bool}(I:b6 P t=some true)(hs:bk P t=some n)(J:T.get h.tr id=some (.cells n cs st)): loadV P h t (.ptr id 0)=some (.agg cs):=by
 simp only [loadV,I,hs,rdN,J,dA]
 rw [aE.2 (aD n),af,dn,dn]
 rfl
theorem iw {t:TypeId}{id n:Nat}{cs l:List V}(hw:jV h)(hs:bk P t=some n)(J:T.get h.tr id=some (.cells n cs false))(hl:l.length=n)(I:l.all storable=true):
  ∃h₁,gd P h t (.ptr id 0) (.agg l)=some h₁∧c9 0 [id] h h₁∧T.get h₁.tr id=some (.cells n l false):=by
 refine ⟨h.put id (some (.cells n l false)),?_,c9.HZ hw (hw _ _ J) _,by rw [cj,ax rfl]⟩
 simp only [gd,hs,V.cells,hl,I]
 rw [dn,gK,af]
 simp only [wrN,J,hl,dA]
 rw [aE.2 (aD n),af,dn,dn]
 rfl
end
section
variable {C:b9} {au:Nat} {E:List (Nat×V)} {h:H} {R:List (Nat×V)→H→Prop} {L rest:List Oper} {o:Oper} {d:Nat} {cs:List V}
end
section
variable {C:b9} {au:Nat} {E:List (Nat×V)} {h:H} {R:List (Nat×V)→H→Prop} {L rest:List Oper} {o:Oper} {d:Nat}
theorem Cd {h:H}(hw:jV h){b:Nat}(I:b<256):
  ∃v h₁,buildSliceV Tryz.prog h 28 1 [(0,.int .u8 b)]=some (v,h₁)∧iN h₁ v [b]∧c9 1 [] h h₁∧∀i∈rowIds v,h.next≤i:=by
 refine ⟨.sl h.next 0 1 (.exact 1),newRow h [.int .u8 b],?_,⟨by simpa using I,.inr (.inl ⟨h.next,[],1,rfl,?_,rfl⟩)⟩,c9.xj hw _,fun i hi=>by simp [rowIds] at hi; omega⟩
 ·simp only [buildSliceV,aJ,dM,ow,V.cells]
  rfl
 ·rw [newRow,gh,ax rfl]; rfl
theorem az.H8 {t:TypeId}{ps:Array (Nat×Operand)}{b:Nat}(J:C.P=Tryz.prog)(hw:jV h)(hg:wantE L E o.guard=some true)(hd:o.dst=some d)(hn:Nat.blt d au=true)(I:o.op=.buildSlice t 1 ps)(ht:t=28)
 (hx:lookParts E ps.toList=some [(0,.int .u8 (b:Int))])(hb:b<256)
 (hr:∀v h₁,iN h₁ v [b]→c9 1 [] h h₁→(∀i∈rowIds v,h.next≤i)→az C au L rest ((d,v)::E) h₁ R): az C au L (o::rest) E h R:=by
 obtain ⟨v,h₁,e1,e2,e3,e4⟩:=Cd hw hb
 refine az.op hg hd hn (v:=v) (h₁:=h₁) ?_ (hr v h₁ e2 e3 e4)
 rw [I,ht,J]
 exact kg hx e1
theorem az.app {c:Go.Call}{s x:V}{l m:List Nat}(hP:C.P=Tryz.prog)(hw:jV h)(hg:wantE L E o.guard=some true)(hd:o.dst=some d)(hn:Nat.blt d au=true)(I:o.op=.call c)(hc:c.callee=.builtin .append)
 (J:c.argTypes = #[28,28])(ha:lookArgs E c.args.toList=some [s,x])(hs:iN h s l)(hx:View h x m)(eA:l.length+m.length≤140737488355328)
 (hr:∀v h₁,iN h₁ v (l++m)→c9 1 (rowIds s) h h₁→(∀i∈rowIds v,i∈rowIds s∨h.next≤i)→az C au L rest ((d,v)::E) h₁ R): az C au L (o::rest) E h R:=by
 obtain ⟨v,h₁,e1,e2,e3,e4⟩:=vC hw hs hx eA
 refine az.op hg hd hn (v:=v) (h₁:=h₁) ?_ (hr v h₁ e2 e3 e4)
 rw [I,hP]
 exact jL hc ha (by rw [J]; exact e1)
theorem z8 {h:H}(hw:jV h){c:Nat}(J:c<1073741824):
  ∃v h₁,makeSliceV Tryz.prog h 28 (.int .i64 0) (.int .i64 (c:Int))=some (v,h₁)∧iN h₁ v []∧c9 1 [] h h₁∧∀i∈rowIds v,h.next≤i:=by
 obtain ⟨i,hi,i1,i2⟩:=BC
 refine ⟨.sl h.next 0 0 (.exact c),h.new (.cells c (repeatL [.int .u8 0] c) false),?_,⟨by simp,.inr (.inl ⟨h.next,repeatL [.int .u8 0] c,c,rfl,?_,?_⟩)⟩,c9.xj hw _,fun i hi=>by simp [rowIds] at hi; omega⟩
 ·simp only [makeSliceV,aJ,hi,ow,i1,i2,V.cells,aN,bG,bZ,cC]
  rw [show (decide ((0:Int)≤0)&&decide ((0:Int)≤(c:Int))&&decide ((c:Int)<1073741824)&&Nat.ble 1 4096&&Nat.beq (0+1) 1&&Nat.ble 1 1)=true by simp; omega,af]
  rfl
 ·rw [gh,ax rfl]; rfl
 ·have:∀n,(repeatL [V.int .u8 0] n).length=n:=fun n=>by
   induction n with
   | zero=>rfl
   | succ n I=>simp [repeatL,I]
  simp [this]
end
section
variable {C:b9} {au:Nat} {L rest:List Oper} {E:List (Nat×V)} {h h₁:H} {R:List (Nat×V)→H→Prop} {o:Oper} {d i:Nat} {v u r:V} {x y a b:Operand} {t t':TypeId}
theorem zm (e:(o.op,wantE L E o.guard,o.dst,Nat.blt d au,lookO E x)=(Op.move x,some true,some d,true,some v))(hw:az C au L rest ((d,v)::E) h R): az C au L (o::rest) E h R:=by
  simp only [aC] at e; exact az.op e.2.1 e.2.2.1 e.2.2.2.1 (by rw [e.1]; exact b8 e.2.2.2.2) hw
theorem za (e:(o.op,wantE L E o.guard,o.dst,Nat.blt d au,lookO E x)=(Op.assign x,some true,some d,true,some v))(hw:az C au L rest ((d,v)::E) h R): az C au L (o::rest) E h R:=by
  simp only [aC] at e; exact az.op e.2.1 e.2.2.1 e.2.2.2.1 (by rw [e.1]; exact fD e.2.2.2.2) hw
theorem zn {j k:Nat}(e:(o.op,wantE L E o.guard,o.dst,Nat.blt d au,lookO E x)=(Op.nilCheck x,some true,some d,true,some (V.ptr j k)))(hw:az C au L rest ((d,.ptr j k)::E) h R): az C au L (o::rest) E h R:=by
  simp only [aC] at e; exact az.op e.2.1 e.2.2.1 e.2.2.2.1 (by rw [e.1]; exact uo e.2.2.2.2) hw
theorem zf (e:(o.op,wantE L E o.guard,o.dst,Nat.blt d au,lookO E x)=(Op.fieldAddr t x i,some true,some d,true,some v))(I:fieldAddrV C.P t v i=some r)(hw:az C au L rest ((d,r)::E) h R): az C au L (o::rest) E h R:=by
  simp only [aC] at e; exact az.op e.2.1 e.2.2.1 e.2.2.2.1 (by rw [e.1]; exact nC e.2.2.2.2 I) hw
theorem zl (e:(o.op,wantE L E o.guard,o.dst,Nat.blt d au,lookO E x)=(Op.load t x,some true,some d,true,some v))(I:loadV C.P h t v=some r)(hw:az C au L rest ((d,r)::E) h R): az C au L (o::rest) E h R:=by
  simp only [aC] at e; exact az.op e.2.1 e.2.2.1 e.2.2.2.1 (by rw [e.1]; exact aS e.2.2.2.2 I) hw
theorem ze {l:List V}(e:(o.op,wantE L E o.guard,o.dst,Nat.blt d au,lookO E x,nth l i)=(Op.extract x i,some true,some d,true,some (V.aX l),some r))(hw:az C au L rest ((d,r)::E) h R): az C au L (o::rest) E h R:=by
  simp only [aC] at e; exact az.op e.2.1 e.2.2.1 e.2.2.2.1 (by rw [e.1]; exact rY e.2.2.2.2.1 e.2.2.2.2.2) hw
theorem zp (e:(o.op,wantE L E o.guard,o.dst,Nat.blt d au,lookO E x,lookO E b)=(Op.pick x a b,some true,some d,true,some (V.bool false),some v))(hw:az C au L rest ((d,v)::E) h R): az C au L (o::rest) E h R:=by
  simp only [aC] at e; exact az.op e.2.1 e.2.2.1 e.2.2.2.1 (by rw [e.1]; exact kf e.2.2.2.2.1 e.2.2.2.2.2) hw
theorem zq (e:(o.op,wantE L E o.guard,o.dst,Nat.blt d au,lookO E x,lookO E a)=(Op.pick x a b,some true,some d,true,some (V.bool true),some v))(hw:az C au L rest ((d,v)::E) h R): az C au L (o::rest) E h R:=by
  simp only [aC] at e; exact az.op e.2.1 e.2.2.1 e.2.2.2.1 (by rw [e.1]; exact m8 e.2.2.2.2.1 e.2.2.2.2.2) hw
theorem zb {op:BinOp}(e:(o.op,wantE L E o.guard,o.dst,Nat.blt d au,lookO E x,lookO E y)=(Op.binOp op t x y t',some true,some d,true,some v,some u))(I:binV C.P h op t x y v u=some r)(hw:az C au L rest ((d,r)::E) h R): az C au L (o::rest) E h R:=by
  simp only [aC] at e; exact az.op e.2.1 e.2.2.1 e.2.2.2.1 (by rw [e.1]; exact ag e.2.2.2.2.1 e.2.2.2.2.2 I) hw
theorem zx (e:(wantE L E o.guard,o.dst,Nat.blt d au)=(some false,some d,true))(hw:az C au L rest ((d,bJ)::E) h R): az C au L (o::rest) E h R:=by
  simp only [aC] at e; exact az.no e.1 e.2.1 e.2.2 hw
theorem zo (e:(wantE L E o.guard,o.dst,Nat.blt d au)=(some true,some d,true))(ho:opE C.P E h o.op=some (v,h₁))(hw:az C au L rest ((d,v)::E) h₁ R): az C au L (o::rest) E h R:=by
  simp only [aC] at e; exact az.op e.1 e.2.1 e.2.2 ho hw
theorem zv (I:R E h): az C au L [] E h R:=az.nil I
variable {Q:Ex→List (Nat×V)→H→Prop} {c f:Code}
theorem zw (hw:WP C au c E h fun ex E' h'=>match ex with
    | .normal=>WP C au f E' h' Q
    | ex=>Q ex E' h'): WP C au (.seq c f) E h Q:=WP.seq hw
theorem zr {k:Nat}{ops:Array Oper}(I:ops.toList=L)(hw:az C au L L E h fun E' h'=>Q .normal E' h'): WP C au (.region k ops false) E h Q:=WP.region I hw
theorem zg {k:Nat}{ops:Array Oper}(I:ops.toList=L)(hw:az C au L L E h fun E' h'=>WP C au f E' h' Q): WP C au (.seq (.region k ops false) f) E h Q:=WP.seq (WP.region I hw)
theorem zi (I:lookO E x=some (.bool true))(hw:WP C au c E h Q): WP C au (.cond x c f) E h Q:=WP.cond I hw
theorem zj (I:lookO E x=some (.bool false))(hw:WP C au f E h Q): WP C au (.cond x c f) E h Q:=WP.cond I hw
end
inductive Md where
  | c (c:Code)
  | o (L l:List Oper)
def z_ (C:b9)(au:Nat)(Q:Ex→List (Nat×V)→H→Prop): List Code→Ex→List (Nat×V)→H→Prop
  | []=>Q
  | b::K=>fun ex E' h'=>match ex with
    | .normal=>WP C au b E' h' (z_ C au Q K)
    | ex=>z_ C au Q K ex E' h'
def Oc : List (Nat×V)→Nat→Option V
  | [],_=>none
  | (d,v)::E,k=>cond (Nat.beq d k) (some v) (Oc E k)
theorem J4 : ∀(E:List (Nat×V)) (k:Nat),Oc E k=look E k
  | [],_=>rfl
  | (d,v)::E,k=>by simp only [Oc,look,J4 E k]
def Aa (E:List (Nat×V)): Operand→Option V
  | .tmp t=>Oc E t
  | .const c=>ofValue c
  | .global _=>none
  | .func f=>some (.fn (.func f) [] [])
theorem J5 (E:List (Nat×V))(x:Operand): Aa E x=lookO E x:=by cases x <;> first | rfl | exact J4 _ _
def RL (E:List (Nat×V)): Op→Option V
  | .move x=>Aa E x
  | .assign x=>Aa E x
  | .nilCheck x=>match Aa E x with
    | some (.ptr j k)=>some (.ptr j k)
    | _=>none
  | .extract x i=>match Aa E x with
    | some (.aX l)=>nth l i
    | _=>none
  | .pick x a b=>match Aa E x with
    | some (.bool true)=>Aa E a
    | some (.bool false)=>Aa E b
    | _=>none
  | _=>none
def runM (au:Nat): Nat→Md→List (Nat×V)→List Code→Option (Md×List (Nat×V)×List Code)
  | 0,m,E,K=>some (m,E,K)
  | n+1,.o _ [],E,b::K=>runM au n (.c b) E K
  | n+1,.o L (o::l),E,K=>match wantE L E o.guard,o.dst with
    | some false,some d=>cond (Nat.blt d au) (runM au n (.o L l) ((d,bJ)::E) K) none
    | some true,some d=>match RL E o.op with
      | some v=>cond (Nat.blt d au) (runM au n (.o L l) ((d,v)::E) K) none
      | none=>none
    | _,_=>none
  | n+1,.c (.seq a b),E,K=>runM au n (.c a) E (b::K)
  | n+1,.c (.region _ ops false),E,K=>runM au n (.o ops.toList ops.toList) E K
  | n+1,.c (.cond x a b),E,K=>match Aa E x with
    | some (.bool true)=>runM au n (.c a) E K
    | some (.bool false)=>runM au n (.c b) E K
    | _=>none
  | n+1,.c .skip,E,b::K=>runM au n (.c b) E K
  | _+1,_,_,_=>none
abbrev Gl (C:b9)(au:Nat)(h:H)(Q:Ex→List (Nat×V)→H→Prop)(m:Md)(E:List (Nat×V))(K:List Code): Prop:=match m with
  | .c c=>WP C au c E h (z_ C au Q K)
  | .o L l=>az C au L l E h fun E' h'=>z_ C au Q K .normal E' h'
class DD (C:b9)(au:Nat)(R:List (Nat×V)→H→Prop)(Q:outParam (Ex→List (Nat×V)→H→Prop))where
  K:List Code
  eq:R=fun E' h'=>z_ C au Q K .normal E' h'
class Od (C:b9)(au:Nat)(R:Ex→List (Nat×V)→H→Prop)(Q:outParam (Ex→List (Nat×V)→H→Prop))where
  K:List Code
  eq:R=z_ C au Q K
instance (priority:=50) (C:b9) (au:Nat) (R:List (Nat×V)→H→Prop):DD C au R (fun _=>R):=⟨[],rfl⟩
instance (priority:=60) (C:b9) (au:Nat) (Q:Ex→List (Nat×V)→H→Prop):DD C au (fun E' h'=>Q .normal E' h') Q:=⟨[],rfl⟩
instance (priority:=70) (C:b9) (au:Nat) (f:Code) (Q:Ex→List (Nat×V)→H→Prop) (K:List Code):DD C au (fun E' h'=>WP C au f E' h' (z_ C au Q K)) Q:=⟨f::K,rfl⟩
instance (priority:=65) (C:b9) (au:Nat) (f:Code) (Q:Ex→List (Nat×V)→H→Prop):DD C au (fun E' h'=>WP C au f E' h' Q) Q:=⟨[f],rfl⟩
instance (priority:=80) (C:b9) (au:Nat) (K:List Code) (Q:Ex→List (Nat×V)→H→Prop):DD C au (fun E' h'=>z_ C au Q K .normal E' h') Q:=⟨K,rfl⟩
instance (priority:=50) (C:b9) (au:Nat) (Q:Ex→List (Nat×V)→H→Prop):Od C au Q Q:=⟨[],rfl⟩
instance (priority:=80) (C:b9) (au:Nat) (K:List Code) (Q:Ex→List (Nat×V)→H→Prop):Od C au (z_ C au Q K) Q:=⟨K,rfl⟩
section
variable {C:b9} {au:Nat} {L l:List Oper} {E E':List (Nat×V)} {h:H} {R:List (Nat×V)→H→Prop} {Q:Ex→List (Nat×V)→H→Prop} {m m':Md} {K K':List Code} {f:Code}
theorem RM {o:Op}{v:V}(e:RL E o=some v): opE C.P E h o=some (v,h):=by
  unfold RL at e
  simp only [J5] at e
  split at e
  · exact b8 e
  · exact fD e
  · split at e
    · rename_i I
      cases e; exact uo I
    · cases e
  · split at e
    · rename_i I
      exact rY I e
    · cases e
  · split at e
    · rename_i I; exact m8 I e
    · rename_i I; exact kf I e
    · cases e
  · cases e
theorem Gv : ∀(n:Nat) (m:Md) (E:List (Nat×V)) (K:List Code),runM au n m E K=some (m',E',K')→Gl C au h Q m' E' K'→Gl C au h Q m E K:=by
  intro n
  induction n with
  | zero=>intro m E K e hw; simp only [runM,aj,aC] at e; obtain ⟨rfl,rfl,rfl⟩:=e; exact hw
  | succ n I =>
    intro m E K e hw
    unfold runM at e
    split at e
    · rename_i he; cases he
    · rename_i he; cases he
      exact az.nil (I _ _ _ e hw)
    · rename_i he; cases he
      split at e
      · rename_i d hg hd
        cases J:Nat.blt d au with
        | false=>rw [J] at e; cases e
        | true=>rw [J] at e; exact az.no hg hd J (I _ _ _ e hw)
      · rename_i d hg hd
        split at e
        · rename_i v hv
          cases J:Nat.blt d au with
          | false=>rw [J] at e; cases e
          | true=>rw [J] at e; exact az.op hg hd J (RM hv) (I _ _ _ e hw)
        · cases e
      · cases e
    · rename_i he; cases he
      exact WP.seq (I _ _ _ e hw)
    · rename_i he; cases he
      exact WP.region rfl (I _ _ _ e hw)
    · rename_i he; cases he
      rw [J5] at e
      split at e
      · rename_i hx; exact WP.cond hx (I _ _ _ e hw)
      · rename_i hx; exact WP.cond hx (I _ _ _ e hw)
      · cases e
    · rename_i he; cases he
      exact WP.skip (I _ _ _ e hw)
    · cases e
theorem zk (n:Nat)[a:DD C au R Q](e:runM au n (.o L l) E (DD.K C au R)=some (m',E',K'))(hw:Gl C au h Q m' E' K'): az C au L l E h R:=by
  rw [a.eq]; exact Gv n (.o L l) E _ e hw
theorem zK {I:Ex→List (Nat×V)→H→Prop}(n:Nat)[a:Od C au I Q](e:runM au n (.c f) E (Od.K C au I)=some (m',E',K'))(hw:Gl C au h Q m' E' K'): WP C au f E h I:=by
  rw [a.eq]; exact Gv n (.c f) E _ e hw
end
section
variable {C:b9} {au:Nat} {L l rest:List Oper} {o:Oper} {E:List (Nat×V)} {h h₁:H} {d:Nat}
def OpR (C:b9)(E:List (Nat×V))(h:H)(o:Oper)(R:V→H→Prop): Prop:=∃v h₁,R v h₁∧∀env,iq env E→∃N,evOp C (ev C N) env h o=some (v,h₁)
theorem OpR.call {cl:Go.Call}{x:Operand}{k:FuncId}{first cap args:List V}{R:V→H→Prop}(J:o.op=.call cl)(hc:cl.callee=.value x)(hx:lookO E x=some (.fn (.func k) first cap))
 (ha:lookArgs E cl.args.toList=some args)(I:Am.Call C k (first++(args++cap)) h R): OpR C E h o R:=by
 obtain ⟨v,h₁,JU,hr⟩:=I
 exact ⟨v,h₁,hr,fun env hE=>Ca hE J hc hx ha JU⟩
theorem OpR.of {v:V}{R:V→H→Prop}(ho:opE C.P E h o.op=some (v,h₁))(I:R v h₁): OpR C E h o R:=⟨v,h₁,I,fun _ J=>⟨0,zY J ho⟩⟩
theorem az.any {R:List (Nat×V)→H→Prop}{uk:V→H→Prop}(hg:wantE L E o.guard=some true)(hd:o.dst=some d)(hn:Nat.blt d au=true)(ho:OpR C E h o uk)
 (hw:∀v h₁,uk v h₁→az C au L rest ((d,v)::E) h₁ R): az C au L (o::rest) E h R:=by
 intro env J
 obtain ⟨v,h₁,hr,ke⟩:=ho
 obtain ⟨N,hN⟩:=ke env J
 obtain ⟨M,I,h',E',h1,h2,h3⟩:=hw v h₁ hr (env.set d (some v)) (J.set d v)
 refine ⟨Nat.max N M,I,h',E',?_,h2,h3⟩
 simp only [evOps,iH J hg,af,kA (dY (mV N M)) hN,St.put,hd,hn]
 exact nA (dY (mU N M)) _ _ _ h1
def C2 : List (Env×V)→List (List (Nat×V)×V)→Prop
 | [],[]=>True
 | x::l,y::m=>iq x.1 y.1∧x.2=y.2∧C2 l m
 | _,_=>False
def aB (C:b9)(au:Nat)(L l:List Oper)(E:List (Nat×V))(h:H)(hs:List H)(Q:List (Nat×V)→H→List (List (Nat×V)×V)→List H→Prop): Prop :=
 ∀env,iq env E→∃N I h' E' tr ts J,trace C (ev C N) L l ⟨env,au,h⟩ hs=some (tr,J,⟨I,au,h'⟩)∧iq I E'∧C2 tr ts∧Q E' h' ts J
variable {hs:List H} {Q:List (Nat×V)→H→List (List (Nat×V)×V)→List H→Prop}
theorem aB.nil (I:Q E h [] hs): aB C au L [] E h hs Q:=fun env J=>⟨0,env,h,E,[],[],hs,rfl,J,aa,I⟩
theorem aB.any {uk:V→H→Prop}{e:Bool}(hg:wantE L E o.guard=some true)(hd:o.dst=some d)(hn:Nat.blt d au=true)(he:isEff C o.op=e)(ho:OpR C E h o uk)
 (hw:∀v h₁,uk v h₁→aB C au L rest ((d,v)::E) h₁ (cond e (hs++[h₁]) hs) fun E' h' ts I=>Q E' h' ((E,v)::ts) I): aB C au L (o::rest) E h hs Q:=by
 intro env hE
 obtain ⟨v,h₁,hr,ke⟩:=ho
 obtain ⟨N,hN⟩:=ke env hE
 obtain ⟨M,J,h',E',tr,ts,I,h1,h2,h3,h4⟩:=hw v h₁ hr (env.set d (some v)) (hE.set d v)
 refine ⟨Nat.max N M,J,h',E',(env,v)::tr,(E,v)::ts,I,?_,h2,⟨hE,rfl,h3⟩,h4⟩
 simp only [trace,iH hE hg,af,kA (dY (mV N M)) hN,St.put,hd,hn,he]
 rw [uh (dY (mU N M)) _ _ _ _ h1]
theorem aB.ki {uk:V→H→Prop}{e:Bool}(hg:wantE L E o.guard=some true)(hd:o.dst=none)(he:isEff C o.op=e)(ho:OpR C E h o uk)
 (hw:∀v h₁,uk v h₁→aB C au L rest E h₁ (cond e (hs++[h₁]) hs) fun E' h' ts I=>Q E' h' ((E,v)::ts) I): aB C au L (o::rest) E h hs Q:=by
 intro env hE
 obtain ⟨v,h₁,hr,ke⟩:=ho
 obtain ⟨N,hN⟩:=ke env hE
 obtain ⟨M,J,h',E',tr,ts,I,h1,h2,h3,h4⟩:=hw v h₁ hr env hE
 refine ⟨Nat.max N M,J,h',E',(env,v)::tr,(E,v)::ts,I,?_,h2,⟨hE,rfl,h3⟩,h4⟩
 simp only [trace,iH hE hg,af,kA (dY (mV N M)) hN,St.put,hd,he]
 rw [uh (dY (mU N M)) _ _ _ _ h1]
theorem aB.op {v:V}(J:wantE L E o.guard=some true)(hd:o.dst=some d)(hn:Nat.blt d au=true)(he:isEff C o.op=false)(ho:opE C.P E h o.op=some (v,h))
 (hw:aB C au L rest ((d,v)::E) h hs fun E' h' ts I=>Q E' h' ((E,v)::ts) I): aB C au L (o::rest) E h hs Q :=
 aB.any J hd hn he (OpR.of (R:=fun v' h'=>v'=v∧h'=h) ho ⟨rfl,rfl⟩) (fun v' h' hr=>by obtain ⟨rfl,rfl⟩:=hr; exact hw)
theorem aB.no {e:Bool}(hg:wantE L E o.guard=some false)(hd:o.dst=some d)(hn:Nat.blt d au=true)(he:isEff C o.op=e)
 (hw:aB C au L rest ((d,bJ)::E) h (cond e (hs++[h]) hs) fun E' h' ts I=>Q E' h' ((E,bJ)::ts) I): aB C au L (o::rest) E h hs Q:=by
 intro env hE
 obtain ⟨M,J,h',E',tr,ts,I,h1,h2,h3,h4⟩:=hw (env.set d (some bJ)) (hE.set d bJ)
 refine ⟨M,J,h',E',(env,bJ)::tr,(E,bJ)::ts,I,?_,h2,⟨hE,rfl,h3⟩,h4⟩
 simp only [trace,iH hE hg,ay,St.put,hd,hn,af,he]
 rw [h1]
def DE (C:b9)(L:List Oper)(o:Oper)(x:List (Nat×V)×V)(h:H): Prop :=
 wantE L x.1 o.guard=some false∨(wantE L x.1 o.guard=some true∧(∃h',opE C.P x.1 h o.op=some (x.2,h'))∧x.2.beq x.2=true)
def Ab (C:b9)(L:List Oper)(an es:List Nat)(hs:List H): List Oper→List (List (Nat×V)×V)→Nat→Prop
 | o::l,x::tr,i=>(isEff C o.op=true∨(jD ((nth an i).getD 0) es&&Nat.beq (fW ((nth an i).getD 0) es) (iP an i es))=true ∨
   (jD ((nth an i).getD 0) es=true∧∀h∈(hs.drop (fW ((nth an i).getD 0) es)).take (iP an i es+1-fW ((nth an i).getD 0) es),DE C L o x h))∧Ab C L an es hs l tr (i+1)
 | [],[],_=>True
 | _,_,_=>False
theorem J6 {self:Self}{x:Env×V}{y:List (Nat×V)×V}(J:iq x.1 y.1)(hv:x.2=y.2): ∀(hs:List H),(∀h∈hs,DE C L o y h)→sameIn C self L o x hs=true:=by
 intro hs
 induction hs with
 | nil=>intro _; rfl
 | cons h hs ih =>
  intro I
  simp only [sameIn]
  rcases I h ct with hg | ⟨hg,⟨h',ho⟩,hb⟩
  ·rw [iH J hg,ay]
  ·rw [iH J hg,af,zY J ho]
   simp only
   rw [hv,hb,af]
   exact ih (fun h hh=>I h (cr _ hh))
theorem Ce {self:Self}{an es:List Nat}: ∀(l:List Oper) (tr:List (Env×V)) (J:List (List (Nat×V)×V)) (i:Nat),C2 tr J→Ab C L an es hs l J i→stayOk C self L an es hs l tr i=true:=by
 intro l
 induction l with
 | nil=>intro tr J i hn jK; cases tr <;> cases J <;> first | rfl | (exact jK.elim) | (exact hn.elim)
 | cons o l ih =>
  intro tr J i hn jK
  cases tr with
  | nil=>cases J with
   | nil=>exact jK.elim
   | cons y J=>exact hn.elim
  | cons x tr =>
   cases J with
   | nil=>exact hn.elim
   | cons y J =>
    obtain ⟨n1,n2,n3⟩:=hn
    obtain ⟨s1,s2⟩:=jK
    simp only [stayOk]
    have I:=ih tr J (i+1) n3 s2
    cases he:isEff C o.op with
    | true=>rw [af]; exact I
    | false =>
     rw [ay]
     rcases s1 with s1 | s1 | ⟨s1,s3⟩
     ·rw [he] at s1; cases s1
     ·rw [s1,af]; exact I
     ·cases hq:(jD ((nth an i).getD 0) es&&Nat.beq (fW ((nth an i).getD 0) es) (iP an i es)) with
      | true=>rw [af]; exact I
      | false=>rw [ay,s1,J6 n1 n2 _ s3,gK,af]; exact I
theorem WP.draw {id:Nat}{ops:Array Oper}{Q:Ex→List (Nat×V)→H→Prop}(hl:ops.toList=L)(J:jg C false L=true)
 (hw:aB C au L L E h [h] fun E' h' ts hs=>Ab C L (ancs L []) (cD C L 0) hs L ts 0∧Q .normal E' h'): WP C au (.region id ops true) E h Q:=by
 intro env hE
 obtain ⟨N,I,h',E',tr,ts,J7,h1,h2,h3,h4,h5⟩:=hw env hE
 refine ⟨N+1,.normal,I,h',E',?_,h2,h5⟩
 subst hl
 rw [gP]
 simp only [evStep,af,jE,J,h1,Ce _ _ _ _ h3 h4]
def Gw (L:List Oper): List Oper→List (List (Nat×V)×V)→Prop
 | o::l,x::I=>(isAlloc true o=false∨wantE L x.1 o.guard=some true)∧Gw L l I
 | _,_=>True
theorem Gw.all {L:List Oper}: ∀(l:List Oper) (tr:List (Env×V)) (I:List (List (Nat×V)×V)),C2 tr I→Gw L l I→allW L l tr=true:=by
 intro l
 induction l with
 | nil=>intro tr I _ _; rfl
 | cons o l J =>
  intro tr I hn hf
  cases tr with
  | nil=>rfl
  | cons x tr =>
   cases I with
   | nil=>exact hn.elim
   | cons y I =>
    obtain ⟨n1,n2,n3⟩:=hn
    obtain ⟨f1,f2⟩:=hf
    simp only [allW]
    rcases f1 with f1 | f1
    ·rw [f1]; exact J tr I n3 f2
    ·rw [iH n1 f1]
     simp only [wX,af]
     exact J tr I n3 f2
theorem WP.Tm {id:Nat}{ops:Array Oper}{Q:Ex→List (Nat×V)→H→Prop}(hl:ops.toList=L)(J:jg C true L=true)
 (hw:aB C au L L E h [h] fun E' h' ts hs=>(Ab C L (ancs L []) (cD C L 0) hs L ts 0∧Gw L L ts)∧Q .normal E' h'): WP C au (.region id ops true) E h Q:=by
 intro env hE
 obtain ⟨N,I,h',E',tr,ts,J7,h1,h2,h3,⟨h4,h6⟩,h5⟩:=hw env hE
 refine ⟨N+1,.normal,I,h',E',?_,h2,h5⟩
 subst hl
 rw [gP]
 simp only [evStep,af,jE,J,h1,Ce _ _ _ _ h3 h4,Gw.all _ _ _ h3 h6,gK]
 cases jg C false ops.toList <;> rfl
end
def planOk (C:b9)(an es:List Nat): List Oper→List (Option (Nat×Nat))→Nat→Bool
 | [],[],_=>true
 | o::l,p::ps,i=>(match p with
   | none=>isEff C o.op||(jD ((nth an i).getD 0) es&&Nat.beq (fW ((nth an i).getD 0) es) (iP an i es))
   | some (lo,n)=>jD ((nth an i).getD 0) es&&Nat.beq lo (fW ((nth an i).getD 0) es)&&Nat.beq n (iP an i es+1-fW ((nth an i).getD 0) es))&&planOk C an es l ps (i+1)
 | _,_,_=>false
def uq (C:b9)(L:List Oper)(hs:List H): List Oper→List (List (Nat×V)×V)→List (Option (Nat×Nat))→Prop
 | o::l,x::tr,p::ps=>(match p with
   | none=>True
   | some (lo,n)=>∀h∈(hs.drop lo).take n,DE C L o x h)∧uq C L hs l tr ps
 | [],[],_=>True
 | _,_,_=>False
theorem uq.stay {C:b9}{L:List Oper}{hs:List H}{an es:List Nat}: ∀(l:List Oper) (I:List (List (Nat×V)×V)) (ps:List (Option (Nat×Nat))) (i:Nat),planOk C an es l ps i=true→uq C L hs l I ps→Ab C L an es hs l I i:=by
 intro l
 induction l with
 | nil=>intro I ps i h1 h2; cases I with
  | nil=>trivial
  | cons x I=>exact h2.elim
 | cons o l ih =>
  intro I ps i h1 h2
  cases I with
  | nil=>cases ps <;> exact h2.elim
  | cons x I =>
   cases ps with
   | nil=>exact h2.elim
   | cons p ps =>
    simp only [planOk,aH] at h1
    obtain ⟨J,a2⟩:=h1
    obtain ⟨b1,b2⟩:=h2
    refine ⟨?_,ih I ps (i+1) a2 b2⟩
    cases p with
    | none =>
     simp only [j6] at J
     rcases J with J | J
     ·exact .inl J
     ·exact .inr (.inl J)
    | some q =>
     obtain ⟨lo,n⟩:=q
     simp only [aH,beq_iff] at J
     obtain ⟨⟨c1,c2⟩,c3⟩:=J
     refine .inr (.inr ⟨c1,?_⟩)
     subst c2
     subst c3
     exact b1
theorem WP.drawn {C:b9}{au:Nat}{L:List Oper}{E:List (Nat×V)}{h:H}{id:Nat}{ops:Array Oper}{Q:Ex→List (Nat×V)→H→Prop}(ps:List (Option (Nat×Nat)))(hl:ops.toList=L)(J:jg C false L=true)
 (hp:planOk C (ancs L []) (cD C L 0) L ps 0=true)
 (hw:aB C au L L E h [h] fun E' h' ts hs=>uq C L hs L ts ps∧Q .normal E' h'): WP C au (.region id ops true) E h Q:=by
 refine WP.draw hl J ?_
 intro env hE
 obtain ⟨N,I,h',E',tr,ts,J7,h1,h2,h3,h4,h5⟩:=hw env hE
 exact ⟨N,I,h',E',tr,ts,J7,h1,h2,h3,uq.stay _ _ _ _ hp h4,h5⟩
theorem WP.RN {C:b9}{au:Nat}{L:List Oper}{E:List (Nat×V)}{h:H}{id:Nat}{ops:Array Oper}{Q:Ex→List (Nat×V)→H→Prop}(ps:List (Option (Nat×Nat)))(hl:ops.toList=L)(jK:jg C true L=true)
 (hp:planOk C (ancs L []) (cD C L 0) L ps 0=true)
 (hw:aB C au L L E h [h] fun E' h' J hs=>(uq C L hs L J ps∧Gw L L J)∧Q .normal E' h'): WP C au (.region id ops true) E h Q:=by
 refine WP.Tm hl jK ?_
 intro env hE
 obtain ⟨N,I,h',E',tr,J,J7,h1,h2,h3,h4,h5⟩:=hw env hE
 exact ⟨N,I,h',E',tr,J,J7,h1,h2,h3,⟨uq.stay _ _ _ _ hp h4.1,h4.2⟩,h5⟩
theorem eZ {a b:H}{l:List H}{p:H→Prop}(J:p a)(hb:p b): ∀x∈((a::b::l).drop 0).take 2,p x:=by
 intro x I
 simp only [fg,qm,jz,gL,lV,tg] at I
 rcases I with rfl | rfl
 ·exact J
 ·exact hb
theorem oR {a b c:H}{l:List H}{p:H→Prop}(J:p a)(hb:p b)(hc:p c): ∀x∈((a::b::c::l).drop 0).take 3,p x:=by
 intro x I
 simp only [fg,qm,jz,gL,lV,tg] at I
 rcases I with rfl | rfl | rfl
 ·exact J
 ·exact hb
 ·exact hc
theorem cW (k:IntKind): ikBeq k k=true:=by cases k <;> rfl
theorem oL (n:Int): intBeq n n=true:=by cases n <;> simp [intBeq]
theorem yb (c:Cap): c.beq c=true:=by cases c <;> simp [Cap.beq]
theorem xk (a b c:Nat)(d:Cap): (V.sl a b c d).beq (.sl a b c d)=true:=by simp [V.beq,yb]
theorem jd {h:H}{v:V}{l:List Nat}(hv:View h v l): v.beq v=true:=by
 obtain ⟨_,hv⟩:=hv
 rcases hv with ⟨rfl | ⟨I,rfl⟩,_⟩ | ⟨id,off,cap,n,cs,st,rfl,_⟩
 ·simp [V.beq]
 ·simp [V.beq]
 ·exact xk _ _ _ _
section
variable {C:b9} {au:Nat} {L rest:List Oper} {E:List (Nat×V)} {h:H} {hs:List H} {Q:List (Nat×V)→H→List (List (Nat×V)×V)→List H→Prop} {o:Oper} {d i:Nat} {v u r:V} {x y a b:Operand} {t t':TypeId}
theorem zM (e:(o.op,wantE L E o.guard,o.dst,Nat.blt d au,isEff C o.op,lookO E x)=(Op.move x,some true,some d,true,false,some v))(hw:aB C au L rest ((d,v)::E) h hs fun E' h' J I=>Q E' h' ((E,v)::J) I): aB C au L (o::rest) E h hs Q:=by
  simp only [aC] at e; exact aB.op e.2.1 e.2.2.1 e.2.2.2.1 e.2.2.2.2.1 (by rw [e.1]; exact b8 e.2.2.2.2.2) hw
theorem zA (e:(o.op,wantE L E o.guard,o.dst,Nat.blt d au,isEff C o.op,lookO E x)=(Op.assign x,some true,some d,true,false,some v))(hw:aB C au L rest ((d,v)::E) h hs fun E' h' J I=>Q E' h' ((E,v)::J) I): aB C au L (o::rest) E h hs Q:=by
  simp only [aC] at e; exact aB.op e.2.1 e.2.2.1 e.2.2.2.1 e.2.2.2.2.1 (by rw [e.1]; exact fD e.2.2.2.2.2) hw
theorem zN {j k:Nat}(e:(o.op,wantE L E o.guard,o.dst,Nat.blt d au,isEff C o.op,lookO E x)=(Op.nilCheck x,some true,some d,true,false,some (V.ptr j k)))(hw:aB C au L rest ((d,.ptr j k)::E) h hs fun E' h' J I=>Q E' h' ((E,.ptr j k)::J) I): aB C au L (o::rest) E h hs Q:=by
  simp only [aC] at e; exact aB.op e.2.1 e.2.2.1 e.2.2.2.1 e.2.2.2.2.1 (by rw [e.1]; exact uo e.2.2.2.2.2) hw
theorem zF (e:(o.op,wantE L E o.guard,o.dst,Nat.blt d au,isEff C o.op,lookO E x)=(Op.fieldAddr t x i,some true,some d,true,false,some v))(J:fieldAddrV C.P t v i=some r)(hw:aB C au L rest ((d,r)::E) h hs fun E' h' ts I=>Q E' h' ((E,r)::ts) I): aB C au L (o::rest) E h hs Q:=by
  simp only [aC] at e; exact aB.op e.2.1 e.2.2.1 e.2.2.2.1 e.2.2.2.2.1 (by rw [e.1]; exact nC e.2.2.2.2.2 J) hw
theorem zL (e:(o.op,wantE L E o.guard,o.dst,Nat.blt d au,isEff C o.op,lookO E x)=(Op.load t x,some true,some d,true,false,some v))(J:loadV C.P h t v=some r)(hw:aB C au L rest ((d,r)::E) h hs fun E' h' ts I=>Q E' h' ((E,r)::ts) I): aB C au L (o::rest) E h hs Q:=by
  simp only [aC] at e; exact aB.op e.2.1 e.2.2.1 e.2.2.2.1 e.2.2.2.2.1 (by rw [e.1]; exact aS e.2.2.2.2.2 J) hw
theorem zO (e:(wantE L E o.guard,o.dst,Nat.blt d au,isEff C o.op)=(some true,some d,true,false))(ho:opE C.P E h o.op=some (v,h))(hw:aB C au L rest ((d,v)::E) h hs fun E' h' J I=>Q E' h' ((E,v)::J) I): aB C au L (o::rest) E h hs Q:=by
  simp only [aC] at e; exact aB.op e.1 e.2.1 e.2.2.1 e.2.2.2 ho hw
end
end Go.Proofs.YtefepnnfphdkpaaGreat.Am
