/- AtomTorn: a part of its proof; conditions: its statement's. -/
import Derived.Test.YtconhghphklfjaaGreatT12
namespace Go.Proofs.YtconhghphklfjaaGreat.Am
open Go
section
variable {P:Program} {E:List (Nat×V)} {h h₁:H} {x y a b:Operand} {v u r:V}
theorem bn (I:lookO E x=some v): opE P E h (.move x)=some (v,h):=by simp only [opE,j_,I]
theorem fg (I:lookO E x=some v): opE P E h (.assign x)=some (v,h):=by simp only [opE,j_,I]
theorem lz (I:lookO E x=some (.bool true))(J:lookO E a=some v): opE P E h (.pick x a b)=some (v,h):=by simp only [opE,j_,I,ag,J]
theorem kL (I:lookO E x=some (.bool false))(J:lookO E b=some v): opE P E h (.pick x a b)=some (v,h):=by simp only [opE,j_,I,ay,J]
theorem kq {i o:Nat}(I:lookO E x=some (.ptr i o)): opE P E h (.nilCheck x)=some (.ptr i o,h):=by simp only [opE,j_,I]
theorem jI {t i:Nat}(I:lookO E x=some v)(J:fieldAddrV P t v i=some r): opE P E h (.fieldAddr t x i)=some (r,h):=by simp only [opE,j_,I,J,bA]
theorem aW {t:TypeId}(I:lookO E x=some v)(J:loadV P h t v=some r): opE P E h (.load t x)=some (r,h):=by simp only [opE,j_,I,J,bA]
theorem wD {t:TypeId}(I:lookO E x=some v)(J:lookO E y=some u)(U:g6 P h t v u=some h₁): opE P E h (.store t x y)=some (cz,h₁):=by simp only [opE,vg,I,J,U,rT]
theorem ah {op:BinOp}{t t':TypeId}(I:lookO E x=some v)(J:lookO E y=some u)(U:binV P h op t x y v u=some r): opE P E h (.binOp op t x y t')=some (r,h):=by simp only [opE,vg,I,J,U,bA]
theorem dS {op:UnOp}{t:TypeId}(I:lookO E x=some v)(J:unV op v=some r): opE P E h (.unOp op t x)=some (r,h):=by simp only [opE,j_,I,J,bA]
theorem bZ {s d:TypeId}(I:lookO E x=some v)(J:convV P h s d v=some (r,h₁)): opE P E h (.convert s d x)=some (r,h₁):=by simp only [opE,j_,I,J]
theorem ej {t:TypeId}(I:lookO E x=some v)(J:lookO E y=some u)(U:indexAddrV P t v u=some r): opE P E h (.indexAddr t x y)=some (r,h):=by simp only [opE,vg,I,J,U,bA]
theorem Ep {t:TypeId}(I:lookO E x=some v)(J:lookO E y=some u)(U:indexV P t v u=some r): opE P E h (.index t x y)=some (r,h):=by simp only [opE,vg,I,J,U,bA]
theorem cA {i:Nat}{l:List V}(I:lookO E x=some (.bE l))(J:nth l i=some r): opE P E h (.extract x i)=some (r,h):=by simp only [opE,j_,I,J,bA]
theorem c8 {t:TypeId}{ps:Array (Nat×Operand)}{l:List (Nat×V)}(I:lookParts E ps.toList=some l)(J:buildV P t l=some r): opE P E h (.build t ps)=some (r,h):=by simp only [opE,I,J,bA]
theorem gL {t:TypeId}(I:lookO E x=some v)(hs:v.cells.all storable=true): opE P E h (.box t x)=some (.ptr h.next 0,newRow h v.cells):=by simp only [opE,j_,I,hs,ag]
theorem cI {t:TypeId}(I:zeroT P t=some v): opE P E h (.alloc t)=some (.ptr h.next 0,newRow h v.cells):=by simp only [opE,I]
theorem LH {t:TypeId}(I:lookO E x=some v)(J:makeIfaceV P t v=some r): opE P E h (.makeInterface t x)=some (r,h):=by simp only [opE,j_,I,J,bA]
theorem A2 {f:Fn}{p q:Array Operand}{l m:List V}(I:lookArgs E p.toList=some l)(J:lookArgs E q.toList=some m): opE P E h (.makeFunc f p q)=some (.fn f l m,h):=by simp only [opE,I,J]
theorem bf {c:Go.Call}{t:TypeId}(I:c.callee=.builtin .len)(J:lookArgs E c.args.toList=some [v])(U:c.argTypes.toList=[t])(hf:lenV P h t v=some r): opE P E h (.call c)=some (r,h):=by
 simp only [opE,I,J,builtinV,U,hf,iW]
theorem oT {c:Go.Call}(I:c.callee=.builtin .append)(J:lookArgs E c.args.toList=some [v,u])(U:appendV P h c.argTypes v u=some (r,h₁)): opE P E h (.call c)=some (r,h₁):=by
 simp only [opE,I,J,builtinV,U]
theorem rY {t:TypeId}(I:lookO E x=some v)(J:lookO E y=some u)(U:makeSliceV P h t v u=some (r,h₁)): opE P E h (.makeSlice t x y)=some (r,h₁):=by simp only [opE,vg,I,J,U]
theorem qu {t n:Nat}{ps:Array (Nat×Operand)}{l:List (Nat×V)}(I:lookParts E ps.toList=some l)(J:buildSliceV P h t n l=some (r,h₁)): opE P E h (.buildSlice t n ps)=some (r,h₁):=by simp only [opE,I,J]
theorem cF {t:TypeId}{lo hi mx:Option Operand}{p q m:Option V}{p' q' m':Option Nat}(I:lookO E x=some v)(J:lookOpt E lo=some p)(U:lookOpt E hi=some q)(h3:lookOpt E mx=some m)
 (g1:g8 p=some p')(g2:g8 q=some q')(g3:g8 m=some m')(hf:sliceV P h t v p' q' m'=some r): opE P E h (.slice t x lo hi mx)=some (r,h):=by simp only [opE,j_,I,J,U,h3,g1,g2,g3,hf,bA]
theorem Qm {t s:TypeId}{ok:Bool}(I:lookO E x=some v)(J:assertV P v s ok=some r): opE P E h (.typeAssert x t s ok)=some (r,h):=by simp only [opE,j_,I,J,bA]
theorem Kh {t:TypeId}{id off n:Nat}{cs:List V}{st:Bool}(I:b_ P t=some false)(J:T.get h.tr id=some (.cells n cs st))(U:nth cs off=some v): loadV P h t (.ptr id off)=some v:=by
 simp only [loadV,I,yb,J,U]
theorem fM {t:TypeId}{id n:Nat}{cs:List V}{st:Bool}(I:b_ P t=some true)(hs:bJ P t=some n)(J:T.get h.tr id=some (.cells n cs st)): loadV P h t (.ptr id 0)=some (.agg cs):=by
 simp only [loadV,I,hs,rdN,J,dV]
 rw [aQ.2 (aI n),ag,dx,dx]
 rfl
end
section
variable {C:dF} {az:Nat} {E:List (Nat×V)} {h:H} {R:List (Nat×V)→H→Prop} {L rest:List Oper} {o:Oper} {d:Nat} {cs:List V}
end
section
variable {C:dF} {az:Nat} {E:List (Nat×V)} {h:H} {R:List (Nat×V)→H→Prop} {L rest:List Oper} {o:Oper} {d:Nat}
theorem Fl {h:H}(hw:mA h){b:Nat}(I:b<256):
  ∃v h₁,buildSliceV Tryz.prog h 32 1 [(0,.int .u8 b)]=some (v,h₁)∧j4 h₁ v [b]∧eN 1 [] h h₁∧∀i∈rowIds v,h.next≤i:=by
 refine ⟨.sl h.next 0 1 (.exact 1),newRow h [.int .u8 b],?_,⟨by simpa using I,.inr (.inl ⟨h.next,[],1,rfl,?_,rfl⟩)⟩,eN.A0 hw _,fun i hi=>by simp [rowIds] at hi; omega⟩
 ·simp only [buildSliceV,aS,fU,rG,V.cells]
  rfl
 ·rw [newRow,f_,aj rfl]; rfl
theorem aB.LI {t:TypeId}{ps:Array (Nat×Operand)}{b:Nat}(J:C.P=Tryz.prog)(hw:mA h)(U:wantE L E o.guard=some true)(hd:o.dst=some d)(hn:Nat.blt d az=true)(I:o.op=.buildSlice t 1 ps)(ht:t=32)
 (hx:lookParts E ps.toList=some [(0,.int .u8 (b:Int))])(hb:b<256)
 (hr:∀v h₁,j4 h₁ v [b]→eN 1 [] h h₁→(∀i∈rowIds v,h.next≤i)→aB C az L rest ((d,v)::E) h₁ R): aB C az L (o::rest) E h R:=by
 obtain ⟨v,h₁,e1,e2,e3,e4⟩:=Fl hw hb
 refine aB.op U hd hn (v:=v) (h₁:=h₁) ?_ (hr v h₁ e2 e3 e4)
 rw [I,ht,J]
 exact qu hx e1
theorem aB.app {c:Go.Call}{s x:V}{l m:List Nat}(hP:C.P=Tryz.prog)(hw:mA h)(hg:wantE L E o.guard=some true)(hd:o.dst=some d)(hn:Nat.blt d az=true)(I:o.op=.call c)(hc:c.callee=.builtin .append)
 (J:c.argTypes = #[32,32])(ha:lookArgs E c.args.toList=some [s,x])(hs:j4 h s l)(hx:View h x m)(U:l.length+m.length≤140737488355328)
 (hr:∀v h₁,j4 h₁ v (l++m)→eN 1 (rowIds s) h h₁→(∀i∈rowIds v,i∈rowIds s∨h.next≤i)→aB C az L rest ((d,v)::E) h₁ R): aB C az L (o::rest) E h R:=by
 obtain ⟨v,h₁,e1,e2,e3,e4⟩:=y9 hw hs hx U
 refine aB.op hg hd hn (v:=v) (h₁:=h₁) ?_ (hr v h₁ e2 e3 e4)
 rw [I,hP]
 exact oT hc ha (by rw [J]; exact e1)
theorem CQ {h:H}(hw:mA h){c:Nat}(J:c<1073741824):
  ∃v h₁,makeSliceV Tryz.prog h 32 (.int .i64 0) (.int .i64 (c:Int))=some (v,h₁)∧j4 h₁ v []∧eN 1 [] h h₁∧∀i∈rowIds v,h.next≤i:=by
 obtain ⟨i,hi,i1,i2⟩:=wC
 refine ⟨.sl h.next 0 0 (.exact c),h.new (.cells c (repeatL [.int .u8 0] c) false),?_,⟨by simp,.inr (.inl ⟨h.next,repeatL [.int .u8 0] c,c,rfl,?_,?_⟩)⟩,eN.A0 hw _,fun i hi=>by simp [rowIds] at hi; omega⟩
 ·simp only [makeSliceV,aS,hi,rG,i1,i2,V.cells,bl,bY,cQ,dW]
  rw [show (decide ((0:Int)≤0)&&decide ((0:Int)≤(c:Int))&&decide ((c:Int)<1073741824)&&Nat.ble 1 4096&&Nat.beq (0+1) 1&&Nat.ble 1 1)=true by simp; omega,ag]
  rfl
 ·rw [f_,aj rfl]; rfl
 ·have:∀n,(repeatL [V.int .u8 0] n).length=n:=fun n=>by
   induction n with
   | zero=>rfl
   | succ n I=>simp [repeatL,I]
  simp [this]
end
section
variable {C:dF} {az:Nat} {L rest:List Oper} {E:List (Nat×V)} {h h₁:H} {R:List (Nat×V)→H→Prop} {o:Oper} {d i:Nat} {v u r:V} {x y a b:Operand} {t t':TypeId}
theorem zm (e:(o.op,wantE L E o.guard,o.dst,Nat.blt d az,lookO E x)=(Op.move x,some true,some d,true,some v))(hw:aB C az L rest ((d,v)::E) h R): aB C az L (o::rest) E h R:=by
  simp only [aP] at e; exact aB.op e.2.1 e.2.2.1 e.2.2.2.1 (by rw [e.1]; exact bn e.2.2.2.2) hw
theorem za (e:(o.op,wantE L E o.guard,o.dst,Nat.blt d az,lookO E x)=(Op.assign x,some true,some d,true,some v))(hw:aB C az L rest ((d,v)::E) h R): aB C az L (o::rest) E h R:=by
  simp only [aP] at e; exact aB.op e.2.1 e.2.2.1 e.2.2.2.1 (by rw [e.1]; exact fg e.2.2.2.2) hw
theorem zn {j k:Nat}(e:(o.op,wantE L E o.guard,o.dst,Nat.blt d az,lookO E x)=(Op.nilCheck x,some true,some d,true,some (V.ptr j k)))(hw:aB C az L rest ((d,.ptr j k)::E) h R): aB C az L (o::rest) E h R:=by
  simp only [aP] at e; exact aB.op e.2.1 e.2.2.1 e.2.2.2.1 (by rw [e.1]; exact kq e.2.2.2.2) hw
theorem zf (e:(o.op,wantE L E o.guard,o.dst,Nat.blt d az,lookO E x)=(Op.fieldAddr t x i,some true,some d,true,some v))(I:fieldAddrV C.P t v i=some r)(hw:aB C az L rest ((d,r)::E) h R): aB C az L (o::rest) E h R:=by
  simp only [aP] at e; exact aB.op e.2.1 e.2.2.1 e.2.2.2.1 (by rw [e.1]; exact jI e.2.2.2.2 I) hw
theorem zl (e:(o.op,wantE L E o.guard,o.dst,Nat.blt d az,lookO E x)=(Op.load t x,some true,some d,true,some v))(I:loadV C.P h t v=some r)(hw:aB C az L rest ((d,r)::E) h R): aB C az L (o::rest) E h R:=by
  simp only [aP] at e; exact aB.op e.2.1 e.2.2.1 e.2.2.2.1 (by rw [e.1]; exact aW e.2.2.2.2 I) hw
theorem ze {l:List V}(e:(o.op,wantE L E o.guard,o.dst,Nat.blt d az,lookO E x,nth l i)=(Op.extract x i,some true,some d,true,some (V.bE l),some r))(hw:aB C az L rest ((d,r)::E) h R): aB C az L (o::rest) E h R:=by
  simp only [aP] at e; exact aB.op e.2.1 e.2.2.1 e.2.2.2.1 (by rw [e.1]; exact cA e.2.2.2.2.1 e.2.2.2.2.2) hw
theorem zp (e:(o.op,wantE L E o.guard,o.dst,Nat.blt d az,lookO E x,lookO E b)=(Op.pick x a b,some true,some d,true,some (V.bool false),some v))(hw:aB C az L rest ((d,v)::E) h R): aB C az L (o::rest) E h R:=by
  simp only [aP] at e; exact aB.op e.2.1 e.2.2.1 e.2.2.2.1 (by rw [e.1]; exact kL e.2.2.2.2.1 e.2.2.2.2.2) hw
theorem zq (e:(o.op,wantE L E o.guard,o.dst,Nat.blt d az,lookO E x,lookO E a)=(Op.pick x a b,some true,some d,true,some (V.bool true),some v))(hw:aB C az L rest ((d,v)::E) h R): aB C az L (o::rest) E h R:=by
  simp only [aP] at e; exact aB.op e.2.1 e.2.2.1 e.2.2.2.1 (by rw [e.1]; exact lz e.2.2.2.2.1 e.2.2.2.2.2) hw
theorem zb {op:BinOp}(e:(o.op,wantE L E o.guard,o.dst,Nat.blt d az,lookO E x,lookO E y)=(Op.binOp op t x y t',some true,some d,true,some v,some u))(I:binV C.P h op t x y v u=some r)(hw:aB C az L rest ((d,r)::E) h R): aB C az L (o::rest) E h R:=by
  simp only [aP] at e; exact aB.op e.2.1 e.2.2.1 e.2.2.2.1 (by rw [e.1]; exact ah e.2.2.2.2.1 e.2.2.2.2.2 I) hw
theorem zx (e:(wantE L E o.guard,o.dst,Nat.blt d az)=(some false,some d,true))(hw:aB C az L rest ((d,cz)::E) h R): aB C az L (o::rest) E h R:=by
  simp only [aP] at e; exact aB.no e.1 e.2.1 e.2.2 hw
theorem zo (e:(wantE L E o.guard,o.dst,Nat.blt d az)=(some true,some d,true))(ho:opE C.P E h o.op=some (v,h₁))(hw:aB C az L rest ((d,v)::E) h₁ R): aB C az L (o::rest) E h R:=by
  simp only [aP] at e; exact aB.op e.1 e.2.1 e.2.2 ho hw
theorem zv (I:R E h): aB C az L [] E h R:=aB.nil I
variable {Q:Ex→List (Nat×V)→H→Prop} {c f:Code}
theorem zw (hw:WP C az c E h fun ex E' h'=>match ex with
    | .normal=>WP C az f E' h' Q
    | ex=>Q ex E' h'): WP C az (.seq c f) E h Q:=WP.seq hw
theorem zr {k:Nat}{ops:Array Oper}(I:ops.toList=L)(hw:aB C az L L E h fun E' h'=>Q .normal E' h'): WP C az (.region k ops false) E h Q:=WP.region I hw
theorem zg {k:Nat}{ops:Array Oper}(I:ops.toList=L)(hw:aB C az L L E h fun E' h'=>WP C az f E' h' Q): WP C az (.seq (.region k ops false) f) E h Q:=WP.seq (WP.region I hw)
theorem zi (I:lookO E x=some (.bool true))(hw:WP C az c E h Q): WP C az (.cond x c f) E h Q:=WP.cond I hw
theorem zj (I:lookO E x=some (.bool false))(hw:WP C az f E h Q): WP C az (.cond x c f) E h Q:=WP.cond I hw
end
inductive Md where
  | c (c:Code)
  | o (L l:List Oper)
def CR (C:dF)(az:Nat)(Q:Ex→List (Nat×V)→H→Prop): List Code→Ex→List (Nat×V)→H→Prop
  | []=>Q
  | b::K=>fun ex E' h'=>match ex with
    | .normal=>WP C az b E' h' (CR C az Q K)
    | ex=>CR C az Q K ex E' h'
def Sl : List (Nat×V)→Nat→Option V
  | [],_=>none
  | (d,v)::E,k=>cond (Nat.beq d k) (some v) (Sl E k)
theorem NJ : ∀(E:List (Nat×V)) (k:Nat),Sl E k=look E k
  | [],_=>rfl
  | (d,v)::E,k=>by simp only [Sl,look,NJ E k]
def CS (E:List (Nat×V)): Operand→Option V
  | .tmp t=>Sl E t
  | .const c=>ofValue c
  | .global _=>none
  | .func f=>some (.fn (.func f) [] [])
theorem NK (E:List (Nat×V))(x:Operand): CS E x=lookO E x:=by cases x <;> first | rfl | exact NJ _ _
def V2 (E:List (Nat×V)): Op→Option V
  | .move x=>CS E x
  | .assign x=>CS E x
  | .nilCheck x=>match CS E x with
    | some (.ptr j k)=>some (.ptr j k)
    | _=>none
  | .extract x i=>match CS E x with
    | some (.bE l)=>nth l i
    | _=>none
  | .pick x a b=>match CS E x with
    | some (.bool true)=>CS E a
    | some (.bool false)=>CS E b
    | _=>none
  | _=>none
def runM (az:Nat): Nat→Md→List (Nat×V)→List Code→Option (Md×List (Nat×V)×List Code)
  | 0,m,E,K=>some (m,E,K)
  | n+1,.o _ [],E,b::K=>runM az n (.c b) E K
  | n+1,.o L (o::l),E,K=>match wantE L E o.guard,o.dst with
    | some false,some d=>cond (Nat.blt d az) (runM az n (.o L l) ((d,cz)::E) K) none
    | some true,some d=>match V2 E o.op with
      | some v=>cond (Nat.blt d az) (runM az n (.o L l) ((d,v)::E) K) none
      | none=>none
    | _,_=>none
  | n+1,.c (.seq a b),E,K=>runM az n (.c a) E (b::K)
  | n+1,.c (.region _ ops false),E,K=>runM az n (.o ops.toList ops.toList) E K
  | n+1,.c (.cond x a b),E,K=>match CS E x with
    | some (.bool true)=>runM az n (.c a) E K
    | some (.bool false)=>runM az n (.c b) E K
    | _=>none
  | n+1,.c .skip,E,b::K=>runM az n (.c b) E K
  | _+1,_,_,_=>none
abbrev Gl (C:dF)(az:Nat)(h:H)(Q:Ex→List (Nat×V)→H→Prop)(m:Md)(E:List (Nat×V))(K:List Code): Prop:=match m with
  | .c c=>WP C az c E h (CR C az Q K)
  | .o L l=>aB C az L l E h fun E' h'=>CR C az Q K .normal E' h'
class G2 (C:dF)(az:Nat)(R:List (Nat×V)→H→Prop)(Q:outParam (Ex→List (Nat×V)→H→Prop))where
  K:List Code
  eq:R=fun E' h'=>CR C az Q K .normal E' h'
class Sm (C:dF)(az:Nat)(R:Ex→List (Nat×V)→H→Prop)(Q:outParam (Ex→List (Nat×V)→H→Prop))where
  K:List Code
  eq:R=CR C az Q K
instance (priority:=50) (C:dF) (az:Nat) (R:List (Nat×V)→H→Prop):G2 C az R (fun _=>R):=⟨[],rfl⟩
instance (priority:=60) (C:dF) (az:Nat) (Q:Ex→List (Nat×V)→H→Prop):G2 C az (fun E' h'=>Q .normal E' h') Q:=⟨[],rfl⟩
instance (priority:=70) (C:dF) (az:Nat) (f:Code) (Q:Ex→List (Nat×V)→H→Prop) (K:List Code):G2 C az (fun E' h'=>WP C az f E' h' (CR C az Q K)) Q:=⟨f::K,rfl⟩
instance (priority:=65) (C:dF) (az:Nat) (f:Code) (Q:Ex→List (Nat×V)→H→Prop):G2 C az (fun E' h'=>WP C az f E' h' Q) Q:=⟨[f],rfl⟩
instance (priority:=80) (C:dF) (az:Nat) (K:List Code) (Q:Ex→List (Nat×V)→H→Prop):G2 C az (fun E' h'=>CR C az Q K .normal E' h') Q:=⟨K,rfl⟩
instance (priority:=50) (C:dF) (az:Nat) (Q:Ex→List (Nat×V)→H→Prop):Sm C az Q Q:=⟨[],rfl⟩
instance (priority:=80) (C:dF) (az:Nat) (K:List Code) (Q:Ex→List (Nat×V)→H→Prop):Sm C az (CR C az Q K) Q:=⟨K,rfl⟩
section
variable {C:dF} {az:Nat} {L l:List Oper} {E E':List (Nat×V)} {h:H} {R:List (Nat×V)→H→Prop} {Q:Ex→List (Nat×V)→H→Prop} {m m':Md} {K K':List Code} {f:Code}
theorem V3 {o:Op}{v:V}(e:V2 E o=some v): opE C.P E h o=some (v,h):=by
  unfold V2 at e
  simp only [NK] at e
  split at e
  · exact bn e
  · exact fg e
  · split at e
    · rename_i I
      cases e; exact kq I
    · cases e
  · split at e
    · rename_i I
      exact cA I e
    · cases e
  · split at e
    · rename_i I; exact lz I e
    · rename_i I; exact kL I e
    · cases e
  · cases e
theorem Ki : ∀(n:Nat) (m:Md) (E:List (Nat×V)) (K:List Code),runM az n m E K=some (m',E',K')→Gl C az h Q m' E' K'→Gl C az h Q m E K:=by
  intro n
  induction n with
  | zero=>intro m E K e hw; simp only [runM,au,aP] at e; obtain ⟨rfl,rfl,rfl⟩:=e; exact hw
  | succ n I =>
    intro m E K e hw
    unfold runM at e
    split at e
    · rename_i he; cases he
    · rename_i he; cases he
      exact aB.nil (I _ _ _ e hw)
    · rename_i he; cases he
      split at e
      · rename_i d U hd
        cases J:Nat.blt d az with
        | false=>rw [J] at e; cases e
        | true=>rw [J] at e; exact aB.no U hd J (I _ _ _ e hw)
      · rename_i d U hd
        split at e
        · rename_i v hv
          cases J:Nat.blt d az with
          | false=>rw [J] at e; cases e
          | true=>rw [J] at e; exact aB.op U hd J (V3 hv) (I _ _ _ e hw)
        · cases e
      · cases e
    · rename_i he; cases he
      exact WP.seq (I _ _ _ e hw)
    · rename_i he; cases he
      exact WP.region rfl (I _ _ _ e hw)
    · rename_i he; cases he
      rw [NK] at e
      split at e
      · rename_i hx; exact WP.cond hx (I _ _ _ e hw)
      · rename_i hx; exact WP.cond hx (I _ _ _ e hw)
      · cases e
    · rename_i he; cases he
      exact WP.skip (I _ _ _ e hw)
    · cases e
theorem zk (n:Nat)[a:G2 C az R Q](e:runM az n (.o L l) E (G2.K C az R)=some (m',E',K'))(hw:Gl C az h Q m' E' K'): aB C az L l E h R:=by
  rw [a.eq]; exact Ki n (.o L l) E _ e hw
theorem zK {I:Ex→List (Nat×V)→H→Prop}(n:Nat)[a:Sm C az I Q](e:runM az n (.c f) E (Sm.K C az I)=some (m',E',K'))(hw:Gl C az h Q m' E' K'): WP C az f E h I:=by
  rw [a.eq]; exact Ki n (.c f) E _ e hw
end
section
variable {C:dF} {az:Nat} {L l rest:List Oper} {o:Oper} {E:List (Nat×V)} {h h₁:H} {d:Nat}
def OpR (C:dF)(E:List (Nat×V))(h:H)(o:Oper)(R:V→H→Prop): Prop:=∃v h₁,R v h₁∧∀env,kS env E→∃N,evOp C (ev C N) env h o=some (v,h₁)
theorem OpR.call {cl:Go.Call}{x:Operand}{k:FuncId}{first cap args:List V}{R:V→H→Prop}(J:o.op=.call cl)(hc:cl.callee=.value x)(hx:lookO E x=some (.fn (.func k) first cap))
 (ha:lookArgs E cl.args.toList=some args)(I:Am.Call C k (first++(args++cap)) h R): OpR C E h o R:=by
 obtain ⟨v,h₁,U,hr⟩:=I
 exact ⟨v,h₁,hr,fun env hE=>Fg hE J hc hx ha U⟩
theorem OpR.of {v:V}{R:V→H→Prop}(ho:opE C.P E h o.op=some (v,h₁))(I:R v h₁): OpR C E h o R:=⟨v,h₁,I,fun _ J=>⟨0,CJ J ho⟩⟩
theorem aB.any {R:List (Nat×V)→H→Prop}{xn:V→H→Prop}(hg:wantE L E o.guard=some true)(hd:o.dst=some d)(hn:Nat.blt d az=true)(ho:OpR C E h o xn)
 (hw:∀v h₁,xn v h₁→aB C az L rest ((d,v)::E) h₁ R): aB C az L (o::rest) E h R:=by
 intro env J
 obtain ⟨v,h₁,hr,U⟩:=ho
 obtain ⟨N,hN⟩:=U env J
 obtain ⟨M,I,h',E',h1,h2,h3⟩:=hw v h₁ hr (env.set d (some v)) (J.set d v)
 refine ⟨Nat.max N M,I,h',E',?_,h2,h3⟩
 simp only [evOps,kT J hg,ag,mK (gz (pL N M)) hN,St.put,hd,hn]
 exact tg (gz (pJ N M)) _ _ _ h1
def LJ : List (Env×V)→List (List (Nat×V)×V)→Prop
 | [],[]=>True
 | x::l,y::m=>kS x.1 y.1∧x.2=y.2∧LJ l m
 | _,_=>False
def aA (C:dF)(az:Nat)(L l:List Oper)(E:List (Nat×V))(h:H)(hs:List H)(Q:List (Nat×V)→H→List (List (Nat×V)×V)→List H→Prop): Prop :=
 ∀env,kS env E→∃N I h' E' tr U J,trace C (ev C N) L l ⟨env,az,h⟩ hs=some (tr,J,⟨I,az,h'⟩)∧kS I E'∧LJ tr U∧Q E' h' U J
variable {hs:List H} {Q:List (Nat×V)→H→List (List (Nat×V)×V)→List H→Prop}
theorem aA.nil (I:Q E h [] hs): aA C az L [] E h hs Q:=fun env J=>⟨0,env,h,E,[],[],hs,rfl,J,aa,I⟩
theorem aA.any {xn:V→H→Prop}{e:Bool}(hg:wantE L E o.guard=some true)(hd:o.dst=some d)(hn:Nat.blt d az=true)(he:isEff C o.op=e)(ho:OpR C E h o xn)
 (hw:∀v h₁,xn v h₁→aA C az L rest ((d,v)::E) h₁ (cond e (hs++[h₁]) hs) fun E' h' ts I=>Q E' h' ((E,v)::ts) I): aA C az L (o::rest) E h hs Q:=by
 intro env U
 obtain ⟨v,h₁,hr,mW⟩:=ho
 obtain ⟨N,hN⟩:=mW env U
 obtain ⟨M,J,h',E',tr,ts,I,h1,h2,h3,h4⟩:=hw v h₁ hr (env.set d (some v)) (U.set d v)
 refine ⟨Nat.max N M,J,h',E',(env,v)::tr,(E,v)::ts,I,?_,h2,⟨U,rfl,h3⟩,h4⟩
 simp only [trace,kT U hg,ag,mK (gz (pL N M)) hN,St.put,hd,hn,he]
 rw [xk (gz (pJ N M)) _ _ _ _ h1]
theorem aA.h_ {xn:V→H→Prop}{e:Bool}(hg:wantE L E o.guard=some true)(hd:o.dst=none)(he:isEff C o.op=e)(ho:OpR C E h o xn)
 (hw:∀v h₁,xn v h₁→aA C az L rest E h₁ (cond e (hs++[h₁]) hs) fun E' h' ts I=>Q E' h' ((E,v)::ts) I): aA C az L (o::rest) E h hs Q:=by
 intro env U
 obtain ⟨v,h₁,hr,mW⟩:=ho
 obtain ⟨N,hN⟩:=mW env U
 obtain ⟨M,J,h',E',tr,ts,I,h1,h2,h3,h4⟩:=hw v h₁ hr env U
 refine ⟨Nat.max N M,J,h',E',(env,v)::tr,(E,v)::ts,I,?_,h2,⟨U,rfl,h3⟩,h4⟩
 simp only [trace,kT U hg,ag,mK (gz (pL N M)) hN,St.put,hd,he]
 rw [xk (gz (pJ N M)) _ _ _ _ h1]
theorem aA.op {v:V}(J:wantE L E o.guard=some true)(U:o.dst=some d)(hn:Nat.blt d az=true)(he:isEff C o.op=false)(ho:opE C.P E h o.op=some (v,h))
 (hw:aA C az L rest ((d,v)::E) h hs fun E' h' ts I=>Q E' h' ((E,v)::ts) I): aA C az L (o::rest) E h hs Q :=
 aA.any J U hn he (OpR.of (R:=fun v' h'=>v'=v∧h'=h) ho ⟨rfl,rfl⟩) (fun v' h' hr=>by obtain ⟨rfl,rfl⟩:=hr; exact hw)
theorem aA.no {e:Bool}(hg:wantE L E o.guard=some false)(hd:o.dst=some d)(hn:Nat.blt d az=true)(he:isEff C o.op=e)
 (hw:aA C az L rest ((d,cz)::E) h (cond e (hs++[h]) hs) fun E' h' U I=>Q E' h' ((E,cz)::U) I): aA C az L (o::rest) E h hs Q:=by
 intro env hE
 obtain ⟨M,J,h',E',tr,U,I,h1,h2,h3,h4⟩:=hw (env.set d (some cz)) (hE.set d cz)
 refine ⟨M,J,h',E',(env,cz)::tr,(E,cz)::U,I,?_,h2,⟨hE,rfl,h3⟩,h4⟩
 simp only [trace,kT hE hg,ay,St.put,hd,hn,ag,he]
 rw [h1]
def G3 (C:dF)(L:List Oper)(o:Oper)(x:List (Nat×V)×V)(h:H): Prop :=
 wantE L x.1 o.guard=some false∨(wantE L x.1 o.guard=some true∧(∃h',opE C.P x.1 h o.op=some (x.2,h'))∧x.2.beq x.2=true)
def Gg (C:dF)(L:List Oper)(an es:List Nat)(hs:List H): List Oper→List (List (Nat×V)×V)→Nat→Prop
 | o::l,x::tr,i=>(isEff C o.op=true∨(lF ((nth an i).getD 0) es&&Nat.beq (iw ((nth an i).getD 0) es) (kn an i es))=true ∨
   (lF ((nth an i).getD 0) es=true∧∀h∈(hs.drop (iw ((nth an i).getD 0) es)).take (kn an i es+1-iw ((nth an i).getD 0) es),G3 C L o x h))∧Gg C L an es hs l tr (i+1)
 | [],[],_=>True
 | _,_,_=>False
theorem NL {self:Self}{x:Env×V}{y:List (Nat×V)×V}(J:kS x.1 y.1)(hv:x.2=y.2): ∀(hs:List H),(∀h∈hs,G3 C L o y h)→sameIn C self L o x hs=true:=by
 intro hs
 induction hs with
 | nil=>intro _; rfl
 | cons h hs ih =>
  intro I
  simp only [sameIn]
  rcases I h br with U | ⟨U,⟨h',ho⟩,hb⟩
  ·rw [kT J U,ay]
  ·rw [kT J U,ag,CJ J ho]
   simp only
   rw [hv,hb,ag]
   exact ih (fun h hh=>I h (bp _ hh))
theorem NM {self:Self}{an es:List Nat}: ∀(l:List Oper) (tr:List (Env×V)) (J:List (List (Nat×V)×V)) (i:Nat),LJ tr J→Gg C L an es hs l J i→stayOk C self L an es hs l tr i=true:=by
 intro l
 induction l with
 | nil=>intro tr J i hn U; cases tr <;> cases J <;> first | rfl | (exact U.elim) | (exact hn.elim)
 | cons o l ih =>
  intro tr J i hn U
  cases tr with
  | nil=>cases J with
   | nil=>exact U.elim
   | cons y J=>exact hn.elim
  | cons x tr =>
   cases J with
   | nil=>exact hn.elim
   | cons y J =>
    obtain ⟨n1,n2,n3⟩:=hn
    obtain ⟨s1,s2⟩:=U
    simp only [stayOk]
    have I:=ih tr J (i+1) n3 s2
    cases he:isEff C o.op with
    | true=>rw [ag]; exact I
    | false =>
     rw [ay]
     rcases s1 with s1 | s1 | ⟨s1,s3⟩
     ·rw [he] at s1; cases s1
     ·rw [s1,ag]; exact I
     ·cases hq:(lF ((nth an i).getD 0) es&&Nat.beq (iw ((nth an i).getD 0) es) (kn an i es)) with
      | true=>rw [ag]; exact I
      | false=>rw [ay,s1,NL n1 n2 _ s3,iD,ag]; exact I
theorem WP.draw {id:Nat}{ops:Array Oper}{Q:Ex→List (Nat×V)→H→Prop}(hl:ops.toList=L)(J:rE C L=true)
 (hw:aA C az L L E h [h] fun E' h' U hs=>Gg C L (ancs L []) (dG C L 0) hs L U 0∧Q .normal E' h'): WP C az (.region id ops true) E h Q:=by
 intro env hE
 obtain ⟨N,I,h',E',tr,U,Ff,h1,h2,h3,h4,h5⟩:=hw env hE
 refine ⟨N+1,.normal,I,h',E',?_,h2,h5⟩
 subst hl
 rw [kK]
 simp only [evStep,ag,oH,J,h1,NM _ _ _ _ h3 h4]
end
def planOk (C:dF)(an es:List Nat): List Oper→List (Option (Nat×Nat))→Nat→Bool
 | [],[],_=>true
 | o::l,p::ps,i=>(match p with
   | none=>isEff C o.op||(lF ((nth an i).getD 0) es&&Nat.beq (iw ((nth an i).getD 0) es) (kn an i es))
   | some (lo,n)=>lF ((nth an i).getD 0) es&&Nat.beq lo (iw ((nth an i).getD 0) es)&&Nat.beq n (kn an i es+1-iw ((nth an i).getD 0) es))&&planOk C an es l ps (i+1)
 | _,_,_=>false
def CT (C:dF)(L:List Oper)(hs:List H): List Oper→List (List (Nat×V)×V)→List (Option (Nat×Nat))→Prop
 | o::l,x::tr,p::ps=>(match p with
   | none=>True
   | some (lo,n)=>∀h∈(hs.drop lo).take n,G3 C L o x h)∧CT C L hs l tr ps
 | [],[],_=>True
 | _,_,_=>False
theorem CT.stay {C:dF}{L:List Oper}{hs:List H}{an es:List Nat}: ∀(l:List Oper) (I:List (List (Nat×V)×V)) (ps:List (Option (Nat×Nat))) (i:Nat),planOk C an es l ps i=true→CT C L hs l I ps→Gg C L an es hs l I i:=by
 intro l
 induction l with
 | nil=>intro I ps i h1 U; cases I with
  | nil=>trivial
  | cons x I=>exact U.elim
 | cons o l ih =>
  intro I ps i h1 U
  cases I with
  | nil=>cases ps <;> exact U.elim
  | cons x I =>
   cases ps with
   | nil=>exact U.elim
   | cons p ps =>
    simp only [planOk,aZ] at h1
    obtain ⟨J,a2⟩:=h1
    obtain ⟨b1,b2⟩:=U
    refine ⟨?_,ih I ps (i+1) a2 b2⟩
    cases p with
    | none =>
     simp only [m8] at J
     rcases J with J | J
     ·exact .inl J
     ·exact .inr (.inl J)
    | some q =>
     obtain ⟨lo,n⟩:=q
     simp only [aZ,beq_iff] at J
     obtain ⟨⟨c1,c2⟩,c3⟩:=J
     refine .inr (.inr ⟨c1,?_⟩)
     subst c2
     subst c3
     exact b1
theorem WP.drawn {C:dF}{az:Nat}{L:List Oper}{E:List (Nat×V)}{h:H}{id:Nat}{ops:Array Oper}{Q:Ex→List (Nat×V)→H→Prop}(ps:List (Option (Nat×Nat)))(hl:ops.toList=L)(J:rE C L=true)
 (hp:planOk C (ancs L []) (dG C L 0) L ps 0=true)
 (hw:aA C az L L E h [h] fun E' h' U hs=>CT C L hs L U ps∧Q .normal E' h'): WP C az (.region id ops true) E h Q:=by
 refine WP.draw hl J ?_
 intro env hE
 obtain ⟨N,I,h',E',tr,U,Ff,h1,h2,h3,h4,h5⟩:=hw env hE
 exact ⟨N,I,h',E',tr,U,Ff,h1,h2,h3,CT.stay _ _ _ _ hp h4,h5⟩
theorem dX {a b:H}{l:List H}{p:H→Prop}(J:p a)(U:p b): ∀x∈((a::b::l).drop 0).take 2,p x:=by
 intro x I
 simp only [d_,DX,pN,fo,mo,rD] at I
 rcases I with rfl | rfl
 ·exact J
 ·exact U
theorem wE {a b c:H}{l:List H}{p:H→Prop}(J:p a)(U:p b)(hc:p c): ∀x∈((a::b::c::l).drop 0).take 3,p x:=by
 intro x I
 simp only [d_,DX,pN,fo,mo,rD] at I
 rcases I with rfl | rfl | rfl
 ·exact J
 ·exact U
 ·exact hc
theorem dK (k:IntKind): ikBeq k k=true:=by cases k <;> rfl
theorem lU (n:Int): intBeq n n=true:=by cases n <;> simp [intBeq]
theorem By (c:Cap): c.beq c=true:=by cases c <;> simp [Cap.beq]
theorem CU (a b c:Nat)(d:Cap): (V.sl a b c d).beq (.sl a b c d)=true:=by simp [V.beq,By]
theorem dc {h:H}{v:V}{l:List Nat}(I:View h v l): v.beq v=true:=by
 obtain ⟨_,I⟩:=I
 rcases I with ⟨rfl | ⟨J,rfl⟩,_⟩ | ⟨id,off,cap,n,cs,st,rfl,_⟩
 ·simp [V.beq]
 ·simp [V.beq]
 ·exact CU _ _ _ _
section
variable {C:dF} {az:Nat} {L rest:List Oper} {E:List (Nat×V)} {h:H} {hs:List H} {Q:List (Nat×V)→H→List (List (Nat×V)×V)→List H→Prop} {o:Oper} {d i:Nat} {v u r:V} {x y a b:Operand} {t t':TypeId}
theorem zM (e:(o.op,wantE L E o.guard,o.dst,Nat.blt d az,isEff C o.op,lookO E x)=(Op.move x,some true,some d,true,false,some v))(hw:aA C az L rest ((d,v)::E) h hs fun E' h' J I=>Q E' h' ((E,v)::J) I): aA C az L (o::rest) E h hs Q:=by
  simp only [aP] at e; exact aA.op e.2.1 e.2.2.1 e.2.2.2.1 e.2.2.2.2.1 (by rw [e.1]; exact bn e.2.2.2.2.2) hw
theorem zA (e:(o.op,wantE L E o.guard,o.dst,Nat.blt d az,isEff C o.op,lookO E x)=(Op.assign x,some true,some d,true,false,some v))(hw:aA C az L rest ((d,v)::E) h hs fun E' h' J I=>Q E' h' ((E,v)::J) I): aA C az L (o::rest) E h hs Q:=by
  simp only [aP] at e; exact aA.op e.2.1 e.2.2.1 e.2.2.2.1 e.2.2.2.2.1 (by rw [e.1]; exact fg e.2.2.2.2.2) hw
theorem zN {j k:Nat}(e:(o.op,wantE L E o.guard,o.dst,Nat.blt d az,isEff C o.op,lookO E x)=(Op.nilCheck x,some true,some d,true,false,some (V.ptr j k)))(hw:aA C az L rest ((d,.ptr j k)::E) h hs fun E' h' J I=>Q E' h' ((E,.ptr j k)::J) I): aA C az L (o::rest) E h hs Q:=by
  simp only [aP] at e; exact aA.op e.2.1 e.2.2.1 e.2.2.2.1 e.2.2.2.2.1 (by rw [e.1]; exact kq e.2.2.2.2.2) hw
theorem zF (e:(o.op,wantE L E o.guard,o.dst,Nat.blt d az,isEff C o.op,lookO E x)=(Op.fieldAddr t x i,some true,some d,true,false,some v))(J:fieldAddrV C.P t v i=some r)(hw:aA C az L rest ((d,r)::E) h hs fun E' h' U I=>Q E' h' ((E,r)::U) I): aA C az L (o::rest) E h hs Q:=by
  simp only [aP] at e; exact aA.op e.2.1 e.2.2.1 e.2.2.2.1 e.2.2.2.2.1 (by rw [e.1]; exact jI e.2.2.2.2.2 J) hw
theorem zL (e:(o.op,wantE L E o.guard,o.dst,Nat.blt d az,isEff C o.op,lookO E x)=(Op.load t x,some true,some d,true,false,some v))(J:loadV C.P h t v=some r)(hw:aA C az L rest ((d,r)::E) h hs fun E' h' U I=>Q E' h' ((E,r)::U) I): aA C az L (o::rest) E h hs Q:=by
  simp only [aP] at e; exact aA.op e.2.1 e.2.2.1 e.2.2.2.1 e.2.2.2.2.1 (by rw [e.1]; exact aW e.2.2.2.2.2 J) hw
theorem zO (e:(wantE L E o.guard,o.dst,Nat.blt d az,isEff C o.op)=(some true,some d,true,false))(ho:opE C.P E h o.op=some (v,h))(hw:aA C az L rest ((d,v)::E) h hs fun E' h' J I=>Q E' h' ((E,v)::J) I): aA C az L (o::rest) E h hs Q:=by
  simp only [aP] at e; exact aA.op e.1 e.2.1 e.2.2.1 e.2.2.2 ho hw
end
end Go.Proofs.YtconhghphklfjaaGreat.Am
