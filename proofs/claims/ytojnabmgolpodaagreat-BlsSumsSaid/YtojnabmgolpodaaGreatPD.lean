/- Part 4 of the proof: Rb, Rc, Rd, Re, Rf, Rg, Kf, Kg, Kh, Ki, Kj, Kk, Kl, Km, Kn, Ia, Ib, Ic, Id, Rh, Ha, Hb, Hc, He, Hf, Hd, Ja, Jb, Jc, Jd. -/
import Derived.Test.YtojnabmgolpodaaGreatPC
import Derived.Test.YtojnabmgolpodaaGreatPB
namespace Go.Proofs.YtojnabmgolpodaaGreat.Rg
set_option maxRecDepth 100000
set_option maxHeartbeats 4000000
theorem AGi {F:Type} [CR F] (x1 y1 x2 y2 l b:F) (hl:(l*(x2-x1))=(y2-y1)) (c1:(y1*y1)=(((x1*x1)*x1)+b)) (c2:(y2*y2)=(((x2*x2)*x2)+b)):((x2-x1)*((((x1*x2)+(x1*(((l*l)-x1)-x2)))+(x2*(((l*l)-x1)-x2)))+((l*(y1-(l*x1)))+(l*(y1-(l*x1))))))=0 :=
 AO.1 (A5 [x1,y1,x2,y2,l,b] (.sub (.mul (.sub (.v 2) (.v 0)) (.add (.add (.add (.mul (.v 0) (.v 2)) (.mul (.v 0) (.sub (.sub (.mul (.v 4) (.v 4)) (.v 0)) (.v 2)))) (.mul (.v 2) (.sub (.sub (.mul (.v 4) (.v 4)) (.v 0)) (.v 2)))) (.add (.mul (.v 4) (.sub (.v 1) (.mul (.v 4) (.v 0)))) (.mul (.v 4) (.sub (.v 1) (.mul (.v 4) (.v 0))))))) (.c 0)) [((.add (.add (.neg (.mul (.v 0) (.v 4))) (.v 1)) (.add (.mul (.v 2) (.v 4)) (.v 3))),.sub (.mul (.v 4) (.sub (.v 2) (.v 0))) (.sub (.v 3) (.v 1))),
  ((.c (-1)),.sub (.mul (.v 1) (.v 1)) (.add (.mul (.mul (.v 0) (.v 0)) (.v 0)) (.v 5))),
  ((.c 1),.sub (.mul (.v 3) (.v 3)) (.add (.mul (.mul (.v 2) (.v 2)) (.v 2)) (.v 5)))] ⟨AO.2 hl,AO.2 c1,AO.2 c2,trivial⟩ (by kernel_rfl))
theorem AGj {F:Type} [CR F] (x y l:F) (hl:((y+y)*l)=(((x*x)+(x*x))+(x*x))):((((x*x)+(x*(((l*l)-x)-x)))+(x*(((l*l)-x)-x)))+((l*(y-(l*x)))+(l*(y-(l*x)))))=0 :=
 AO.1 (A5 [x,y,l] (.sub (.add (.add (.add (.mul (.v 0) (.v 0)) (.mul (.v 0) (.sub (.sub (.mul (.v 2) (.v 2)) (.v 0)) (.v 0)))) (.mul (.v 0) (.sub (.sub (.mul (.v 2) (.v 2)) (.v 0)) (.v 0)))) (.add (.mul (.v 2) (.sub (.v 1) (.mul (.v 2) (.v 0)))) (.mul (.v 2) (.sub (.v 1) (.mul (.v 2) (.v 0)))))) (.c 0)) [((.c 1),.sub (.mul (.add (.v 1) (.v 1)) (.v 2)) (.add (.add (.mul (.v 0) (.v 0)) (.mul (.v 0) (.v 0))) (.mul (.v 0) (.v 0))))] ⟨AO.2 hl,trivial⟩ (by kernel_rfl))
theorem AGk {F:Type} [CR F] (x1 y1 x2 l b:F) (e2:((((x1*x2)+(x1*(((l*l)-x1)-x2)))+(x2*(((l*l)-x1)-x2)))+((l*(y1-(l*x1)))+(l*(y1-(l*x1)))))=0) (c1:(y1*y1)=(((x1*x1)*x1)+b)):(((x1*x2)*(((l*l)-x1)-x2))+b)=((y1-(l*x1))*(y1-(l*x1))) :=
 AO.1 (A5 [x1,y1,x2,l,b] (.sub (.add (.mul (.mul (.v 0) (.v 2)) (.sub (.sub (.mul (.v 3) (.v 3)) (.v 0)) (.v 2))) (.v 4)) (.mul (.sub (.v 1) (.mul (.v 3) (.v 0))) (.sub (.v 1) (.mul (.v 3) (.v 0))))) [((.v 0),.sub (.add (.add (.add (.mul (.v 0) (.v 2)) (.mul (.v 0) (.sub (.sub (.mul (.v 3) (.v 3)) (.v 0)) (.v 2)))) (.mul (.v 2) (.sub (.sub (.mul (.v 3) (.v 3)) (.v 0)) (.v 2)))) (.add (.mul (.v 3) (.sub (.v 1) (.mul (.v 3) (.v 0)))) (.mul (.v 3) (.sub (.v 1) (.mul (.v 3) (.v 0)))))) (.c 0)),
  ((.c (-1)),.sub (.mul (.v 1) (.v 1)) (.add (.mul (.mul (.v 0) (.v 0)) (.v 0)) (.v 4)))] ⟨AO.2 e2,AO.2 c1,trivial⟩ (by kernel_rfl))
theorem AGl {F:Type} [CR F] (x1 y1 x2 x3 l n b:F) (h1:y1=((l*x1)+n)) (e1:((x1+x2)+x3)=(l*l)) (e2:((((x1*x2)+(x1*x3))+(x2*x3))+((l*n)+(l*n)))=0) (e3:(((x1*x2)*x3)+b)=(n*n)):(y1*y1)=(((x1*x1)*x1)+b) :=
 AO.1 (A5 [x1,y1,x2,x3,l,n,b] (.sub (.mul (.v 1) (.v 1)) (.add (.mul (.mul (.v 0) (.v 0)) (.v 0)) (.v 6))) [((.add (.mul (.v 0) (.v 4)) (.add (.v 1) (.v 5))),.sub (.v 1) (.add (.mul (.v 4) (.v 0)) (.v 5))),
  ((.neg (.pw (.v 0) 2)),.sub (.add (.add (.v 0) (.v 2)) (.v 3)) (.mul (.v 4) (.v 4))),
  ((.v 0),.sub (.add (.add (.add (.mul (.v 0) (.v 2)) (.mul (.v 0) (.v 3))) (.mul (.v 2) (.v 3))) (.add (.mul (.v 4) (.v 5)) (.mul (.v 4) (.v 5)))) (.c 0)),
  ((.c (-1)),.sub (.add (.mul (.mul (.v 0) (.v 2)) (.v 3)) (.v 6)) (.mul (.v 5) (.v 5)))] ⟨AO.2 h1,AO.2 e1,AO.2 e2,AO.2 e3,trivial⟩ (by kernel_rfl))
theorem qC {F:Type} [CR F] (x1 y1 x3 l n:F) (h1:y1=((l*x1)+n)) (e1:((x1+x1)+x3)=(l*l)) (e2:((((x1*x1)+(x1*x3))+(x1*x3))+((l*n)+(l*n)))=0):((y1+y1)*l)=(((x1*x1)+(x1*x1))+(x1*x1)) :=
 AO.1 (A5 [x1,y1,x3,l,n] (.sub (.mul (.add (.v 1) (.v 1)) (.v 3)) (.add (.add (.mul (.v 0) (.v 0)) (.mul (.v 0) (.v 0))) (.mul (.v 0) (.v 0)))) [((.mul (.c 2) (.v 3)),.sub (.v 1) (.add (.mul (.v 3) (.v 0)) (.v 4))),
  ((.mul (.c (-2)) (.v 0)),.sub (.add (.add (.v 0) (.v 0)) (.v 2)) (.mul (.v 3) (.v 3))),
  ((.c 1),.sub (.add (.add (.add (.mul (.v 0) (.v 0)) (.mul (.v 0) (.v 2))) (.mul (.v 0) (.v 2))) (.add (.mul (.v 3) (.v 4)) (.mul (.v 3) (.v 4)))) (.c 0))] ⟨AO.2 h1,AO.2 e1,AO.2 e2,trivial⟩ (by kernel_rfl))
theorem AGm {F:Type} [CR F] (x1 y1 x3 y3 l n:F) (h1:y1=((l*x1)+n)) (h3:y3=((l*x3)+n)):((l*(x1-x3))-y1)=(-y3) :=
 AO.1 (A5 [x1,y1,x3,y3,l,n] (.sub (.sub (.mul (.v 4) (.sub (.v 0) (.v 2))) (.v 1)) (.neg (.v 3))) [((.c (-1)),.sub (.v 1) (.add (.mul (.v 4) (.v 0)) (.v 5))),
  ((.c 1),.sub (.v 3) (.add (.mul (.v 4) (.v 2)) (.v 5)))] ⟨AO.2 h1,AO.2 h3,trivial⟩ (by kernel_rfl))
theorem AGn {F:Type} [CR F] (x1 x2 x3 l:F) (e1:((x1+x2)+x3)=(l*l)):(((l*l)-x1)-x2)=x3 :=
 AO.1 (A5 [x1,x2,x3,l] (.sub (.sub (.sub (.mul (.v 3) (.v 3)) (.v 0)) (.v 1)) (.v 2)) [((.c (-1)),.sub (.add (.add (.v 0) (.v 1)) (.v 2)) (.mul (.v 3) (.v 3)))] ⟨AO.2 e1,trivial⟩ (by kernel_rfl))
theorem OV {F:Type} [CR F] (x1 y1 x2 y2 l n:F) (h1:y1=((l*x1)+n)) (h2:y2=((l*x2)+n)):((x2-x1)*l)=(y2-y1) :=
 AO.1 (A5 [x1,y1,x2,y2,l,n] (.sub (.mul (.sub (.v 2) (.v 0)) (.v 4)) (.sub (.v 3) (.v 1))) [((.c 1),.sub (.v 1) (.add (.mul (.v 4) (.v 0)) (.v 5))),
  ((.c (-1)),.sub (.v 3) (.add (.mul (.v 4) (.v 2)) (.v 5)))] ⟨AO.2 h1,AO.2 h2,trivial⟩ (by kernel_rfl))
theorem AGo {F:Type} [CR F] (x1 x2 x3 k:F) (e:((x1+x2)+x3)=k):((x2+x1)+x3)=k :=
 AO.1 (A5 [x1,x2,x3,k] (.sub (.add (.add (.v 1) (.v 0)) (.v 2)) (.v 3)) [((.c 1),.sub (.add (.add (.v 0) (.v 1)) (.v 2)) (.v 3))] ⟨AO.2 e,trivial⟩ (by kernel_rfl))
theorem AGp {F:Type} [CR F] (x1 x2 x3 k:F) (e:((x1+x2)+x3)=k):((x2+x3)+x1)=k :=
 AO.1 (A5 [x1,x2,x3,k] (.sub (.add (.add (.v 1) (.v 2)) (.v 0)) (.v 3)) [((.c 1),.sub (.add (.add (.v 0) (.v 1)) (.v 2)) (.v 3))] ⟨AO.2 e,trivial⟩ (by kernel_rfl))
theorem AGq {F:Type} [CR F] (x1 x2 x3 k:F) (e:((((x1*x2)+(x1*x3))+(x2*x3))+k)=0):((((x2*x1)+(x2*x3))+(x1*x3))+k)=0 :=
 AO.1 (A5 [x1,x2,x3,k] (.sub (.add (.add (.add (.mul (.v 1) (.v 0)) (.mul (.v 1) (.v 2))) (.mul (.v 0) (.v 2))) (.v 3)) (.c 0)) [((.c 1),.sub (.add (.add (.add (.mul (.v 0) (.v 1)) (.mul (.v 0) (.v 2))) (.mul (.v 1) (.v 2))) (.v 3)) (.c 0))] ⟨AO.2 e,trivial⟩ (by kernel_rfl))
theorem AGr {F:Type} [CR F] (x1 x2 x3 k:F) (e:((((x1*x2)+(x1*x3))+(x2*x3))+k)=0):((((x2*x3)+(x2*x1))+(x3*x1))+k)=0 :=
 AO.1 (A5 [x1,x2,x3,k] (.sub (.add (.add (.add (.mul (.v 1) (.v 2)) (.mul (.v 1) (.v 0))) (.mul (.v 2) (.v 0))) (.v 3)) (.c 0)) [((.c 1),.sub (.add (.add (.add (.mul (.v 0) (.v 1)) (.mul (.v 0) (.v 2))) (.mul (.v 1) (.v 2))) (.v 3)) (.c 0))] ⟨AO.2 e,trivial⟩ (by kernel_rfl))
theorem AGs {F:Type} [CR F] (x1 x2 x3 b k:F) (e:(((x1*x2)*x3)+b)=k):(((x2*x1)*x3)+b)=k :=
 AO.1 (A5 [x1,x2,x3,b,k] (.sub (.add (.mul (.mul (.v 1) (.v 0)) (.v 2)) (.v 3)) (.v 4)) [((.c 1),.sub (.add (.mul (.mul (.v 0) (.v 1)) (.v 2)) (.v 3)) (.v 4))] ⟨AO.2 e,trivial⟩ (by kernel_rfl))
theorem AGt {F:Type} [CR F] (x1 x2 x3 b k:F) (e:(((x1*x2)*x3)+b)=k):(((x2*x3)*x1)+b)=k :=
 AO.1 (A5 [x1,x2,x3,b,k] (.sub (.add (.mul (.mul (.v 1) (.v 2)) (.v 0)) (.v 3)) (.v 4)) [((.c 1),.sub (.add (.mul (.mul (.v 0) (.v 1)) (.v 2)) (.v 3)) (.v 4))] ⟨AO.2 e,trivial⟩ (by kernel_rfl))
theorem Zf {F:Type} [CR F] (x y l n:F) (h:y=((l*x)+n)):(-y)=(((-l)*x)+(-n)) :=
 AO.1 (A5 [x,y,l,n] (.sub (.neg (.v 1)) (.add (.mul (.neg (.v 2)) (.v 0)) (.neg (.v 3)))) [((.c (-1)),.sub (.v 1) (.add (.mul (.v 2) (.v 0)) (.v 3)))] ⟨AO.2 h,trivial⟩ (by kernel_rfl))
theorem neg_sq {F:Type} [CR F] (l:F) :((-l)*(-l))=(l*l) :=
 AO.1 (A5 [l] (.sub (.mul (.neg (.v 0)) (.neg (.v 0))) (.mul (.v 0) (.v 0))) [] trivial (by kernel_rfl))
theorem AGu {F:Type} [CR F] (l n:F) :(((-l)*(-n))+((-l)*(-n)))=((l*n)+(l*n)) :=
 AO.1 (A5 [l,n] (.sub (.add (.mul (.neg (.v 0)) (.neg (.v 1))) (.mul (.neg (.v 0)) (.neg (.v 1)))) (.add (.mul (.v 0) (.v 1)) (.mul (.v 0) (.v 1)))) [] trivial (by kernel_rfl))
theorem AGv {F:Type} [CR F] (y1 y2 k:F) (h1:(y1*y1)=k) (h2:(y2*y2)=k):((y1-y2)*(y1+y2))=0 :=
 AO.1 (A5 [y1,y2,k] (.sub (.mul (.sub (.v 0) (.v 1)) (.add (.v 0) (.v 1))) (.c 0)) [((.c 1),.sub (.mul (.v 0) (.v 0)) (.v 2)),
  ((.c (-1)),.sub (.mul (.v 1) (.v 1)) (.v 2))] ⟨AO.2 h1,AO.2 h2,trivial⟩ (by kernel_rfl))
theorem UX {F:Type} [CR F] (x y1 y2 l n:F) (h1:y1=((l*x)+n)) (h2:y2=((l*x)+n)):y1=y2 :=
 AO.1 (A5 [x,y1,y2,l,n] (.sub (.v 1) (.v 2)) [((.c 1),.sub (.v 1) (.add (.mul (.v 3) (.v 0)) (.v 4))),
  ((.c (-1)),.sub (.v 2) (.add (.mul (.v 3) (.v 0)) (.v 4)))] ⟨AO.2 h1,AO.2 h2,trivial⟩ (by kernel_rfl))
theorem AGw {F:Type} [CR F] (x1 x2 y2 x4 l n:F) (h2:y2=((l*x2)+n)) (e1:((x1+x2)+x4)=(l*l)) (e2:((((x1*x2)+(x1*x4))+(x2*x4))+((l*n)+(l*n)))=0):(((l*y2)+(l*y2))+((l*l)*(x1-x2)))=(((x1*x1)+(x1*x2))+(x2*x2)) :=
 AO.1 (A5 [x1,x2,y2,x4,l,n] (.sub (.add (.add (.mul (.v 4) (.v 2)) (.mul (.v 4) (.v 2))) (.mul (.mul (.v 4) (.v 4)) (.sub (.v 0) (.v 1)))) (.add (.add (.mul (.v 0) (.v 0)) (.mul (.v 0) (.v 1))) (.mul (.v 1) (.v 1)))) [((.mul (.c 2) (.v 4)),.sub (.v 2) (.add (.mul (.v 4) (.v 1)) (.v 5))),
  ((.add (.neg (.v 0)) (.neg (.v 1))),.sub (.add (.add (.v 0) (.v 1)) (.v 3)) (.mul (.v 4) (.v 4))),
  ((.c 1),.sub (.add (.add (.add (.mul (.v 0) (.v 1)) (.mul (.v 0) (.v 3))) (.mul (.v 1) (.v 3))) (.add (.mul (.v 4) (.v 5)) (.mul (.v 4) (.v 5)))) (.c 0))] ⟨AO.2 h2,AO.2 e1,AO.2 e2,trivial⟩ (by kernel_rfl))
theorem qF {F:Type} [CR F] (x2 y2 x3 x5 m q:F) (h2:y2=((m*x2)+q)) (e1:((x2+x3)+x5)=(m*m)) (e2:((((x2*x3)+(x2*x5))+(x3*x5))+((m*q)+(m*q)))=0):(((m*y2)+(m*y2))+((m*m)*(x3-x2)))=(((x3*x3)+(x3*x2))+(x2*x2)) :=
 AO.1 (A5 [x2,y2,x3,x5,m,q] (.sub (.add (.add (.mul (.v 4) (.v 1)) (.mul (.v 4) (.v 1))) (.mul (.mul (.v 4) (.v 4)) (.sub (.v 2) (.v 0)))) (.add (.add (.mul (.v 2) (.v 2)) (.mul (.v 2) (.v 0))) (.mul (.v 0) (.v 0)))) [((.mul (.c 2) (.v 4)),.sub (.v 1) (.add (.mul (.v 4) (.v 0)) (.v 5))),
  ((.add (.neg (.v 0)) (.neg (.v 2))),.sub (.add (.add (.v 0) (.v 2)) (.v 3)) (.mul (.v 4) (.v 4))),
  ((.c 1),.sub (.add (.add (.add (.mul (.v 0) (.v 2)) (.mul (.v 0) (.v 3))) (.mul (.v 2) (.v 3))) (.add (.mul (.v 4) (.v 5)) (.mul (.v 4) (.v 5)))) (.c 0))] ⟨AO.2 h2,AO.2 e1,AO.2 e2,trivial⟩ (by kernel_rfl))
theorem AGx {F:Type} [CR F] (x1 x2 x3 y2 l m s t:F) (r1:(((l*y2)+(l*y2))+((l*l)*(x1-x2)))=(((x1*x1)+(x1*x2))+(x2*x2))) (r2:(((m*y2)+(m*y2))+((m*m)*(x3-x2)))=(((x3*x3)+(x3*x2))+(x2*x2))) (hs:(s*((((l*l)-x1)-x2)-x3))=(((l*(x2-(((l*l)-x1)-x2)))-y2)-(y2+(m*(x3-x2))))) (ht:(t*((((m*m)-x2)-x3)-x1))=(((m*(x2-(((m*m)-x2)-x3)))-y2)-(y2+(l*(x1-x2))))):(((((((l*l)-x1)-x2)-x3)*((((l*l)-x1)-x2)-x3))*(((((m*m)-x2)-x3)-x1)*((((m*m)-x2)-x3)-x1)))*(((s*s)-(((l*l)-x1)-x2))-x3))=(((((((l*l)-x1)-x2)-x3)*((((l*l)-x1)-x2)-x3))*(((((m*m)-x2)-x3)-x1)*((((m*m)-x2)-x3)-x1)))*(((t*t)-x1)-(((m*m)-x2)-x3))) :=
 AO.1 (A5 [x1,x2,x3,y2,l,m,s,t] (.sub (.mul (.mul (.mul (.sub (.sub (.sub (.mul (.v 4) (.v 4)) (.v 0)) (.v 1)) (.v 2)) (.sub (.sub (.sub (.mul (.v 4) (.v 4)) (.v 0)) (.v 1)) (.v 2))) (.mul (.sub (.sub (.sub (.mul (.v 5) (.v 5)) (.v 1)) (.v 2)) (.v 0)) (.sub (.sub (.sub (.mul (.v 5) (.v 5)) (.v 1)) (.v 2)) (.v 0)))) (.sub (.sub (.mul (.v 6) (.v 6)) (.sub (.sub (.mul (.v 4) (.v 4)) (.v 0)) (.v 1))) (.v 2))) (.mul (.mul (.mul (.sub (.sub (.sub (.mul (.v 4) (.v 4)) (.v 0)) (.v 1)) (.v 2)) (.sub (.sub (.sub (.mul (.v 4) (.v 4)) (.v 0)) (.v 1)) (.v 2))) (.mul (.sub (.sub (.sub (.mul (.v 5) (.v 5)) (.v 1)) (.v 2)) (.v 0)) (.sub (.sub (.sub (.mul (.v 5) (.v 5)) (.v 1)) (.v 2)) (.v 0)))) (.sub (.sub (.mul (.v 7) (.v 7)) (.v 0)) (.sub (.sub (.mul (.v 5) (.v 5)) (.v 1)) (.v 2))))) [((.add (.add (.add (.add (.add (.mul (.c (-2)) (.pw (.v 0) 3)) (.mul (.mul (.c (-6)) (.pw (.v 0) 2)) (.v 1))) (.add (.mul (.mul (.c (-6)) (.pw (.v 0) 2)) (.v 2)) (.add (.mul (.mul (.c 3) (.pw (.v 0) 2)) (.pw (.v 4) 2)) (.mul (.mul (.c 3) (.pw (.v 0) 2)) (.pw (.v 5) 2))))) (.add (.add (.mul (.mul (.c (-4)) (.v 0)) (.pw (.v 1) 2)) (.add (.mul (.mul (.mul (.c (-10)) (.v 0)) (.v 1)) (.v 2)) (.mul (.mul (.mul (.c 3) (.v 0)) (.v 1)) (.pw (.v 4) 2)))) (.add (.mul (.mul (.mul (.mul (.c (-6)) (.v 0)) (.v 1)) (.v 4)) (.v 5)) (.add (.mul (.mul (.mul (.c 5) (.v 0)) (.v 1)) (.pw (.v 5) 2)) (.mul (.mul (.c (-4)) (.v 0)) (.pw (.v 2) 2)))))) (.add (.add (.add (.mul (.mul (.mul (.c 6) (.v 0)) (.v 2)) (.pw (.v 4) 2)) (.mul (.mul (.mul (.c 4) (.v 0)) (.v 2)) (.pw (.v 5) 2))) (.add (.mul (.mul (.mul (.c 4) (.v 0)) (.v 3)) (.v 4)) (.add (.neg (.mul (.v 0) (.pw (.v 4) 4))) (.mul (.mul (.mul (.c (-3)) (.v 0)) (.pw (.v 4) 2)) (.pw (.v 5) 2))))) (.add (.add (.mul (.mul (.mul (.c 2) (.v 0)) (.v 4)) (.pw (.v 5) 3)) (.add (.mul (.c 2) (.pw (.v 1) 3)) (.mul (.mul (.c 4) (.pw (.v 1) 2)) (.v 2)))) (.add (.neg (.mul (.pw (.v 1) 2) (.pw (.v 4) 2))) (.add (.mul (.mul (.mul (.c (-6)) (.pw (.v 1) 2)) (.v 4)) (.v 5)) (.mul (.pw (.v 1) 2) (.pw (.v 5) 2))))))) (.add (.add (.add (.add (.mul (.mul (.c 4) (.v 1)) (.pw (.v 2) 2)) (.mul (.mul (.mul (.c 2) (.v 1)) (.v 2)) (.pw (.v 4) 2))) (.add (.mul (.mul (.mul (.mul (.c (-6)) (.v 1)) (.v 2)) (.v 4)) (.v 5)) (.add (.mul (.mul (.mul (.c 2) (.v 1)) (.v 2)) (.pw (.v 5) 2)) (.mul (.mul (.mul (.c 4) (.v 1)) (.v 3)) (.v 4))))) (.add (.add (.mul (.mul (.mul (.c (-4)) (.v 1)) (.v 3)) (.v 5)) (.add (.mul (.v 1) (.pw (.v 4) 4)) (.mul (.mul (.mul (.c 4) (.v 1)) (.pw (.v 4) 3)) (.v 5)))) (.add (.neg (.mul (.mul (.v 1) (.pw (.v 4) 2)) (.pw (.v 5) 2))) (.add (.mul (.mul (.mul (.c 4) (.v 1)) (.v 4)) (.pw (.v 5) 3)) (.mul (.mul (.c (-2)) (.v 1)) (.pw (.v 5) 4)))))) (.add (.add (.add (.mul (.c 4) (.pw (.v 2) 3)) (.add (.mul (.mul (.c 2) (.pw (.v 2) 2)) (.pw (.v 4) 2)) (.mul (.mul (.c (-6)) (.pw (.v 2) 2)) (.pw (.v 5) 2)))) (.add (.mul (.mul (.mul (.c 4) (.v 2)) (.v 3)) (.v 4)) (.add (.mul (.mul (.mul (.c (-8)) (.v 2)) (.v 3)) (.v 5)) (.mul (.mul (.mul (.c 2) (.v 2)) (.pw (.v 4) 3)) (.v 5))))) (.add (.add (.mul (.mul (.mul (.c (-2)) (.v 2)) (.pw (.v 4) 2)) (.pw (.v 5) 2)) (.add (.mul (.mul (.c 2) (.v 2)) (.pw (.v 5) 4)) (.mul (.mul (.c (-2)) (.v 3)) (.pw (.v 4) 3)))) (.add (.mul (.mul (.mul (.c (-2)) (.v 3)) (.v 4)) (.pw (.v 5) 2)) (.add (.mul (.mul (.c 4) (.v 3)) (.pw (.v 5) 3)) (.mul (.mul (.c (-2)) (.pw (.v 4) 3)) (.pw (.v 5) 3)))))))),.sub (.add (.add (.mul (.v 4) (.v 3)) (.mul (.v 4) (.v 3))) (.mul (.mul (.v 4) (.v 4)) (.sub (.v 0) (.v 1)))) (.add (.add (.mul (.v 0) (.v 0)) (.mul (.v 0) (.v 1))) (.mul (.v 1) (.v 1)))),
  ((.add (.add (.add (.add (.add (.mul (.mul (.mul (.c 6) (.v 0)) (.v 1)) (.v 2)) (.mul (.mul (.mul (.mul (.c 6) (.v 0)) (.v 1)) (.v 4)) (.v 5))) (.add (.mul (.mul (.c 6) (.v 0)) (.pw (.v 2) 2)) (.mul (.mul (.mul (.c (-6)) (.v 0)) (.v 2)) (.pw (.v 5) 2)))) (.add (.add (.mul (.mul (.mul (.c (-4)) (.v 0)) (.v 3)) (.v 5)) (.mul (.mul (.mul (.c (-2)) (.v 0)) (.v 4)) (.pw (.v 5) 3))) (.add (.mul (.c (-2)) (.pw (.v 1) 3)) (.mul (.mul (.c (-3)) (.pw (.v 1) 2)) (.pw (.v 4) 2))))) (.add (.add (.add (.mul (.mul (.mul (.c 6) (.pw (.v 1) 2)) (.v 4)) (.v 5)) (.mul (.mul (.c 3) (.pw (.v 1) 2)) (.pw (.v 5) 2))) (.add (.mul (.mul (.c 6) (.v 1)) (.pw (.v 2) 2)) (.mul (.mul (.mul (.c (-9)) (.v 1)) (.v 2)) (.pw (.v 4) 2)))) (.add (.add (.mul (.mul (.mul (.mul (.c 6) (.v 1)) (.v 2)) (.v 4)) (.v 5)) (.mul (.mul (.mul (.c (-3)) (.v 1)) (.v 2)) (.pw (.v 5) 2))) (.add (.mul (.mul (.mul (.c 4) (.v 1)) (.v 3)) (.v 4)) (.mul (.mul (.mul (.c (-4)) (.v 1)) (.v 3)) (.v 5)))))) (.add (.add (.add (.add (.mul (.mul (.mul (.c (-4)) (.v 1)) (.pw (.v 4) 3)) (.v 5)) (.mul (.mul (.mul (.c 3) (.v 1)) (.pw (.v 4) 2)) (.pw (.v 5) 2))) (.add (.mul (.mul (.mul (.c (-4)) (.v 1)) (.v 4)) (.pw (.v 5) 3)) (.neg (.mul (.v 1) (.pw (.v 5) 4))))) (.add (.add (.mul (.c 2) (.pw (.v 2) 3)) (.mul (.mul (.c (-3)) (.pw (.v 2) 2)) (.pw (.v 4) 2))) (.add (.mul (.mul (.c (-3)) (.pw (.v 2) 2)) (.pw (.v 5) 2)) (.mul (.mul (.mul (.c 8) (.v 2)) (.v 3)) (.v 4))))) (.add (.add (.add (.mul (.mul (.mul (.c (-4)) (.v 2)) (.v 3)) (.v 5)) (.mul (.mul (.mul (.c (-2)) (.v 2)) (.pw (.v 4) 3)) (.v 5))) (.add (.mul (.mul (.mul (.c 3) (.v 2)) (.pw (.v 4) 2)) (.pw (.v 5) 2)) (.mul (.v 2) (.pw (.v 5) 4)))) (.add (.add (.mul (.mul (.mul (.c 2) (.v 3)) (.pw (.v 4) 2)) (.v 5)) (.mul (.mul (.mul (.c (-4)) (.v 3)) (.v 4)) (.pw (.v 5) 2))) (.add (.mul (.mul (.c 2) (.v 3)) (.pw (.v 5) 3)) (.mul (.mul (.c 2) (.pw (.v 4) 3)) (.pw (.v 5) 3))))))),.sub (.add (.add (.mul (.v 5) (.v 3)) (.mul (.v 5) (.v 3))) (.mul (.mul (.v 5) (.v 5)) (.sub (.v 2) (.v 1)))) (.add (.add (.mul (.v 2) (.v 2)) (.mul (.v 2) (.v 1))) (.mul (.v 1) (.v 1)))),
  ((.add (.add (.add (.add (.add (.add (.mul (.pw (.v 0) 3) (.v 4)) (.neg (.mul (.pw (.v 0) 3) (.v 6)))) (.add (.mul (.mul (.mul (.c 4) (.pw (.v 0) 2)) (.v 1)) (.v 4)) (.mul (.mul (.pw (.v 0) 2) (.v 1)) (.v 5)))) (.add (.add (.mul (.mul (.mul (.c (-3)) (.pw (.v 0) 2)) (.v 1)) (.v 6)) (.mul (.mul (.mul (.c 2) (.pw (.v 0) 2)) (.v 2)) (.v 4))) (.add (.neg (.mul (.mul (.pw (.v 0) 2) (.v 2)) (.v 5))) (.add (.mul (.mul (.mul (.c (-3)) (.pw (.v 0) 2)) (.v 2)) (.v 6)) (.mul (.mul (.c (-2)) (.pw (.v 0) 2)) (.v 3)))))) (.add (.add (.add (.neg (.mul (.pw (.v 0) 2) (.pw (.v 4) 3))) (.mul (.mul (.pw (.v 0) 2) (.pw (.v 4) 2)) (.v 6))) (.add (.mul (.mul (.mul (.c (-2)) (.pw (.v 0) 2)) (.v 4)) (.pw (.v 5) 2)) (.add (.mul (.mul (.mul (.c 2) (.pw (.v 0) 2)) (.pw (.v 5) 2)) (.v 6)) (.mul (.mul (.mul (.c 5) (.v 0)) (.pw (.v 1) 2)) (.v 4))))) (.add (.add (.mul (.mul (.mul (.c 2) (.v 0)) (.pw (.v 1) 2)) (.v 5)) (.mul (.mul (.mul (.c (-3)) (.v 0)) (.pw (.v 1) 2)) (.v 6))) (.add (.mul (.mul (.mul (.mul (.c 6) (.v 0)) (.v 1)) (.v 2)) (.v 4)) (.add (.mul (.mul (.mul (.mul (.c (-6)) (.v 0)) (.v 1)) (.v 2)) (.v 6)) (.mul (.mul (.mul (.c (-4)) (.v 0)) (.v 1)) (.v 3))))))) (.add (.add (.add (.add (.mul (.mul (.mul (.c (-2)) (.v 0)) (.v 1)) (.pw (.v 4) 3)) (.mul (.mul (.mul (.mul (.c 2) (.v 0)) (.v 1)) (.pw (.v 4) 2)) (.v 6))) (.add (.mul (.mul (.mul (.mul (.c (-6)) (.v 0)) (.v 1)) (.v 4)) (.pw (.v 5) 2)) (.add (.mul (.mul (.mul (.c (-2)) (.v 0)) (.v 1)) (.pw (.v 5) 3)) (.mul (.mul (.mul (.mul (.c 4) (.v 0)) (.v 1)) (.pw (.v 5) 2)) (.v 6))))) (.add (.add (.mul (.mul (.v 0) (.pw (.v 2) 2)) (.v 4)) (.mul (.mul (.mul (.c (-2)) (.v 0)) (.pw (.v 2) 2)) (.v 5))) (.add (.mul (.mul (.mul (.c (-3)) (.v 0)) (.pw (.v 2) 2)) (.v 6)) (.add (.mul (.mul (.mul (.c (-4)) (.v 0)) (.v 2)) (.v 3)) (.mul (.mul (.mul (.c (-2)) (.v 0)) (.v 2)) (.pw (.v 4) 3)))))) (.add (.add (.add (.mul (.mul (.mul (.mul (.c 2) (.v 0)) (.v 2)) (.pw (.v 4) 2)) (.v 6)) (.mul (.mul (.mul (.mul (.c (-2)) (.v 0)) (.v 2)) (.v 4)) (.pw (.v 5) 2))) (.add (.mul (.mul (.mul (.c 2) (.v 0)) (.v 2)) (.pw (.v 5) 3)) (.add (.mul (.mul (.mul (.mul (.c 4) (.v 0)) (.v 2)) (.pw (.v 5) 2)) (.v 6)) (.mul (.mul (.mul (.c 4) (.v 0)) (.v 3)) (.pw (.v 5) 2))))) (.add (.add (.mul (.mul (.mul (.c 2) (.v 0)) (.pw (.v 4) 3)) (.pw (.v 5) 2)) (.mul (.mul (.mul (.mul (.c (-2)) (.v 0)) (.pw (.v 4) 2)) (.pw (.v 5) 2)) (.v 6))) (.add (.mul (.mul (.v 0) (.v 4)) (.pw (.v 5) 4)) (.add (.neg (.mul (.mul (.v 0) (.pw (.v 5) 4)) (.v 6))) (.mul (.mul (.c 2) (.pw (.v 1) 3)) (.v 4)))))))) (.add (.add (.add (.add (.add (.mul (.pw (.v 1) 3) (.v 5)) (.neg (.mul (.pw (.v 1) 3) (.v 6)))) (.add (.mul (.mul (.mul (.c 4) (.pw (.v 1) 2)) (.v 2)) (.v 4)) (.add (.mul (.mul (.pw (.v 1) 2) (.v 2)) (.v 5)) (.mul (.mul (.mul (.c (-3)) (.pw (.v 1) 2)) (.v 2)) (.v 6))))) (.add (.add (.mul (.mul (.c (-2)) (.pw (.v 1) 2)) (.v 3)) (.neg (.mul (.pw (.v 1) 2) (.pw (.v 4) 3)))) (.add (.mul (.mul (.pw (.v 1) 2) (.pw (.v 4) 2)) (.v 6)) (.add (.mul (.mul (.mul (.c (-4)) (.pw (.v 1) 2)) (.v 4)) (.pw (.v 5) 2)) (.mul (.mul (.c (-2)) (.pw (.v 1) 2)) (.pw (.v 5) 3)))))) (.add (.add (.add (.mul (.mul (.mul (.c 2) (.pw (.v 1) 2)) (.pw (.v 5) 2)) (.v 6)) (.mul (.mul (.mul (.c 2) (.v 1)) (.pw (.v 2) 2)) (.v 4))) (.add (.neg (.mul (.mul (.v 1) (.pw (.v 2) 2)) (.v 5))) (.add (.mul (.mul (.mul (.c (-3)) (.v 1)) (.pw (.v 2) 2)) (.v 6)) (.mul (.mul (.mul (.c (-4)) (.v 1)) (.v 2)) (.v 3))))) (.add (.add (.mul (.mul (.mul (.c (-2)) (.v 1)) (.v 2)) (.pw (.v 4) 3)) (.mul (.mul (.mul (.mul (.c 2) (.v 1)) (.v 2)) (.pw (.v 4) 2)) (.v 6))) (.add (.mul (.mul (.mul (.mul (.c (-4)) (.v 1)) (.v 2)) (.v 4)) (.pw (.v 5) 2)) (.add (.mul (.mul (.mul (.mul (.c 4) (.v 1)) (.v 2)) (.pw (.v 5) 2)) (.v 6)) (.mul (.mul (.mul (.c 4) (.v 1)) (.v 3)) (.pw (.v 5) 2))))))) (.add (.add (.add (.add (.mul (.mul (.mul (.c 2) (.v 1)) (.pw (.v 4) 3)) (.pw (.v 5) 2)) (.mul (.mul (.mul (.mul (.c (-2)) (.v 1)) (.pw (.v 4) 2)) (.pw (.v 5) 2)) (.v 6))) (.add (.mul (.mul (.mul (.c 2) (.v 1)) (.v 4)) (.pw (.v 5) 4)) (.add (.mul (.v 1) (.pw (.v 5) 5)) (.neg (.mul (.mul (.v 1) (.pw (.v 5) 4)) (.v 6)))))) (.add (.add (.neg (.mul (.pw (.v 2) 3) (.v 5))) (.neg (.mul (.pw (.v 2) 3) (.v 6)))) (.add (.mul (.mul (.c (-2)) (.pw (.v 2) 2)) (.v 3)) (.add (.neg (.mul (.pw (.v 2) 2) (.pw (.v 4) 3))) (.mul (.mul (.pw (.v 2) 2) (.pw (.v 4) 2)) (.v 6)))))) (.add (.add (.add (.mul (.mul (.c 2) (.pw (.v 2) 2)) (.pw (.v 5) 3)) (.mul (.mul (.mul (.c 2) (.pw (.v 2) 2)) (.pw (.v 5) 2)) (.v 6))) (.add (.mul (.mul (.mul (.c 4) (.v 2)) (.v 3)) (.pw (.v 5) 2)) (.add (.mul (.mul (.mul (.c 2) (.v 2)) (.pw (.v 4) 3)) (.pw (.v 5) 2)) (.mul (.mul (.mul (.mul (.c (-2)) (.v 2)) (.pw (.v 4) 2)) (.pw (.v 5) 2)) (.v 6))))) (.add (.add (.neg (.mul (.v 2) (.pw (.v 5) 5))) (.neg (.mul (.mul (.v 2) (.pw (.v 5) 4)) (.v 6)))) (.add (.mul (.mul (.c (-2)) (.v 3)) (.pw (.v 5) 4)) (.add (.neg (.mul (.pw (.v 4) 3) (.pw (.v 5) 4))) (.mul (.mul (.pw (.v 4) 2) (.pw (.v 5) 4)) (.v 6))))))))),.sub (.mul (.v 6) (.sub (.sub (.sub (.mul (.v 4) (.v 4)) (.v 0)) (.v 1)) (.v 2))) (.sub (.sub (.mul (.v 4) (.sub (.v 1) (.sub (.sub (.mul (.v 4) (.v 4)) (.v 0)) (.v 1)))) (.v 3)) (.add (.v 3) (.mul (.v 5) (.sub (.v 2) (.v 1)))))),
  ((.add (.add (.add (.add (.add (.add (.mul (.pw (.v 0) 3) (.v 4)) (.mul (.pw (.v 0) 3) (.v 7))) (.add (.mul (.mul (.pw (.v 0) 2) (.v 1)) (.v 4)) (.mul (.mul (.mul (.c (-2)) (.pw (.v 0) 2)) (.v 1)) (.v 5)))) (.add (.add (.mul (.mul (.mul (.c 3) (.pw (.v 0) 2)) (.v 1)) (.v 7)) (.mul (.mul (.mul (.c 2) (.pw (.v 0) 2)) (.v 2)) (.v 4))) (.add (.neg (.mul (.mul (.pw (.v 0) 2) (.v 2)) (.v 5))) (.add (.mul (.mul (.mul (.c 3) (.pw (.v 0) 2)) (.v 2)) (.v 7)) (.mul (.mul (.c 2) (.pw (.v 0) 2)) (.v 3)))))) (.add (.add (.add (.mul (.mul (.c (-2)) (.pw (.v 0) 2)) (.pw (.v 4) 3)) (.mul (.mul (.mul (.c (-2)) (.pw (.v 0) 2)) (.pw (.v 4) 2)) (.v 7))) (.add (.mul (.pw (.v 0) 2) (.pw (.v 5) 3)) (.add (.neg (.mul (.mul (.pw (.v 0) 2) (.pw (.v 5) 2)) (.v 7))) (.neg (.mul (.mul (.v 0) (.pw (.v 1) 2)) (.v 4)))))) (.add (.add (.mul (.mul (.mul (.c (-4)) (.v 0)) (.pw (.v 1) 2)) (.v 5)) (.mul (.mul (.mul (.c 3) (.v 0)) (.pw (.v 1) 2)) (.v 7))) (.add (.mul (.mul (.mul (.mul (.c (-6)) (.v 0)) (.v 1)) (.v 2)) (.v 5)) (.add (.mul (.mul (.mul (.mul (.c 6) (.v 0)) (.v 1)) (.v 2)) (.v 7)) (.mul (.mul (.mul (.c 4) (.v 0)) (.v 1)) (.v 3))))))) (.add (.add (.add (.add (.mul (.mul (.mul (.mul (.c 4) (.v 0)) (.v 1)) (.pw (.v 4) 2)) (.v 5)) (.mul (.mul (.mul (.mul (.c (-4)) (.v 0)) (.v 1)) (.pw (.v 4) 2)) (.v 7))) (.add (.mul (.mul (.mul (.c 2) (.v 0)) (.v 1)) (.pw (.v 5) 3)) (.add (.mul (.mul (.mul (.mul (.c (-2)) (.v 0)) (.v 1)) (.pw (.v 5) 2)) (.v 7)) (.mul (.mul (.v 0) (.pw (.v 2) 2)) (.v 4))))) (.add (.add (.mul (.mul (.mul (.c (-2)) (.v 0)) (.pw (.v 2) 2)) (.v 5)) (.mul (.mul (.mul (.c 3) (.v 0)) (.pw (.v 2) 2)) (.v 7))) (.add (.mul (.mul (.mul (.c 4) (.v 0)) (.v 2)) (.v 3)) (.add (.mul (.mul (.mul (.c (-2)) (.v 0)) (.v 2)) (.pw (.v 4) 3)) (.mul (.mul (.mul (.mul (.c 2) (.v 0)) (.v 2)) (.pw (.v 4) 2)) (.v 5)))))) (.add (.add (.add (.mul (.mul (.mul (.mul (.c (-4)) (.v 0)) (.v 2)) (.pw (.v 4) 2)) (.v 7)) (.mul (.mul (.mul (.c 2) (.v 0)) (.v 2)) (.pw (.v 5) 3))) (.add (.mul (.mul (.mul (.mul (.c (-2)) (.v 0)) (.v 2)) (.pw (.v 5) 2)) (.v 7)) (.add (.mul (.mul (.mul (.c (-4)) (.v 0)) (.v 3)) (.pw (.v 4) 2)) (.mul (.v 0) (.pw (.v 4) 5))))) (.add (.add (.mul (.mul (.v 0) (.pw (.v 4) 4)) (.v 7)) (.mul (.mul (.mul (.c (-2)) (.v 0)) (.pw (.v 4) 2)) (.pw (.v 5) 3))) (.add (.mul (.mul (.mul (.mul (.c 2) (.v 0)) (.pw (.v 4) 2)) (.pw (.v 5) 2)) (.v 7)) (.add (.neg (.mul (.pw (.v 1) 3) (.v 4))) (.mul (.mul (.c (-2)) (.pw (.v 1) 3)) (.v 5)))))))) (.add (.add (.add (.add (.add (.mul (.pw (.v 1) 3) (.v 7)) (.mul (.mul (.mul (.c (-2)) (.pw (.v 1) 2)) (.v 2)) (.v 4))) (.add (.mul (.mul (.mul (.c (-5)) (.pw (.v 1) 2)) (.v 2)) (.v 5)) (.add (.mul (.mul (.mul (.c 3) (.pw (.v 1) 2)) (.v 2)) (.v 7)) (.mul (.mul (.c 2) (.pw (.v 1) 2)) (.v 3))))) (.add (.add (.mul (.mul (.c 2) (.pw (.v 1) 2)) (.pw (.v 4) 3)) (.mul (.mul (.mul (.c 4) (.pw (.v 1) 2)) (.pw (.v 4) 2)) (.v 5))) (.add (.mul (.mul (.mul (.c (-2)) (.pw (.v 1) 2)) (.pw (.v 4) 2)) (.v 7)) (.add (.mul (.pw (.v 1) 2) (.pw (.v 5) 3)) (.neg (.mul (.mul (.pw (.v 1) 2) (.pw (.v 5) 2)) (.v 7))))))) (.add (.add (.add (.neg (.mul (.mul (.v 1) (.pw (.v 2) 2)) (.v 4))) (.mul (.mul (.mul (.c (-4)) (.v 1)) (.pw (.v 2) 2)) (.v 5))) (.add (.mul (.mul (.mul (.c 3) (.v 1)) (.pw (.v 2) 2)) (.v 7)) (.add (.mul (.mul (.mul (.c 4) (.v 1)) (.v 2)) (.v 3)) (.mul (.mul (.mul (.c 2) (.v 1)) (.v 2)) (.pw (.v 4) 3))))) (.add (.add (.mul (.mul (.mul (.mul (.c 6) (.v 1)) (.v 2)) (.pw (.v 4) 2)) (.v 5)) (.mul (.mul (.mul (.mul (.c (-4)) (.v 1)) (.v 2)) (.pw (.v 4) 2)) (.v 7))) (.add (.mul (.mul (.mul (.c 2) (.v 1)) (.v 2)) (.pw (.v 5) 3)) (.add (.mul (.mul (.mul (.mul (.c (-2)) (.v 1)) (.v 2)) (.pw (.v 5) 2)) (.v 7)) (.mul (.mul (.mul (.c (-4)) (.v 1)) (.v 3)) (.pw (.v 4) 2))))))) (.add (.add (.add (.add (.neg (.mul (.v 1) (.pw (.v 4) 5))) (.mul (.mul (.mul (.c (-2)) (.v 1)) (.pw (.v 4) 4)) (.v 5))) (.add (.mul (.mul (.v 1) (.pw (.v 4) 4)) (.v 7)) (.add (.mul (.mul (.mul (.c (-2)) (.v 1)) (.pw (.v 4) 2)) (.pw (.v 5) 3)) (.mul (.mul (.mul (.mul (.c 2) (.v 1)) (.pw (.v 4) 2)) (.pw (.v 5) 2)) (.v 7))))) (.add (.add (.neg (.mul (.pw (.v 2) 3) (.v 5))) (.mul (.pw (.v 2) 3) (.v 7))) (.add (.mul (.mul (.c 2) (.pw (.v 2) 2)) (.v 3)) (.add (.mul (.mul (.mul (.c 2) (.pw (.v 2) 2)) (.pw (.v 4) 2)) (.v 5)) (.mul (.mul (.mul (.c (-2)) (.pw (.v 2) 2)) (.pw (.v 4) 2)) (.v 7)))))) (.add (.add (.add (.mul (.pw (.v 2) 2) (.pw (.v 5) 3)) (.neg (.mul (.mul (.pw (.v 2) 2) (.pw (.v 5) 2)) (.v 7)))) (.add (.mul (.mul (.mul (.c (-4)) (.v 2)) (.v 3)) (.pw (.v 4) 2)) (.add (.neg (.mul (.mul (.v 2) (.pw (.v 4) 4)) (.v 5))) (.mul (.mul (.v 2) (.pw (.v 4) 4)) (.v 7))))) (.add (.add (.mul (.mul (.mul (.c (-2)) (.v 2)) (.pw (.v 4) 2)) (.pw (.v 5) 3)) (.mul (.mul (.mul (.mul (.c 2) (.v 2)) (.pw (.v 4) 2)) (.pw (.v 5) 2)) (.v 7))) (.add (.mul (.mul (.c 2) (.v 3)) (.pw (.v 4) 4)) (.add (.mul (.pw (.v 4) 4) (.pw (.v 5) 3)) (.neg (.mul (.mul (.pw (.v 4) 4) (.pw (.v 5) 2)) (.v 7)))))))))),.sub (.mul (.v 7) (.sub (.sub (.sub (.mul (.v 5) (.v 5)) (.v 1)) (.v 2)) (.v 0))) (.sub (.sub (.mul (.v 5) (.sub (.v 1) (.sub (.sub (.mul (.v 5) (.v 5)) (.v 1)) (.v 2)))) (.v 3)) (.add (.v 3) (.mul (.v 4) (.sub (.v 0) (.v 1))))))] ⟨AO.2 r1,AO.2 r2,AO.2 hs,AO.2 ht,trivial⟩ (by kernel_rfl))
theorem AGy {F:Type} [CR F] (x1 x2 x3 y2 l m s t:F) (r1:(((l*y2)+(l*y2))+((l*l)*(x1-x2)))=(((x1*x1)+(x1*x2))+(x2*x2))) (r2:(((m*y2)+(m*y2))+((m*m)*(x3-x2)))=(((x3*x3)+(x3*x2))+(x2*x2))) (hs:(s*((((l*l)-x1)-x2)-x3))=(((l*(x2-(((l*l)-x1)-x2)))-y2)-(y2+(m*(x3-x2))))) (ht:(t*((((m*m)-x2)-x3)-x1))=(((m*(x2-(((m*m)-x2)-x3)))-y2)-(y2+(l*(x1-x2))))):((((((((l*l)-x1)-x2)-x3)*((((l*l)-x1)-x2)-x3))*((((l*l)-x1)-x2)-x3))*((((m*m)-x2)-x3)-x1))*((s*(x3-(((s*s)-(((l*l)-x1)-x2))-x3)))-(y2+(m*(x3-x2)))))=((((((((l*l)-x1)-x2)-x3)*((((l*l)-x1)-x2)-x3))*((((l*l)-x1)-x2)-x3))*((((m*m)-x2)-x3)-x1))*((t*(x1-(((s*s)-(((l*l)-x1)-x2))-x3)))-(y2+(l*(x1-x2))))) :=
 AO.1 (A5 [x1,x2,x3,y2,l,m,s,t] (.sub (.mul (.mul (.mul (.mul (.sub (.sub (.sub (.mul (.v 4) (.v 4)) (.v 0)) (.v 1)) (.v 2)) (.sub (.sub (.sub (.mul (.v 4) (.v 4)) (.v 0)) (.v 1)) (.v 2))) (.sub (.sub (.sub (.mul (.v 4) (.v 4)) (.v 0)) (.v 1)) (.v 2))) (.sub (.sub (.sub (.mul (.v 5) (.v 5)) (.v 1)) (.v 2)) (.v 0))) (.sub (.mul (.v 6) (.sub (.v 2) (.sub (.sub (.mul (.v 6) (.v 6)) (.sub (.sub (.mul (.v 4) (.v 4)) (.v 0)) (.v 1))) (.v 2)))) (.add (.v 3) (.mul (.v 5) (.sub (.v 2) (.v 1)))))) (.mul (.mul (.mul (.mul (.sub (.sub (.sub (.mul (.v 4) (.v 4)) (.v 0)) (.v 1)) (.v 2)) (.sub (.sub (.sub (.mul (.v 4) (.v 4)) (.v 0)) (.v 1)) (.v 2))) (.sub (.sub (.sub (.mul (.v 4) (.v 4)) (.v 0)) (.v 1)) (.v 2))) (.sub (.sub (.sub (.mul (.v 5) (.v 5)) (.v 1)) (.v 2)) (.v 0))) (.sub (.mul (.v 7) (.sub (.v 0) (.sub (.sub (.mul (.v 6) (.v 6)) (.sub (.sub (.mul (.v 4) (.v 4)) (.v 0)) (.v 1))) (.v 2)))) (.add (.v 3) (.mul (.v 4) (.sub (.v 0) (.v 1))))))) [((.add (.add (.add (.add (.add (.mul (.mul (.c (-2)) (.pw (.v 0) 3)) (.v 4)) (.add (.mul (.mul (.mul (.c (-8)) (.pw (.v 0) 2)) (.v 1)) (.v 4)) (.mul (.mul (.mul (.c (-2)) (.pw (.v 0) 2)) (.v 1)) (.v 5)))) (.add (.add (.mul (.mul (.mul (.c (-4)) (.pw (.v 0) 2)) (.v 2)) (.v 4)) (.mul (.mul (.mul (.c 2) (.pw (.v 0) 2)) (.v 2)) (.v 5))) (.add (.mul (.mul (.c 2) (.pw (.v 0) 2)) (.v 3)) (.mul (.mul (.c 4) (.pw (.v 0) 2)) (.pw (.v 4) 3))))) (.add (.add (.add (.mul (.mul (.mul (.c 2) (.pw (.v 0) 2)) (.v 4)) (.pw (.v 5) 2)) (.mul (.mul (.mul (.c (-8)) (.v 0)) (.pw (.v 1) 2)) (.v 4))) (.add (.mul (.mul (.mul (.c (-4)) (.v 0)) (.pw (.v 1) 2)) (.v 5)) (.mul (.mul (.mul (.mul (.c (-10)) (.v 0)) (.v 1)) (.v 2)) (.v 4)))) (.add (.add (.mul (.mul (.mul (.c 4) (.v 0)) (.v 1)) (.v 3)) (.mul (.mul (.mul (.c 9) (.v 0)) (.v 1)) (.pw (.v 4) 3))) (.add (.neg (.mul (.mul (.mul (.v 0) (.v 1)) (.pw (.v 4) 2)) (.v 5))) (.mul (.mul (.mul (.mul (.c 5) (.v 0)) (.v 1)) (.v 4)) (.pw (.v 5) 2)))))) (.add (.add (.add (.add (.mul (.mul (.v 0) (.v 1)) (.pw (.v 5) 3)) (.mul (.mul (.mul (.c 4) (.v 0)) (.pw (.v 2) 2)) (.v 5))) (.add (.mul (.mul (.mul (.c 4) (.v 0)) (.v 2)) (.v 3)) (.mul (.mul (.mul (.c 7) (.v 0)) (.v 2)) (.pw (.v 4) 3)))) (.add (.add (.mul (.mul (.mul (.v 0) (.v 2)) (.pw (.v 4) 2)) (.v 5)) (.mul (.mul (.mul (.mul (.c 3) (.v 0)) (.v 2)) (.v 4)) (.pw (.v 5) 2))) (.add (.neg (.mul (.mul (.v 0) (.v 2)) (.pw (.v 5) 3))) (.mul (.mul (.mul (.c 2) (.v 0)) (.v 3)) (.pw (.v 4) 2))))) (.add (.add (.add (.mul (.mul (.mul (.c (-2)) (.v 0)) (.v 3)) (.pw (.v 5) 2)) (.mul (.mul (.c (-2)) (.v 0)) (.pw (.v 4) 5))) (.add (.mul (.mul (.mul (.c (-4)) (.v 0)) (.pw (.v 4) 3)) (.pw (.v 5) 2)) (.mul (.mul (.c 2) (.pw (.v 1) 3)) (.v 4)))) (.add (.add (.mul (.mul (.mul (.c 2) (.pw (.v 1) 2)) (.v 2)) (.v 4)) (.mul (.mul (.mul (.c (-2)) (.pw (.v 1) 2)) (.v 2)) (.v 5))) (.add (.mul (.mul (.c 2) (.pw (.v 1) 2)) (.pw (.v 4) 3)) (.mul (.mul (.mul (.c (-4)) (.pw (.v 1) 2)) (.pw (.v 4) 2)) (.v 5))))))) (.add (.add (.add (.add (.mul (.mul (.mul (.c 2) (.pw (.v 1) 2)) (.v 4)) (.pw (.v 5) 2)) (.add (.mul (.mul (.c 2) (.pw (.v 1) 2)) (.pw (.v 5) 3)) (.mul (.mul (.mul (.c 6) (.v 1)) (.pw (.v 2) 2)) (.v 4)))) (.add (.add (.mul (.mul (.mul (.c 2) (.v 1)) (.pw (.v 2) 2)) (.v 5)) (.mul (.mul (.mul (.c 2) (.v 1)) (.v 2)) (.v 3))) (.add (.mul (.mul (.mul (.c 8) (.v 1)) (.v 2)) (.pw (.v 4) 3)) (.mul (.mul (.mul (.mul (.c 6) (.v 1)) (.v 2)) (.pw (.v 4) 2)) (.v 5))))) (.add (.add (.add (.mul (.mul (.mul (.mul (.c 6) (.v 1)) (.v 2)) (.v 4)) (.pw (.v 5) 2)) (.mul (.mul (.mul (.c (-2)) (.v 1)) (.v 2)) (.pw (.v 5) 3))) (.add (.mul (.mul (.mul (.c 6) (.v 1)) (.v 3)) (.pw (.v 4) 2)) (.mul (.mul (.mul (.c (-4)) (.v 1)) (.v 3)) (.pw (.v 5) 2)))) (.add (.add (.neg (.mul (.v 1) (.pw (.v 4) 5))) (.mul (.mul (.mul (.c 3) (.v 1)) (.pw (.v 4) 4)) (.v 5))) (.add (.mul (.mul (.mul (.c (-5)) (.v 1)) (.pw (.v 4) 3)) (.pw (.v 5) 2)) (.neg (.mul (.mul (.v 1) (.pw (.v 4) 2)) (.pw (.v 5) 3))))))) (.add (.add (.add (.add (.mul (.mul (.mul (.c (-2)) (.v 1)) (.v 4)) (.pw (.v 5) 4)) (.mul (.mul (.c 4) (.pw (.v 2) 3)) (.v 4))) (.add (.mul (.mul (.mul (.c (-2)) (.pw (.v 2) 2)) (.pw (.v 4) 2)) (.v 5)) (.mul (.mul (.mul (.c (-6)) (.pw (.v 2) 2)) (.v 4)) (.pw (.v 5) 2)))) (.add (.add (.mul (.mul (.mul (.c (-2)) (.v 2)) (.v 3)) (.pw (.v 4) 2)) (.mul (.mul (.mul (.mul (.c (-12)) (.v 2)) (.v 3)) (.v 4)) (.v 5))) (.add (.mul (.mul (.c (-3)) (.v 2)) (.pw (.v 4) 5)) (.mul (.mul (.mul (.c (-3)) (.v 2)) (.pw (.v 4) 4)) (.v 5))))) (.add (.add (.add (.mul (.mul (.mul (.c (-3)) (.v 2)) (.pw (.v 4) 3)) (.pw (.v 5) 2)) (.mul (.mul (.v 2) (.pw (.v 4) 2)) (.pw (.v 5) 3))) (.add (.mul (.mul (.mul (.c 2) (.v 2)) (.v 4)) (.pw (.v 5) 4)) (.mul (.mul (.c (-4)) (.pw (.v 3) 2)) (.v 4)))) (.add (.add (.mul (.mul (.c (-4)) (.v 3)) (.pw (.v 4) 4)) (.mul (.mul (.mul (.c 2) (.v 3)) (.pw (.v 4) 2)) (.pw (.v 5) 2))) (.add (.mul (.mul (.mul (.c 4) (.v 3)) (.v 4)) (.pw (.v 5) 3)) (.mul (.mul (.c 2) (.pw (.v 4) 5)) (.pw (.v 5) 2)))))))),.sub (.add (.add (.mul (.v 4) (.v 3)) (.mul (.v 4) (.v 3))) (.mul (.mul (.v 4) (.v 4)) (.sub (.v 0) (.v 1)))) (.add (.add (.mul (.v 0) (.v 0)) (.mul (.v 0) (.v 1))) (.mul (.v 1) (.v 1)))),
  ((.add (.add (.add (.add (.add (.mul (.mul (.mul (.c 2) (.v 0)) (.pw (.v 1) 2)) (.v 4)) (.add (.mul (.mul (.mul (.c 2) (.v 0)) (.pw (.v 1) 2)) (.v 5)) (.mul (.mul (.mul (.mul (.c 8) (.v 0)) (.v 1)) (.v 2)) (.v 4)))) (.add (.mul (.mul (.mul (.mul (.c 2) (.v 0)) (.v 1)) (.v 2)) (.v 5)) (.add (.mul (.mul (.mul (.c (-2)) (.v 0)) (.v 1)) (.v 3)) (.mul (.mul (.mul (.c (-3)) (.v 0)) (.v 1)) (.pw (.v 4) 3))))) (.add (.add (.mul (.mul (.mul (.mul (.c 3) (.v 0)) (.v 1)) (.pw (.v 4) 2)) (.v 5)) (.add (.neg (.mul (.mul (.mul (.v 0) (.v 1)) (.v 4)) (.pw (.v 5) 2))) (.neg (.mul (.mul (.v 0) (.v 1)) (.pw (.v 5) 3))))) (.add (.add (.mul (.mul (.mul (.c 2) (.v 0)) (.pw (.v 2) 2)) (.v 4)) (.mul (.mul (.mul (.c (-4)) (.v 0)) (.pw (.v 2) 2)) (.v 5))) (.add (.mul (.mul (.mul (.c (-4)) (.v 0)) (.v 2)) (.v 3)) (.mul (.mul (.mul (.c (-3)) (.v 0)) (.v 2)) (.pw (.v 4) 3)))))) (.add (.add (.add (.mul (.mul (.mul (.mul (.c (-3)) (.v 0)) (.v 2)) (.pw (.v 4) 2)) (.v 5)) (.add (.mul (.mul (.mul (.mul (.c (-5)) (.v 0)) (.v 2)) (.v 4)) (.pw (.v 5) 2)) (.mul (.mul (.v 0) (.v 2)) (.pw (.v 5) 3)))) (.add (.add (.mul (.mul (.mul (.mul (.c (-4)) (.v 0)) (.v 3)) (.v 4)) (.v 5)) (.mul (.mul (.mul (.c 2) (.v 0)) (.v 3)) (.pw (.v 5) 2))) (.add (.mul (.mul (.mul (.c 2) (.v 0)) (.pw (.v 4) 3)) (.pw (.v 5) 2)) (.mul (.mul (.c (-2)) (.pw (.v 1) 3)) (.v 4))))) (.add (.add (.mul (.mul (.mul (.c 4) (.pw (.v 1) 2)) (.v 2)) (.v 4)) (.add (.mul (.mul (.mul (.c 4) (.pw (.v 1) 2)) (.v 2)) (.v 5)) (.mul (.mul (.c (-8)) (.pw (.v 1) 2)) (.pw (.v 4) 3)))) (.add (.add (.mul (.mul (.mul (.c 2) (.pw (.v 1) 2)) (.pw (.v 4) 2)) (.v 5)) (.mul (.mul (.mul (.c 4) (.pw (.v 1) 2)) (.v 4)) (.pw (.v 5) 2))) (.add (.mul (.mul (.mul (.c 4) (.v 1)) (.pw (.v 2) 2)) (.v 4)) (.mul (.mul (.mul (.c (-2)) (.v 1)) (.pw (.v 2) 2)) (.v 5))))))) (.add (.add (.add (.add (.mul (.mul (.mul (.c (-4)) (.v 1)) (.v 2)) (.v 3)) (.add (.mul (.mul (.mul (.c (-14)) (.v 1)) (.v 2)) (.pw (.v 4) 3)) (.mul (.mul (.mul (.mul (.c (-4)) (.v 1)) (.v 2)) (.pw (.v 4) 2)) (.v 5)))) (.add (.mul (.mul (.mul (.mul (.c (-10)) (.v 1)) (.v 2)) (.v 4)) (.pw (.v 5) 2)) (.add (.mul (.mul (.mul (.c (-2)) (.v 1)) (.v 2)) (.pw (.v 5) 3)) (.mul (.mul (.mul (.c 8) (.v 1)) (.v 3)) (.pw (.v 4) 2))))) (.add (.add (.mul (.mul (.mul (.mul (.c (-8)) (.v 1)) (.v 3)) (.v 4)) (.v 5)) (.add (.mul (.mul (.mul (.c (-2)) (.v 1)) (.v 3)) (.pw (.v 5) 2)) (.mul (.mul (.c 3) (.v 1)) (.pw (.v 4) 5)))) (.add (.add (.mul (.mul (.mul (.c (-3)) (.v 1)) (.pw (.v 4) 4)) (.v 5)) (.mul (.mul (.mul (.c 5) (.v 1)) (.pw (.v 4) 3)) (.pw (.v 5) 2))) (.add (.mul (.mul (.v 1) (.pw (.v 4) 2)) (.pw (.v 5) 3)) (.mul (.mul (.c (-2)) (.pw (.v 2) 3)) (.v 5)))))) (.add (.add (.add (.mul (.mul (.c (-2)) (.pw (.v 2) 2)) (.v 3)) (.add (.mul (.mul (.c (-2)) (.pw (.v 2) 2)) (.pw (.v 4) 3)) (.mul (.mul (.mul (.c 2) (.pw (.v 2) 2)) (.pw (.v 4) 2)) (.v 5)))) (.add (.add (.mul (.mul (.c 2) (.pw (.v 2) 2)) (.pw (.v 5) 3)) (.mul (.mul (.mul (.c 10) (.v 2)) (.v 3)) (.pw (.v 4) 2))) (.add (.mul (.mul (.mul (.c 6) (.v 2)) (.v 3)) (.pw (.v 5) 2)) (.mul (.mul (.c 3) (.v 2)) (.pw (.v 4) 5))))) (.add (.add (.mul (.mul (.mul (.c 3) (.v 2)) (.pw (.v 4) 4)) (.v 5)) (.add (.mul (.mul (.mul (.c 5) (.v 2)) (.pw (.v 4) 3)) (.pw (.v 5) 2)) (.neg (.mul (.mul (.v 2) (.pw (.v 4) 2)) (.pw (.v 5) 3))))) (.add (.add (.mul (.mul (.c 4) (.pw (.v 3) 2)) (.v 5)) (.mul (.mul (.mul (.c 4) (.v 3)) (.pw (.v 4) 3)) (.v 5))) (.add (.mul (.mul (.mul (.c (-6)) (.v 3)) (.pw (.v 4) 2)) (.pw (.v 5) 2)) (.mul (.mul (.c (-2)) (.pw (.v 4) 5)) (.pw (.v 5) 2)))))))),.sub (.add (.add (.mul (.v 5) (.v 3)) (.mul (.v 5) (.v 3))) (.mul (.mul (.v 5) (.v 5)) (.sub (.v 2) (.v 1)))) (.add (.add (.mul (.v 2) (.v 2)) (.mul (.v 2) (.v 1))) (.mul (.v 1) (.v 1)))),
  ((.add (.add (.add (.add (.add (.add (.add (.pw (.v 0) 4) (.mul (.mul (.c 4) (.pw (.v 0) 3)) (.v 1))) (.add (.mul (.pw (.v 0) 3) (.v 2)) (.add (.neg (.mul (.pw (.v 0) 3) (.pw (.v 4) 2))) (.mul (.mul (.mul (.c (-2)) (.pw (.v 0) 3)) (.v 4)) (.v 6))))) (.add (.add (.neg (.mul (.pw (.v 0) 3) (.pw (.v 5) 2))) (.add (.mul (.pw (.v 0) 3) (.pw (.v 6) 2)) (.mul (.mul (.c 6) (.pw (.v 0) 2)) (.pw (.v 1) 2)))) (.add (.mul (.mul (.mul (.c 3) (.pw (.v 0) 2)) (.v 1)) (.v 2)) (.add (.mul (.mul (.mul (.c (-2)) (.pw (.v 0) 2)) (.v 1)) (.pw (.v 4) 2)) (.mul (.mul (.mul (.pw (.v 0) 2) (.v 1)) (.v 4)) (.v 5)))))) (.add (.add (.add (.mul (.mul (.mul (.mul (.c (-5)) (.pw (.v 0) 2)) (.v 1)) (.v 4)) (.v 6)) (.add (.mul (.mul (.mul (.c (-3)) (.pw (.v 0) 2)) (.v 1)) (.pw (.v 5) 2)) (.mul (.mul (.mul (.pw (.v 0) 2) (.v 1)) (.v 5)) (.v 6)))) (.add (.mul (.mul (.mul (.c 3) (.pw (.v 0) 2)) (.v 1)) (.pw (.v 6) 2)) (.add (.mul (.mul (.c (-3)) (.pw (.v 0) 2)) (.pw (.v 2) 2)) (.neg (.mul (.mul (.pw (.v 0) 2) (.v 2)) (.pw (.v 4) 2)))))) (.add (.add (.mul (.mul (.mul (.mul (.c (-4)) (.pw (.v 0) 2)) (.v 2)) (.v 4)) (.v 5)) (.add (.mul (.mul (.mul (.mul (.c (-4)) (.pw (.v 0) 2)) (.v 2)) (.v 4)) (.v 6)) (.mul (.mul (.mul (.mul (.c 2) (.pw (.v 0) 2)) (.v 2)) (.v 5)) (.v 6)))) (.add (.mul (.mul (.mul (.c 3) (.pw (.v 0) 2)) (.v 2)) (.pw (.v 6) 2)) (.add (.mul (.mul (.mul (.c (-4)) (.pw (.v 0) 2)) (.v 3)) (.v 4)) (.neg (.mul (.pw (.v 0) 2) (.pw (.v 4) 4)))))))) (.add (.add (.add (.add (.mul (.mul (.mul (.c 4) (.pw (.v 0) 2)) (.pw (.v 4) 3)) (.v 6)) (.mul (.mul (.mul (.c 2) (.pw (.v 0) 2)) (.pw (.v 4) 2)) (.pw (.v 5) 2))) (.add (.mul (.mul (.mul (.c (-2)) (.pw (.v 0) 2)) (.pw (.v 4) 2)) (.pw (.v 6) 2)) (.add (.mul (.mul (.pw (.v 0) 2) (.v 4)) (.pw (.v 5) 3)) (.mul (.mul (.mul (.pw (.v 0) 2) (.v 4)) (.pw (.v 5) 2)) (.v 6))))) (.add (.add (.neg (.mul (.mul (.pw (.v 0) 2) (.pw (.v 5) 3)) (.v 6))) (.add (.neg (.mul (.mul (.pw (.v 0) 2) (.pw (.v 5) 2)) (.pw (.v 6) 2))) (.mul (.mul (.c 4) (.v 0)) (.pw (.v 1) 3)))) (.add (.mul (.mul (.mul (.c 3) (.v 0)) (.pw (.v 1) 2)) (.v 2)) (.add (.mul (.mul (.mul (.c (-2)) (.v 0)) (.pw (.v 1) 2)) (.pw (.v 4) 2)) (.mul (.mul (.mul (.mul (.c (-4)) (.v 0)) (.pw (.v 1) 2)) (.v 4)) (.v 6)))))) (.add (.add (.add (.mul (.mul (.mul (.c (-4)) (.v 0)) (.pw (.v 1) 2)) (.pw (.v 5) 2)) (.add (.mul (.mul (.mul (.mul (.c 2) (.v 0)) (.pw (.v 1) 2)) (.v 5)) (.v 6)) (.mul (.mul (.mul (.c 3) (.v 0)) (.pw (.v 1) 2)) (.pw (.v 6) 2)))) (.add (.mul (.mul (.mul (.c (-6)) (.v 0)) (.v 1)) (.pw (.v 2) 2)) (.add (.neg (.mul (.mul (.mul (.v 0) (.v 1)) (.v 2)) (.pw (.v 4) 2))) (.mul (.mul (.mul (.mul (.mul (.c (-8)) (.v 0)) (.v 1)) (.v 2)) (.v 4)) (.v 5))))) (.add (.add (.mul (.mul (.mul (.mul (.mul (.c (-6)) (.v 0)) (.v 1)) (.v 2)) (.v 4)) (.v 6)) (.add (.neg (.mul (.mul (.mul (.v 0) (.v 1)) (.v 2)) (.pw (.v 5) 2))) (.mul (.mul (.mul (.mul (.mul (.c 6) (.v 0)) (.v 1)) (.v 2)) (.v 5)) (.v 6)))) (.add (.mul (.mul (.mul (.mul (.c 6) (.v 0)) (.v 1)) (.v 2)) (.pw (.v 6) 2)) (.add (.mul (.mul (.mul (.mul (.c (-6)) (.v 0)) (.v 1)) (.v 3)) (.v 4)) (.mul (.mul (.mul (.mul (.c 2) (.v 0)) (.v 1)) (.v 3)) (.v 5)))))))) (.add (.add (.add (.add (.add (.neg (.mul (.mul (.v 0) (.v 1)) (.pw (.v 4) 4))) (.mul (.mul (.mul (.v 0) (.v 1)) (.pw (.v 4) 3)) (.v 5))) (.add (.mul (.mul (.mul (.mul (.c 5) (.v 0)) (.v 1)) (.pw (.v 4) 3)) (.v 6)) (.add (.mul (.mul (.mul (.mul (.c 2) (.v 0)) (.v 1)) (.pw (.v 4) 2)) (.pw (.v 5) 2)) (.mul (.mul (.mul (.mul (.mul (.c (-3)) (.v 0)) (.v 1)) (.pw (.v 4) 2)) (.v 5)) (.v 6))))) (.add (.add (.mul (.mul (.mul (.mul (.c (-4)) (.v 0)) (.v 1)) (.pw (.v 4) 2)) (.pw (.v 6) 2)) (.add (.mul (.mul (.mul (.v 0) (.v 1)) (.v 4)) (.pw (.v 5) 3)) (.mul (.mul (.mul (.mul (.mul (.c 3) (.v 0)) (.v 1)) (.v 4)) (.pw (.v 5) 2)) (.v 6)))) (.add (.mul (.mul (.v 0) (.v 1)) (.pw (.v 5) 4)) (.add (.neg (.mul (.mul (.mul (.v 0) (.v 1)) (.pw (.v 5) 3)) (.v 6))) (.mul (.mul (.mul (.mul (.c (-2)) (.v 0)) (.v 1)) (.pw (.v 5) 2)) (.pw (.v 6) 2)))))) (.add (.add (.add (.mul (.mul (.c (-5)) (.v 0)) (.pw (.v 2) 3)) (.add (.mul (.mul (.mul (.c 3) (.v 0)) (.pw (.v 2) 2)) (.pw (.v 4) 2)) (.mul (.mul (.mul (.mul (.c (-4)) (.v 0)) (.pw (.v 2) 2)) (.v 4)) (.v 5)))) (.add (.mul (.mul (.mul (.mul (.c (-2)) (.v 0)) (.pw (.v 2) 2)) (.v 4)) (.v 6)) (.add (.mul (.mul (.mul (.c 5) (.v 0)) (.pw (.v 2) 2)) (.pw (.v 5) 2)) (.mul (.mul (.mul (.mul (.c 4) (.v 0)) (.pw (.v 2) 2)) (.v 5)) (.v 6))))) (.add (.add (.mul (.mul (.mul (.c 3) (.v 0)) (.pw (.v 2) 2)) (.pw (.v 6) 2)) (.add (.mul (.mul (.mul (.mul (.c (-4)) (.v 0)) (.v 2)) (.v 3)) (.v 4)) (.mul (.mul (.mul (.mul (.c 4) (.v 0)) (.v 2)) (.v 3)) (.v 5)))) (.add (.mul (.mul (.mul (.mul (.c 5) (.v 0)) (.v 2)) (.pw (.v 4) 3)) (.v 5)) (.add (.mul (.mul (.mul (.mul (.c 5) (.v 0)) (.v 2)) (.pw (.v 4) 3)) (.v 6)) (.mul (.mul (.mul (.mul (.mul (.c (-3)) (.v 0)) (.v 2)) (.pw (.v 4) 2)) (.v 5)) (.v 6))))))) (.add (.add (.add (.add (.mul (.mul (.mul (.mul (.c (-4)) (.v 0)) (.v 2)) (.pw (.v 4) 2)) (.pw (.v 6) 2)) (.add (.mul (.mul (.mul (.mul (.c 3) (.v 0)) (.v 2)) (.v 4)) (.pw (.v 5) 3)) (.mul (.mul (.mul (.mul (.v 0) (.v 2)) (.v 4)) (.pw (.v 5) 2)) (.v 6)))) (.add (.neg (.mul (.mul (.v 0) (.v 2)) (.pw (.v 5) 4))) (.add (.mul (.mul (.mul (.mul (.c (-3)) (.v 0)) (.v 2)) (.pw (.v 5) 3)) (.v 6)) (.mul (.mul (.mul (.mul (.c (-2)) (.v 0)) (.v 2)) (.pw (.v 5) 2)) (.pw (.v 6) 2))))) (.add (.add (.mul (.mul (.mul (.c 2) (.v 0)) (.v 3)) (.pw (.v 4) 3)) (.add (.mul (.mul (.mul (.mul (.c 2) (.v 0)) (.v 3)) (.pw (.v 4) 2)) (.v 6)) (.mul (.mul (.mul (.mul (.c 4) (.v 0)) (.v 3)) (.v 4)) (.pw (.v 5) 2)))) (.add (.mul (.mul (.mul (.c (-2)) (.v 0)) (.v 3)) (.pw (.v 5) 3)) (.add (.mul (.mul (.mul (.mul (.c (-2)) (.v 0)) (.v 3)) (.pw (.v 5) 2)) (.v 6)) (.mul (.v 0) (.pw (.v 4) 6)))))) (.add (.add (.add (.mul (.mul (.mul (.c (-2)) (.v 0)) (.pw (.v 4) 5)) (.v 6)) (.add (.neg (.mul (.mul (.v 0) (.pw (.v 4) 4)) (.pw (.v 5) 2))) (.mul (.mul (.v 0) (.pw (.v 4) 4)) (.pw (.v 6) 2)))) (.add (.mul (.mul (.mul (.c (-2)) (.v 0)) (.pw (.v 4) 3)) (.pw (.v 5) 3)) (.add (.mul (.mul (.mul (.mul (.c (-2)) (.v 0)) (.pw (.v 4) 3)) (.pw (.v 5) 2)) (.v 6)) (.mul (.mul (.mul (.mul (.c 2) (.v 0)) (.pw (.v 4) 2)) (.pw (.v 5) 3)) (.v 6))))) (.add (.add (.mul (.mul (.mul (.mul (.c 2) (.v 0)) (.pw (.v 4) 2)) (.pw (.v 5) 2)) (.pw (.v 6) 2)) (.add (.pw (.v 1) 4) (.mul (.pw (.v 1) 3) (.v 2)))) (.add (.neg (.mul (.pw (.v 1) 3) (.pw (.v 4) 2))) (.add (.neg (.mul (.mul (.pw (.v 1) 3) (.v 4)) (.v 5))) (.neg (.mul (.mul (.pw (.v 1) 3) (.v 4)) (.v 6)))))))))) (.add (.add (.add (.add (.add (.add (.mul (.mul (.c (-2)) (.pw (.v 1) 3)) (.pw (.v 5) 2)) (.mul (.mul (.pw (.v 1) 3) (.v 5)) (.v 6))) (.add (.mul (.pw (.v 1) 3) (.pw (.v 6) 2)) (.add (.mul (.mul (.c (-3)) (.pw (.v 1) 2)) (.pw (.v 2) 2)) (.neg (.mul (.mul (.pw (.v 1) 2) (.v 2)) (.pw (.v 4) 2)))))) (.add (.add (.mul (.mul (.mul (.mul (.c (-6)) (.pw (.v 1) 2)) (.v 2)) (.v 4)) (.v 5)) (.add (.mul (.mul (.mul (.mul (.c (-2)) (.pw (.v 1) 2)) (.v 2)) (.v 4)) (.v 6)) (.mul (.mul (.mul (.c (-2)) (.pw (.v 1) 2)) (.v 2)) (.pw (.v 5) 2)))) (.add (.mul (.mul (.mul (.mul (.c 4) (.pw (.v 1) 2)) (.v 2)) (.v 5)) (.v 6)) (.add (.mul (.mul (.mul (.c 3) (.pw (.v 1) 2)) (.v 2)) (.pw (.v 6) 2)) (.mul (.mul (.mul (.c (-2)) (.pw (.v 1) 2)) (.v 3)) (.v 4)))))) (.add (.add (.add (.mul (.mul (.mul (.c 2) (.pw (.v 1) 2)) (.v 3)) (.v 5)) (.add (.mul (.mul (.c 2) (.pw (.v 1) 2)) (.pw (.v 4) 4)) (.mul (.mul (.mul (.c 5) (.pw (.v 1) 2)) (.pw (.v 4) 3)) (.v 5)))) (.add (.mul (.mul (.pw (.v 1) 2) (.pw (.v 4) 3)) (.v 6)) (.add (.mul (.mul (.pw (.v 1) 2) (.pw (.v 4) 2)) (.pw (.v 5) 2)) (.mul (.mul (.mul (.mul (.c (-3)) (.pw (.v 1) 2)) (.pw (.v 4) 2)) (.v 5)) (.v 6))))) (.add (.add (.mul (.mul (.mul (.c (-2)) (.pw (.v 1) 2)) (.pw (.v 4) 2)) (.pw (.v 6) 2)) (.add (.mul (.mul (.mul (.c (-2)) (.pw (.v 1) 2)) (.v 4)) (.pw (.v 5) 3)) (.mul (.mul (.mul (.mul (.c 2) (.pw (.v 1) 2)) (.v 4)) (.pw (.v 5) 2)) (.v 6)))) (.add (.neg (.mul (.mul (.pw (.v 1) 2) (.pw (.v 5) 2)) (.pw (.v 6) 2))) (.add (.mul (.mul (.c (-5)) (.v 1)) (.pw (.v 2) 3)) (.mul (.mul (.mul (.c 3) (.v 1)) (.pw (.v 2) 2)) (.pw (.v 4) 2))))))) (.add (.add (.add (.add (.mul (.mul (.mul (.mul (.c (-5)) (.v 1)) (.pw (.v 2) 2)) (.v 4)) (.v 5)) (.add (.neg (.mul (.mul (.mul (.v 1) (.pw (.v 2) 2)) (.v 4)) (.v 6))) (.mul (.mul (.mul (.c 4) (.v 1)) (.pw (.v 2) 2)) (.pw (.v 5) 2)))) (.add (.mul (.mul (.mul (.mul (.c 5) (.v 1)) (.pw (.v 2) 2)) (.v 5)) (.v 6)) (.add (.mul (.mul (.mul (.c 3) (.v 1)) (.pw (.v 2) 2)) (.pw (.v 6) 2)) (.mul (.mul (.mul (.mul (.c (-2)) (.v 1)) (.v 2)) (.v 3)) (.v 4))))) (.add (.add (.mul (.mul (.mul (.mul (.c 6) (.v 1)) (.v 2)) (.v 3)) (.v 5)) (.add (.mul (.mul (.mul (.mul (.c 4) (.v 1)) (.v 2)) (.pw (.v 4) 3)) (.v 5)) (.mul (.mul (.mul (.mul (.c 2) (.v 1)) (.v 2)) (.pw (.v 4) 3)) (.v 6)))) (.add (.neg (.mul (.mul (.mul (.v 1) (.v 2)) (.pw (.v 4) 2)) (.pw (.v 5) 2))) (.add (.mul (.mul (.mul (.mul (.mul (.c (-6)) (.v 1)) (.v 2)) (.pw (.v 4) 2)) (.v 5)) (.v 6)) (.mul (.mul (.mul (.mul (.c (-4)) (.v 1)) (.v 2)) (.pw (.v 4) 2)) (.pw (.v 6) 2)))))) (.add (.add (.add (.mul (.mul (.mul (.mul (.c 6) (.v 1)) (.v 2)) (.v 4)) (.pw (.v 5) 3)) (.add (.mul (.mul (.mul (.mul (.mul (.c 2) (.v 1)) (.v 2)) (.v 4)) (.pw (.v 5) 2)) (.v 6)) (.mul (.mul (.mul (.c 2) (.v 1)) (.v 2)) (.pw (.v 5) 4)))) (.add (.mul (.mul (.mul (.mul (.c (-2)) (.v 1)) (.v 2)) (.pw (.v 5) 3)) (.v 6)) (.add (.mul (.mul (.mul (.mul (.c (-2)) (.v 1)) (.v 2)) (.pw (.v 5) 2)) (.pw (.v 6) 2)) (.mul (.mul (.mul (.c (-4)) (.v 1)) (.v 3)) (.pw (.v 4) 3))))) (.add (.add (.mul (.mul (.mul (.mul (.c (-6)) (.v 1)) (.v 3)) (.pw (.v 4) 2)) (.v 5)) (.add (.mul (.mul (.mul (.mul (.c 2) (.v 1)) (.v 3)) (.pw (.v 4) 2)) (.v 6)) (.mul (.mul (.mul (.mul (.c 8) (.v 1)) (.v 3)) (.v 4)) (.pw (.v 5) 2)))) (.add (.mul (.mul (.mul (.c 2) (.v 1)) (.v 3)) (.pw (.v 5) 3)) (.add (.mul (.mul (.mul (.mul (.c (-2)) (.v 1)) (.v 3)) (.pw (.v 5) 2)) (.v 6)) (.neg (.mul (.v 1) (.pw (.v 4) 6))))))))) (.add (.add (.add (.add (.add (.mul (.mul (.mul (.c (-2)) (.v 1)) (.pw (.v 4) 5)) (.v 5)) (.mul (.mul (.v 1) (.pw (.v 4) 4)) (.pw (.v 5) 2))) (.add (.mul (.mul (.mul (.mul (.c 2) (.v 1)) (.pw (.v 4) 4)) (.v 5)) (.v 6)) (.add (.mul (.mul (.v 1) (.pw (.v 4) 4)) (.pw (.v 6) 2)) (.neg (.mul (.mul (.v 1) (.pw (.v 4) 3)) (.pw (.v 5) 3)))))) (.add (.add (.mul (.mul (.mul (.mul (.c (-3)) (.v 1)) (.pw (.v 4) 3)) (.pw (.v 5) 2)) (.v 6)) (.add (.neg (.mul (.mul (.v 1) (.pw (.v 4) 2)) (.pw (.v 5) 4))) (.mul (.mul (.mul (.v 1) (.pw (.v 4) 2)) (.pw (.v 5) 3)) (.v 6)))) (.add (.mul (.mul (.mul (.mul (.c 2) (.v 1)) (.pw (.v 4) 2)) (.pw (.v 5) 2)) (.pw (.v 6) 2)) (.add (.mul (.c (-2)) (.pw (.v 2) 4)) (.mul (.mul (.c 3) (.pw (.v 2) 3)) (.pw (.v 4) 2)))))) (.add (.add (.add (.mul (.mul (.c 4) (.pw (.v 2) 3)) (.pw (.v 5) 2)) (.add (.mul (.mul (.mul (.c 2) (.pw (.v 2) 3)) (.v 5)) (.v 6)) (.mul (.pw (.v 2) 3) (.pw (.v 6) 2)))) (.add (.mul (.mul (.mul (.c 4) (.pw (.v 2) 2)) (.v 3)) (.v 5)) (.add (.mul (.mul (.mul (.c 3) (.pw (.v 2) 2)) (.pw (.v 4) 3)) (.v 5)) (.mul (.mul (.pw (.v 2) 2) (.pw (.v 4) 3)) (.v 6))))) (.add (.add (.mul (.mul (.mul (.c (-4)) (.pw (.v 2) 2)) (.pw (.v 4) 2)) (.pw (.v 5) 2)) (.add (.mul (.mul (.mul (.mul (.c (-3)) (.pw (.v 2) 2)) (.pw (.v 4) 2)) (.v 5)) (.v 6)) (.mul (.mul (.mul (.c (-2)) (.pw (.v 2) 2)) (.pw (.v 4) 2)) (.pw (.v 6) 2)))) (.add (.mul (.mul (.c (-2)) (.pw (.v 2) 2)) (.pw (.v 5) 4)) (.add (.mul (.mul (.mul (.c (-2)) (.pw (.v 2) 2)) (.pw (.v 5) 3)) (.v 6)) (.neg (.mul (.mul (.pw (.v 2) 2) (.pw (.v 5) 2)) (.pw (.v 6) 2)))))))) (.add (.add (.add (.add (.mul (.mul (.mul (.c 2) (.v 2)) (.v 3)) (.pw (.v 4) 3)) (.add (.mul (.mul (.mul (.mul (.c 2) (.v 2)) (.v 3)) (.pw (.v 4) 2)) (.v 6)) (.mul (.mul (.mul (.c (-6)) (.v 2)) (.v 3)) (.pw (.v 5) 3)))) (.add (.mul (.mul (.mul (.mul (.c (-2)) (.v 2)) (.v 3)) (.pw (.v 5) 2)) (.v 6)) (.add (.neg (.mul (.mul (.v 2) (.pw (.v 4) 5)) (.v 5))) (.neg (.mul (.mul (.v 2) (.pw (.v 4) 5)) (.v 6)))))) (.add (.add (.mul (.mul (.mul (.v 2) (.pw (.v 4) 4)) (.v 5)) (.v 6)) (.add (.mul (.mul (.v 2) (.pw (.v 4) 4)) (.pw (.v 6) 2)) (.mul (.mul (.mul (.c (-3)) (.v 2)) (.pw (.v 4) 3)) (.pw (.v 5) 3)))) (.add (.neg (.mul (.mul (.mul (.v 2) (.pw (.v 4) 3)) (.pw (.v 5) 2)) (.v 6))) (.add (.mul (.mul (.v 2) (.pw (.v 4) 2)) (.pw (.v 5) 4)) (.mul (.mul (.mul (.mul (.c 3) (.v 2)) (.pw (.v 4) 2)) (.pw (.v 5) 3)) (.v 6)))))) (.add (.add (.add (.mul (.mul (.mul (.mul (.c 2) (.v 2)) (.pw (.v 4) 2)) (.pw (.v 5) 2)) (.pw (.v 6) 2)) (.add (.mul (.mul (.c 4) (.pw (.v 3) 2)) (.pw (.v 4) 2)) (.mul (.mul (.c (-4)) (.pw (.v 3) 2)) (.pw (.v 5) 2)))) (.add (.mul (.mul (.c 2) (.v 3)) (.pw (.v 4) 5)) (.add (.mul (.mul (.mul (.c (-2)) (.v 3)) (.pw (.v 4) 4)) (.v 6)) (.mul (.mul (.mul (.c (-4)) (.v 3)) (.pw (.v 4) 3)) (.pw (.v 5) 2))))) (.add (.add (.mul (.mul (.mul (.c 2) (.v 3)) (.pw (.v 4) 2)) (.pw (.v 5) 3)) (.add (.mul (.mul (.mul (.mul (.c 2) (.v 3)) (.pw (.v 4) 2)) (.pw (.v 5) 2)) (.v 6)) (.mul (.pw (.v 4) 5) (.pw (.v 5) 3)))) (.add (.mul (.mul (.pw (.v 4) 5) (.pw (.v 5) 2)) (.v 6)) (.add (.neg (.mul (.mul (.pw (.v 4) 4) (.pw (.v 5) 3)) (.v 6))) (.neg (.mul (.mul (.pw (.v 4) 4) (.pw (.v 5) 2)) (.pw (.v 6) 2))))))))))),.sub (.mul (.v 6) (.sub (.sub (.sub (.mul (.v 4) (.v 4)) (.v 0)) (.v 1)) (.v 2))) (.sub (.sub (.mul (.v 4) (.sub (.v 1) (.sub (.sub (.mul (.v 4) (.v 4)) (.v 0)) (.v 1)))) (.v 3)) (.add (.v 3) (.mul (.v 5) (.sub (.v 2) (.v 1)))))),
  ((.add (.add (.add (.add (.add (.neg (.mul (.pw (.v 0) 3) (.v 1))) (.add (.mul (.pw (.v 0) 3) (.v 2)) (.mul (.pw (.v 0) 3) (.pw (.v 4) 2)))) (.add (.neg (.mul (.pw (.v 0) 3) (.pw (.v 6) 2))) (.add (.mul (.mul (.c (-3)) (.pw (.v 0) 2)) (.pw (.v 1) 2)) (.mul (.mul (.mul (.c 6) (.pw (.v 0) 2)) (.v 1)) (.pw (.v 4) 2))))) (.add (.add (.mul (.mul (.mul (.c (-3)) (.pw (.v 0) 2)) (.v 1)) (.pw (.v 6) 2)) (.add (.mul (.mul (.c 3) (.pw (.v 0) 2)) (.pw (.v 2) 2)) (.mul (.mul (.mul (.c (-3)) (.pw (.v 0) 2)) (.v 2)) (.pw (.v 6) 2)))) (.add (.mul (.mul (.c (-3)) (.pw (.v 0) 2)) (.pw (.v 4) 4)) (.add (.mul (.mul (.mul (.c 3) (.pw (.v 0) 2)) (.pw (.v 4) 2)) (.pw (.v 6) 2)) (.mul (.mul (.c (-3)) (.v 0)) (.pw (.v 1) 3)))))) (.add (.add (.add (.mul (.mul (.mul (.c (-3)) (.v 0)) (.pw (.v 1) 2)) (.v 2)) (.add (.mul (.mul (.mul (.c 9) (.v 0)) (.pw (.v 1) 2)) (.pw (.v 4) 2)) (.mul (.mul (.mul (.c (-3)) (.v 0)) (.pw (.v 1) 2)) (.pw (.v 6) 2)))) (.add (.mul (.mul (.mul (.c 3) (.v 0)) (.v 1)) (.pw (.v 2) 2)) (.add (.mul (.mul (.mul (.mul (.c 6) (.v 0)) (.v 1)) (.v 2)) (.pw (.v 4) 2)) (.mul (.mul (.mul (.mul (.c (-6)) (.v 0)) (.v 1)) (.v 2)) (.pw (.v 6) 2))))) (.add (.add (.mul (.mul (.mul (.c (-9)) (.v 0)) (.v 1)) (.pw (.v 4) 4)) (.add (.mul (.mul (.mul (.mul (.c 6) (.v 0)) (.v 1)) (.pw (.v 4) 2)) (.pw (.v 6) 2)) (.mul (.mul (.c 3) (.v 0)) (.pw (.v 2) 3)))) (.add (.mul (.mul (.mul (.c (-3)) (.v 0)) (.pw (.v 2) 2)) (.pw (.v 4) 2)) (.add (.mul (.mul (.mul (.c (-3)) (.v 0)) (.pw (.v 2) 2)) (.pw (.v 6) 2)) (.mul (.mul (.mul (.c (-3)) (.v 0)) (.v 2)) (.pw (.v 4) 4))))))) (.add (.add (.add (.add (.mul (.mul (.mul (.mul (.c 6) (.v 0)) (.v 2)) (.pw (.v 4) 2)) (.pw (.v 6) 2)) (.add (.mul (.mul (.c 3) (.v 0)) (.pw (.v 4) 6)) (.mul (.mul (.mul (.c (-3)) (.v 0)) (.pw (.v 4) 4)) (.pw (.v 6) 2)))) (.add (.neg (.pw (.v 1) 4)) (.add (.mul (.mul (.c (-2)) (.pw (.v 1) 3)) (.v 2)) (.mul (.mul (.c 4) (.pw (.v 1) 3)) (.pw (.v 4) 2))))) (.add (.add (.neg (.mul (.pw (.v 1) 3) (.pw (.v 6) 2))) (.add (.mul (.mul (.mul (.c 6) (.pw (.v 1) 2)) (.v 2)) (.pw (.v 4) 2)) (.mul (.mul (.mul (.c (-3)) (.pw (.v 1) 2)) (.v 2)) (.pw (.v 6) 2)))) (.add (.mul (.mul (.c (-6)) (.pw (.v 1) 2)) (.pw (.v 4) 4)) (.add (.mul (.mul (.mul (.c 3) (.pw (.v 1) 2)) (.pw (.v 4) 2)) (.pw (.v 6) 2)) (.mul (.mul (.c 2) (.v 1)) (.pw (.v 2) 3)))))) (.add (.add (.add (.mul (.mul (.mul (.c (-3)) (.v 1)) (.pw (.v 2) 2)) (.pw (.v 6) 2)) (.add (.mul (.mul (.mul (.c (-6)) (.v 1)) (.v 2)) (.pw (.v 4) 4)) (.mul (.mul (.mul (.mul (.c 6) (.v 1)) (.v 2)) (.pw (.v 4) 2)) (.pw (.v 6) 2)))) (.add (.mul (.mul (.c 4) (.v 1)) (.pw (.v 4) 6)) (.add (.mul (.mul (.mul (.c (-3)) (.v 1)) (.pw (.v 4) 4)) (.pw (.v 6) 2)) (.pw (.v 2) 4)))) (.add (.add (.mul (.mul (.c (-2)) (.pw (.v 2) 3)) (.pw (.v 4) 2)) (.add (.neg (.mul (.pw (.v 2) 3) (.pw (.v 6) 2))) (.mul (.mul (.mul (.c 3) (.pw (.v 2) 2)) (.pw (.v 4) 2)) (.pw (.v 6) 2)))) (.add (.add (.mul (.mul (.c 2) (.v 2)) (.pw (.v 4) 6)) (.mul (.mul (.mul (.c (-3)) (.v 2)) (.pw (.v 4) 4)) (.pw (.v 6) 2))) (.add (.neg (.pw (.v 4) 8)) (.mul (.pw (.v 4) 6) (.pw (.v 6) 2)))))))),.sub (.mul (.v 7) (.sub (.sub (.sub (.mul (.v 5) (.v 5)) (.v 1)) (.v 2)) (.v 0))) (.sub (.sub (.mul (.v 5) (.sub (.v 1) (.sub (.sub (.mul (.v 5) (.v 5)) (.v 1)) (.v 2)))) (.v 3)) (.add (.v 3) (.mul (.v 4) (.sub (.v 0) (.v 1))))))] ⟨AO.2 r1,AO.2 r2,AO.2 hs,AO.2 ht,trivial⟩ (by kernel_rfl))
theorem spX {F:Type} [CR F] (x h m k s:F) (r2:(((m*k)*h)+((m*k)*h))=(((x*x)+(x*(x+(h+h))))+((x+(h+h))*(x+(h+h))))) (rs:((((k+m)*h)+((k+m)*h))*s)=((((x+(h+h))*(x+(h+h)))+((x+(h+h))*(x+(h+h))))+((x+(h+h))*(x+(h+h))))):(((((k+m)*h)+((k+m)*h))*(((k+m)*h)+((k+m)*h)))*((((((m*m)-x)-(x+(h+h)))-(((k*k)-x)-(x+(h+h))))*((((m*m)-x)-(x+(h+h)))-(((k*k)-x)-(x+(h+h)))))*(((s*s)-(x+(h+h)))-(x+(h+h)))))=(((((k+m)*h)+((k+m)*h))*(((k+m)*h)+((k+m)*h)))*(((((m*(x-(((m*m)-x)-(x+(h+h)))))-((k-m)*h))-((k*(x-(((k*k)-x)-(x+(h+h)))))+((k-m)*h)))*(((m*(x-(((m*m)-x)-(x+(h+h)))))-((k-m)*h))-((k*(x-(((k*k)-x)-(x+(h+h)))))+((k-m)*h))))-((((((m*m)-x)-(x+(h+h)))-(((k*k)-x)-(x+(h+h))))*((((m*m)-x)-(x+(h+h)))-(((k*k)-x)-(x+(h+h)))))*((((k*k)-x)-(x+(h+h)))+(((m*m)-x)-(x+(h+h))))))) :=
 AO.1 (A5 [x,h,m,k,s] (.sub (.mul (.mul (.add (.mul (.add (.v 3) (.v 2)) (.v 1)) (.mul (.add (.v 3) (.v 2)) (.v 1))) (.add (.mul (.add (.v 3) (.v 2)) (.v 1)) (.mul (.add (.v 3) (.v 2)) (.v 1)))) (.mul (.mul (.sub (.sub (.sub (.mul (.v 2) (.v 2)) (.v 0)) (.add (.v 0) (.add (.v 1) (.v 1)))) (.sub (.sub (.mul (.v 3) (.v 3)) (.v 0)) (.add (.v 0) (.add (.v 1) (.v 1))))) (.sub (.sub (.sub (.mul (.v 2) (.v 2)) (.v 0)) (.add (.v 0) (.add (.v 1) (.v 1)))) (.sub (.sub (.mul (.v 3) (.v 3)) (.v 0)) (.add (.v 0) (.add (.v 1) (.v 1)))))) (.sub (.sub (.mul (.v 4) (.v 4)) (.add (.v 0) (.add (.v 1) (.v 1)))) (.add (.v 0) (.add (.v 1) (.v 1)))))) (.mul (.mul (.add (.mul (.add (.v 3) (.v 2)) (.v 1)) (.mul (.add (.v 3) (.v 2)) (.v 1))) (.add (.mul (.add (.v 3) (.v 2)) (.v 1)) (.mul (.add (.v 3) (.v 2)) (.v 1)))) (.sub (.mul (.sub (.sub (.mul (.v 2) (.sub (.v 0) (.sub (.sub (.mul (.v 2) (.v 2)) (.v 0)) (.add (.v 0) (.add (.v 1) (.v 1)))))) (.mul (.sub (.v 3) (.v 2)) (.v 1))) (.add (.mul (.v 3) (.sub (.v 0) (.sub (.sub (.mul (.v 3) (.v 3)) (.v 0)) (.add (.v 0) (.add (.v 1) (.v 1)))))) (.mul (.sub (.v 3) (.v 2)) (.v 1)))) (.sub (.sub (.mul (.v 2) (.sub (.v 0) (.sub (.sub (.mul (.v 2) (.v 2)) (.v 0)) (.add (.v 0) (.add (.v 1) (.v 1)))))) (.mul (.sub (.v 3) (.v 2)) (.v 1))) (.add (.mul (.v 3) (.sub (.v 0) (.sub (.sub (.mul (.v 3) (.v 3)) (.v 0)) (.add (.v 0) (.add (.v 1) (.v 1)))))) (.mul (.sub (.v 3) (.v 2)) (.v 1))))) (.mul (.mul (.sub (.sub (.sub (.mul (.v 2) (.v 2)) (.v 0)) (.add (.v 0) (.add (.v 1) (.v 1)))) (.sub (.sub (.mul (.v 3) (.v 3)) (.v 0)) (.add (.v 0) (.add (.v 1) (.v 1))))) (.sub (.sub (.sub (.mul (.v 2) (.v 2)) (.v 0)) (.add (.v 0) (.add (.v 1) (.v 1)))) (.sub (.sub (.mul (.v 3) (.v 3)) (.v 0)) (.add (.v 0) (.add (.v 1) (.v 1)))))) (.add (.sub (.sub (.mul (.v 3) (.v 3)) (.v 0)) (.add (.v 0) (.add (.v 1) (.v 1)))) (.sub (.sub (.mul (.v 2) (.v 2)) (.v 0)) (.add (.v 0) (.add (.v 1) (.v 1))))))))) [((.add (.add (.add (.mul (.mul (.c (-3)) (.pw (.v 0) 2)) (.pw (.v 2) 4)) (.add (.mul (.mul (.mul (.c 6) (.pw (.v 0) 2)) (.pw (.v 2) 2)) (.pw (.v 3) 2)) (.mul (.mul (.c (-3)) (.pw (.v 0) 2)) (.pw (.v 3) 4)))) (.add (.mul (.mul (.mul (.c (-18)) (.v 0)) (.v 1)) (.pw (.v 2) 4)) (.add (.mul (.mul (.mul (.mul (.c 36) (.v 0)) (.v 1)) (.pw (.v 2) 2)) (.pw (.v 3) 2)) (.mul (.mul (.mul (.c (-18)) (.v 0)) (.v 1)) (.pw (.v 3) 4))))) (.add (.add (.mul (.mul (.c (-20)) (.pw (.v 1) 2)) (.pw (.v 2) 4)) (.add (.mul (.mul (.mul (.c 40) (.pw (.v 1) 2)) (.pw (.v 2) 2)) (.pw (.v 3) 2)) (.mul (.mul (.c (-20)) (.pw (.v 1) 2)) (.pw (.v 3) 4)))) (.add (.mul (.mul (.mul (.c (-2)) (.v 1)) (.pw (.v 2) 5)) (.v 3)) (.add (.mul (.mul (.mul (.c 4) (.v 1)) (.pw (.v 2) 3)) (.pw (.v 3) 3)) (.mul (.mul (.mul (.c (-2)) (.v 1)) (.v 2)) (.pw (.v 3) 5)))))),.sub (.add (.mul (.mul (.v 2) (.v 3)) (.v 1)) (.mul (.mul (.v 2) (.v 3)) (.v 1))) (.add (.add (.mul (.v 0) (.v 0)) (.mul (.v 0) (.add (.v 0) (.add (.v 1) (.v 1))))) (.mul (.add (.v 0) (.add (.v 1) (.v 1))) (.add (.v 0) (.add (.v 1) (.v 1)))))),
  ((.add (.add (.add (.mul (.mul (.c 3) (.pw (.v 0) 2)) (.pw (.v 2) 4)) (.add (.mul (.mul (.mul (.c (-6)) (.pw (.v 0) 2)) (.pw (.v 2) 2)) (.pw (.v 3) 2)) (.mul (.mul (.c 3) (.pw (.v 0) 2)) (.pw (.v 3) 4)))) (.add (.add (.mul (.mul (.mul (.c 12) (.v 0)) (.v 1)) (.pw (.v 2) 4)) (.mul (.mul (.mul (.mul (.c (-24)) (.v 0)) (.v 1)) (.pw (.v 2) 2)) (.pw (.v 3) 2))) (.add (.mul (.mul (.mul (.c 12) (.v 0)) (.v 1)) (.pw (.v 3) 4)) (.mul (.mul (.c 12) (.pw (.v 1) 2)) (.pw (.v 2) 4))))) (.add (.add (.add (.mul (.mul (.mul (.c (-24)) (.pw (.v 1) 2)) (.pw (.v 2) 2)) (.pw (.v 3) 2)) (.mul (.mul (.c 12) (.pw (.v 1) 2)) (.pw (.v 3) 4))) (.add (.mul (.mul (.mul (.c 2) (.v 1)) (.pw (.v 2) 5)) (.v 4)) (.mul (.mul (.mul (.mul (.c 2) (.v 1)) (.pw (.v 2) 4)) (.v 3)) (.v 4)))) (.add (.add (.mul (.mul (.mul (.mul (.c (-4)) (.v 1)) (.pw (.v 2) 3)) (.pw (.v 3) 2)) (.v 4)) (.mul (.mul (.mul (.mul (.c (-4)) (.v 1)) (.pw (.v 2) 2)) (.pw (.v 3) 3)) (.v 4))) (.add (.mul (.mul (.mul (.mul (.c 2) (.v 1)) (.v 2)) (.pw (.v 3) 4)) (.v 4)) (.mul (.mul (.mul (.c 2) (.v 1)) (.pw (.v 3) 5)) (.v 4)))))),.sub (.mul (.add (.mul (.add (.v 3) (.v 2)) (.v 1)) (.mul (.add (.v 3) (.v 2)) (.v 1))) (.v 4)) (.add (.add (.mul (.add (.v 0) (.add (.v 1) (.v 1))) (.add (.v 0) (.add (.v 1) (.v 1)))) (.mul (.add (.v 0) (.add (.v 1) (.v 1))) (.add (.v 0) (.add (.v 1) (.v 1))))) (.mul (.add (.v 0) (.add (.v 1) (.v 1))) (.add (.v 0) (.add (.v 1) (.v 1))))))] ⟨AO.2 r2,AO.2 rs,trivial⟩ (by kernel_rfl))
theorem spY {F:Type} [CR F] (x h m k s:F) (r2:(((m*k)*h)+((m*k)*h))=(((x*x)+(x*(x+(h+h))))+((x+(h+h))*(x+(h+h))))) (rs:((((k+m)*h)+((k+m)*h))*s)=((((x+(h+h))*(x+(h+h)))+((x+(h+h))*(x+(h+h))))+((x+(h+h))*(x+(h+h))))):((((((k+m)*h)+((k+m)*h))*(((k+m)*h)+((k+m)*h)))*(((k+m)*h)+((k+m)*h)))*(((((m*m)-x)-(x+(h+h)))-(((k*k)-x)-(x+(h+h))))*((s*((x+(h+h))-(((s*s)-(x+(h+h)))-(x+(h+h)))))-((k+m)*h))))=((((((k+m)*h)+((k+m)*h))*(((k+m)*h)+((k+m)*h)))*(((k+m)*h)+((k+m)*h)))*(((((m*(x-(((m*m)-x)-(x+(h+h)))))-((k-m)*h))-((k*(x-(((k*k)-x)-(x+(h+h)))))+((k-m)*h)))*((((k*k)-x)-(x+(h+h)))-(((s*s)-(x+(h+h)))-(x+(h+h)))))-(((((m*m)-x)-(x+(h+h)))-(((k*k)-x)-(x+(h+h))))*((k*(x-(((k*k)-x)-(x+(h+h)))))+((k-m)*h))))) :=
 AO.1 (A5 [x,h,m,k,s] (.sub (.mul (.mul (.mul (.add (.mul (.add (.v 3) (.v 2)) (.v 1)) (.mul (.add (.v 3) (.v 2)) (.v 1))) (.add (.mul (.add (.v 3) (.v 2)) (.v 1)) (.mul (.add (.v 3) (.v 2)) (.v 1)))) (.add (.mul (.add (.v 3) (.v 2)) (.v 1)) (.mul (.add (.v 3) (.v 2)) (.v 1)))) (.mul (.sub (.sub (.sub (.mul (.v 2) (.v 2)) (.v 0)) (.add (.v 0) (.add (.v 1) (.v 1)))) (.sub (.sub (.mul (.v 3) (.v 3)) (.v 0)) (.add (.v 0) (.add (.v 1) (.v 1))))) (.sub (.mul (.v 4) (.sub (.add (.v 0) (.add (.v 1) (.v 1))) (.sub (.sub (.mul (.v 4) (.v 4)) (.add (.v 0) (.add (.v 1) (.v 1)))) (.add (.v 0) (.add (.v 1) (.v 1)))))) (.mul (.add (.v 3) (.v 2)) (.v 1))))) (.mul (.mul (.mul (.add (.mul (.add (.v 3) (.v 2)) (.v 1)) (.mul (.add (.v 3) (.v 2)) (.v 1))) (.add (.mul (.add (.v 3) (.v 2)) (.v 1)) (.mul (.add (.v 3) (.v 2)) (.v 1)))) (.add (.mul (.add (.v 3) (.v 2)) (.v 1)) (.mul (.add (.v 3) (.v 2)) (.v 1)))) (.sub (.mul (.sub (.sub (.mul (.v 2) (.sub (.v 0) (.sub (.sub (.mul (.v 2) (.v 2)) (.v 0)) (.add (.v 0) (.add (.v 1) (.v 1)))))) (.mul (.sub (.v 3) (.v 2)) (.v 1))) (.add (.mul (.v 3) (.sub (.v 0) (.sub (.sub (.mul (.v 3) (.v 3)) (.v 0)) (.add (.v 0) (.add (.v 1) (.v 1)))))) (.mul (.sub (.v 3) (.v 2)) (.v 1)))) (.sub (.sub (.sub (.mul (.v 3) (.v 3)) (.v 0)) (.add (.v 0) (.add (.v 1) (.v 1)))) (.sub (.sub (.mul (.v 4) (.v 4)) (.add (.v 0) (.add (.v 1) (.v 1)))) (.add (.v 0) (.add (.v 1) (.v 1)))))) (.mul (.sub (.sub (.sub (.mul (.v 2) (.v 2)) (.v 0)) (.add (.v 0) (.add (.v 1) (.v 1)))) (.sub (.sub (.mul (.v 3) (.v 3)) (.v 0)) (.add (.v 0) (.add (.v 1) (.v 1))))) (.add (.mul (.v 3) (.sub (.v 0) (.sub (.sub (.mul (.v 3) (.v 3)) (.v 0)) (.add (.v 0) (.add (.v 1) (.v 1)))))) (.mul (.sub (.v 3) (.v 2)) (.v 1))))))) [((.add (.add (.add (.add (.mul (.mul (.c 9) (.pw (.v 0) 4)) (.pw (.v 2) 2)) (.add (.mul (.mul (.c (-9)) (.pw (.v 0) 4)) (.pw (.v 3) 2)) (.mul (.mul (.mul (.c 72) (.pw (.v 0) 3)) (.v 1)) (.pw (.v 2) 2)))) (.add (.mul (.mul (.mul (.c (-72)) (.pw (.v 0) 3)) (.v 1)) (.pw (.v 3) 2)) (.add (.mul (.mul (.mul (.c 216) (.pw (.v 0) 2)) (.pw (.v 1) 2)) (.pw (.v 2) 2)) (.mul (.mul (.mul (.c (-216)) (.pw (.v 0) 2)) (.pw (.v 1) 2)) (.pw (.v 3) 2))))) (.add (.add (.mul (.mul (.mul (.c 6) (.pw (.v 0) 2)) (.v 1)) (.pw (.v 2) 4)) (.add (.mul (.mul (.mul (.mul (.c 12) (.pw (.v 0) 2)) (.v 1)) (.pw (.v 2) 3)) (.v 3)) (.mul (.mul (.mul (.mul (.c (-12)) (.pw (.v 0) 2)) (.v 1)) (.v 2)) (.pw (.v 3) 3)))) (.add (.add (.mul (.mul (.mul (.c (-6)) (.pw (.v 0) 2)) (.v 1)) (.pw (.v 3) 4)) (.mul (.mul (.mul (.c 288) (.v 0)) (.pw (.v 1) 3)) (.pw (.v 2) 2))) (.add (.mul (.mul (.mul (.c (-288)) (.v 0)) (.pw (.v 1) 3)) (.pw (.v 3) 2)) (.mul (.mul (.mul (.c 24) (.v 0)) (.pw (.v 1) 2)) (.pw (.v 2) 4)))))) (.add (.add (.add (.mul (.mul (.mul (.mul (.c 48) (.v 0)) (.pw (.v 1) 2)) (.pw (.v 2) 3)) (.v 3)) (.add (.mul (.mul (.mul (.mul (.c (-48)) (.v 0)) (.pw (.v 1) 2)) (.v 2)) (.pw (.v 3) 3)) (.mul (.mul (.mul (.c (-24)) (.v 0)) (.pw (.v 1) 2)) (.pw (.v 3) 4)))) (.add (.mul (.mul (.c 144) (.pw (.v 1) 4)) (.pw (.v 2) 2)) (.add (.mul (.mul (.c (-144)) (.pw (.v 1) 4)) (.pw (.v 3) 2)) (.mul (.mul (.c 16) (.pw (.v 1) 3)) (.pw (.v 2) 4))))) (.add (.add (.mul (.mul (.mul (.c 32) (.pw (.v 1) 3)) (.pw (.v 2) 3)) (.v 3)) (.add (.mul (.mul (.mul (.c (-32)) (.pw (.v 1) 3)) (.v 2)) (.pw (.v 3) 3)) (.mul (.mul (.c (-16)) (.pw (.v 1) 3)) (.pw (.v 3) 4)))) (.add (.add (.mul (.mul (.mul (.c 4) (.pw (.v 1) 2)) (.pw (.v 2) 5)) (.v 3)) (.mul (.mul (.mul (.c 8) (.pw (.v 1) 2)) (.pw (.v 2) 4)) (.pw (.v 3) 2))) (.add (.mul (.mul (.mul (.c (-8)) (.pw (.v 1) 2)) (.pw (.v 2) 2)) (.pw (.v 3) 4)) (.mul (.mul (.mul (.c (-4)) (.pw (.v 1) 2)) (.v 2)) (.pw (.v 3) 5))))))),.sub (.add (.mul (.mul (.v 2) (.v 3)) (.v 1)) (.mul (.mul (.v 2) (.v 3)) (.v 1))) (.add (.add (.mul (.v 0) (.v 0)) (.mul (.v 0) (.add (.v 0) (.add (.v 1) (.v 1))))) (.mul (.add (.v 0) (.add (.v 1) (.v 1))) (.add (.v 0) (.add (.v 1) (.v 1)))))),
  ((.add (.add (.add (.add (.add (.mul (.mul (.c (-9)) (.pw (.v 0) 4)) (.pw (.v 2) 2)) (.mul (.mul (.c 9) (.pw (.v 0) 4)) (.pw (.v 3) 2))) (.add (.mul (.mul (.mul (.c (-54)) (.pw (.v 0) 3)) (.v 1)) (.pw (.v 2) 2)) (.add (.mul (.mul (.mul (.c 54) (.pw (.v 0) 3)) (.v 1)) (.pw (.v 3) 2)) (.mul (.mul (.mul (.c (-120)) (.pw (.v 0) 2)) (.pw (.v 1) 2)) (.pw (.v 2) 2))))) (.add (.add (.mul (.mul (.mul (.c 120) (.pw (.v 0) 2)) (.pw (.v 1) 2)) (.pw (.v 3) 2)) (.mul (.mul (.mul (.c (-6)) (.pw (.v 0) 2)) (.v 1)) (.pw (.v 2) 4))) (.add (.mul (.mul (.mul (.mul (.c (-6)) (.pw (.v 0) 2)) (.v 1)) (.pw (.v 2) 3)) (.v 3)) (.add (.mul (.mul (.mul (.mul (.c (-6)) (.pw (.v 0) 2)) (.v 1)) (.pw (.v 2) 3)) (.v 4)) (.mul (.mul (.mul (.mul (.mul (.c (-6)) (.pw (.v 0) 2)) (.v 1)) (.pw (.v 2) 2)) (.v 3)) (.v 4)))))) (.add (.add (.add (.mul (.mul (.mul (.mul (.c 6) (.pw (.v 0) 2)) (.v 1)) (.v 2)) (.pw (.v 3) 3)) (.mul (.mul (.mul (.mul (.mul (.c 6) (.pw (.v 0) 2)) (.v 1)) (.v 2)) (.pw (.v 3) 2)) (.v 4))) (.add (.mul (.mul (.mul (.c 6) (.pw (.v 0) 2)) (.v 1)) (.pw (.v 3) 4)) (.add (.mul (.mul (.mul (.mul (.c 6) (.pw (.v 0) 2)) (.v 1)) (.pw (.v 3) 3)) (.v 4)) (.mul (.mul (.mul (.c (-120)) (.v 0)) (.pw (.v 1) 3)) (.pw (.v 2) 2))))) (.add (.add (.mul (.mul (.mul (.c 120) (.v 0)) (.pw (.v 1) 3)) (.pw (.v 3) 2)) (.mul (.mul (.mul (.c (-12)) (.v 0)) (.pw (.v 1) 2)) (.pw (.v 2) 4))) (.add (.mul (.mul (.mul (.mul (.c (-12)) (.v 0)) (.pw (.v 1) 2)) (.pw (.v 2) 3)) (.v 4)) (.add (.mul (.mul (.mul (.mul (.mul (.c (-12)) (.v 0)) (.pw (.v 1) 2)) (.pw (.v 2) 2)) (.v 3)) (.v 4)) (.mul (.mul (.mul (.mul (.mul (.c 12) (.v 0)) (.pw (.v 1) 2)) (.v 2)) (.pw (.v 3) 2)) (.v 4))))))) (.add (.add (.add (.add (.mul (.mul (.mul (.c 12) (.v 0)) (.pw (.v 1) 2)) (.pw (.v 3) 4)) (.mul (.mul (.mul (.mul (.c 12) (.v 0)) (.pw (.v 1) 2)) (.pw (.v 3) 3)) (.v 4))) (.add (.mul (.mul (.c (-48)) (.pw (.v 1) 4)) (.pw (.v 2) 2)) (.add (.mul (.mul (.c 48) (.pw (.v 1) 4)) (.pw (.v 3) 2)) (.mul (.mul (.mul (.c 24) (.pw (.v 1) 3)) (.pw (.v 2) 3)) (.v 3))))) (.add (.add (.mul (.mul (.mul (.c (-8)) (.pw (.v 1) 3)) (.pw (.v 2) 3)) (.v 4)) (.mul (.mul (.mul (.mul (.c (-8)) (.pw (.v 1) 3)) (.pw (.v 2) 2)) (.v 3)) (.v 4))) (.add (.mul (.mul (.mul (.c (-24)) (.pw (.v 1) 3)) (.v 2)) (.pw (.v 3) 3)) (.add (.mul (.mul (.mul (.mul (.c 8) (.pw (.v 1) 3)) (.v 2)) (.pw (.v 3) 2)) (.v 4)) (.mul (.mul (.mul (.c 8) (.pw (.v 1) 3)) (.pw (.v 3) 3)) (.v 4)))))) (.add (.add (.add (.mul (.mul (.mul (.c (-4)) (.pw (.v 1) 2)) (.pw (.v 2) 5)) (.v 4)) (.mul (.mul (.mul (.mul (.c (-8)) (.pw (.v 1) 2)) (.pw (.v 2) 4)) (.v 3)) (.v 4))) (.add (.mul (.mul (.mul (.c (-4)) (.pw (.v 1) 2)) (.pw (.v 2) 4)) (.pw (.v 4) 2)) (.add (.mul (.mul (.mul (.mul (.c (-4)) (.pw (.v 1) 2)) (.pw (.v 2) 3)) (.pw (.v 3) 2)) (.v 4)) (.mul (.mul (.mul (.mul (.c (-8)) (.pw (.v 1) 2)) (.pw (.v 2) 3)) (.v 3)) (.pw (.v 4) 2))))) (.add (.add (.mul (.mul (.mul (.mul (.c 4) (.pw (.v 1) 2)) (.pw (.v 2) 2)) (.pw (.v 3) 3)) (.v 4)) (.mul (.mul (.mul (.mul (.c 8) (.pw (.v 1) 2)) (.v 2)) (.pw (.v 3) 4)) (.v 4))) (.add (.mul (.mul (.mul (.mul (.c 8) (.pw (.v 1) 2)) (.v 2)) (.pw (.v 3) 3)) (.pw (.v 4) 2)) (.add (.mul (.mul (.mul (.c 4) (.pw (.v 1) 2)) (.pw (.v 3) 5)) (.v 4)) (.mul (.mul (.mul (.c 4) (.pw (.v 1) 2)) (.pw (.v 3) 4)) (.pw (.v 4) 2)))))))),.sub (.mul (.add (.mul (.add (.v 3) (.v 2)) (.v 1)) (.mul (.add (.v 3) (.v 2)) (.v 1))) (.v 4)) (.add (.add (.mul (.add (.v 0) (.add (.v 1) (.v 1))) (.add (.v 0) (.add (.v 1) (.v 1)))) (.mul (.add (.v 0) (.add (.v 1) (.v 1))) (.add (.v 0) (.add (.v 1) (.v 1))))) (.mul (.add (.v 0) (.add (.v 1) (.v 1))) (.add (.v 0) (.add (.v 1) (.v 1))))))] ⟨AO.2 r2,AO.2 rs,trivial⟩ (by kernel_rfl))
theorem AG1 {F:Type} [CR F] (y2 y3 h m k:F) (ha:(y3-y2)=(m*(h+h))) (hb:(y3+y2)=(k*(h+h))):((int 2)*y2)=((int 2)*((k-m)*h)) :=
 AO.1 (A5 [y2,y3,h,m,k] (.sub (.mul (.c 2) (.v 0)) (.mul (.c 2) (.mul (.sub (.v 4) (.v 3)) (.v 2)))) [((.c (-1)),.sub (.sub (.v 1) (.v 0)) (.mul (.v 3) (.add (.v 2) (.v 2)))),
  ((.c 1),.sub (.add (.v 1) (.v 0)) (.mul (.v 4) (.add (.v 2) (.v 2))))] ⟨AO.2 ha,AO.2 hb,trivial⟩ (by kernel_rfl))
theorem AG2 {F:Type} [CR F] (y2 y3 h m k:F) (ha:(y3-y2)=(m*(h+h))) (hb:(y3+y2)=(k*(h+h))):((int 2)*y3)=((int 2)*((k+m)*h)) :=
 AO.1 (A5 [y2,y3,h,m,k] (.sub (.mul (.c 2) (.v 1)) (.mul (.c 2) (.mul (.add (.v 4) (.v 3)) (.v 2)))) [((.c 1),.sub (.sub (.v 1) (.v 0)) (.mul (.v 3) (.add (.v 2) (.v 2)))),
  ((.c 1),.sub (.add (.v 1) (.v 0)) (.mul (.v 4) (.add (.v 2) (.v 2))))] ⟨AO.2 ha,AO.2 hb,trivial⟩ (by kernel_rfl))
theorem AG3 {F:Type} [CR F] (d i:F) (h:((int 2)*i)=(int 1)):((d*i)+(d*i))=d :=
 AO.1 (A5 [d,i] (.sub (.add (.mul (.v 0) (.v 1)) (.mul (.v 0) (.v 1))) (.v 0)) [((.v 0),.sub (.mul (.c 2) (.v 1)) (.c 1))] ⟨AO.2 h,trivial⟩ (by kernel_rfl))
theorem two_mul {F:Type} [CR F] (y:F) :(y+y)=((int 2)*y) :=
 AO.1 (A5 [y] (.sub (.add (.v 0) (.v 0)) (.mul (.c 2) (.v 0))) [] trivial (by kernel_rfl))
theorem AG4 {F:Type} [CR F] (x1 y1 l:F) :y1=((l*x1)+(y1-(l*x1))) :=
 AO.1 (A5 [x1,y1,l] (.sub (.v 1) (.add (.mul (.v 2) (.v 0)) (.sub (.v 1) (.mul (.v 2) (.v 0))))) [] trivial (by kernel_rfl))
theorem AG5 {F:Type} [CR F] (x1 y1 x2 y2 l:F) (hl:(l*(x2-x1))=(y2-y1)):y2=((l*x2)+(y1-(l*x1))) :=
 AO.1 (A5 [x1,y1,x2,y2,l] (.sub (.v 3) (.add (.mul (.v 4) (.v 2)) (.sub (.v 1) (.mul (.v 4) (.v 0))))) [((.c (-1)),.sub (.mul (.v 4) (.sub (.v 2) (.v 0))) (.sub (.v 3) (.v 1)))] ⟨AO.2 hl,trivial⟩ (by kernel_rfl))
theorem AG6 {F:Type} [CR F] (x1 x2 l:F) :((x1+x2)+(((l*l)-x1)-x2))=(l*l) :=
 AO.1 (A5 [x1,x2,l] (.sub (.add (.add (.v 0) (.v 1)) (.sub (.sub (.mul (.v 2) (.v 2)) (.v 0)) (.v 1))) (.mul (.v 2) (.v 2))) [] trivial (by kernel_rfl))
theorem AG7 {F:Type} [CR F] (x y h m k:F) (hm:(((m*y)+(m*y))+((m*m)*((x+(h+h))-x)))=((((x+(h+h))*(x+(h+h)))+((x+(h+h))*x))+(x*x))) (hy:y=((k-m)*h)):(((m*k)*h)+((m*k)*h))=(((x*x)+(x*(x+(h+h))))+((x+(h+h))*(x+(h+h)))) :=
 AO.1 (A5 [x,y,h,m,k] (.sub (.add (.mul (.mul (.v 3) (.v 4)) (.v 2)) (.mul (.mul (.v 3) (.v 4)) (.v 2))) (.add (.add (.mul (.v 0) (.v 0)) (.mul (.v 0) (.add (.v 0) (.add (.v 2) (.v 2))))) (.mul (.add (.v 0) (.add (.v 2) (.v 2))) (.add (.v 0) (.add (.v 2) (.v 2)))))) [((.c 1),.sub (.add (.add (.mul (.v 3) (.v 1)) (.mul (.v 3) (.v 1))) (.mul (.mul (.v 3) (.v 3)) (.sub (.add (.v 0) (.add (.v 2) (.v 2))) (.v 0)))) (.add (.add (.mul (.add (.v 0) (.add (.v 2) (.v 2))) (.add (.v 0) (.add (.v 2) (.v 2)))) (.mul (.add (.v 0) (.add (.v 2) (.v 2))) (.v 0))) (.mul (.v 0) (.v 0)))),
  ((.mul (.c (-2)) (.v 3)),.sub (.v 1) (.mul (.sub (.v 4) (.v 3)) (.v 2)))] ⟨AO.2 hm,AO.2 hy,trivial⟩ (by kernel_rfl))
theorem AG8 {F:Type} [CR F] (a b:F) :a=(b+(a-b)) :=
 AO.1 (A5 [a,b] (.sub (.v 0) (.add (.v 1) (.sub (.v 0) (.v 1)))) [] trivial (by kernel_rfl))
theorem AG9 {F:Type} [CR F] (a b:F) (h:(a+b)=0):b=(-a) :=
 AO.1 (A5 [a,b] (.sub (.v 1) (.neg (.v 0))) [((.c 1),.sub (.add (.v 0) (.v 1)) (.c 0))] ⟨AO.2 h,trivial⟩ (by kernel_rfl))
theorem qG {F:Type} [CR F] (a b:F) (h:(-a)=(-b)):a=b :=
 AO.1 (A5 [a,b] (.sub (.v 0) (.v 1)) [((.c (-1)),.sub (.neg (.v 0)) (.neg (.v 1)))] ⟨AO.2 h,trivial⟩ (by kernel_rfl))
theorem Mp {F:Type} [CR F] (x1 x2 x4 l:F) (e1:((x1+x2)+x4)=(l*l)):x4=(((l*l)-x1)-x2) :=
 AO.1 (A5 [x1,x2,x4,l] (.sub (.v 2) (.sub (.sub (.mul (.v 3) (.v 3)) (.v 0)) (.v 1))) [((.c 1),.sub (.add (.add (.v 0) (.v 1)) (.v 2)) (.mul (.v 3) (.v 3)))] ⟨AO.2 e1,trivial⟩ (by kernel_rfl))
theorem Mq {F:Type} [CR F] (x2 y2 x4 y4 l n:F) (h2:y2=((l*x2)+n)) (h4:y4=((l*x4)+n)):(-y4)=((l*(x2-x4))-y2) :=
 AO.1 (A5 [x2,y2,x4,y4,l,n] (.sub (.neg (.v 3)) (.sub (.mul (.v 4) (.sub (.v 0) (.v 2))) (.v 1))) [((.c 1),.sub (.v 1) (.add (.mul (.v 4) (.v 0)) (.v 5))),
  ((.c (-1)),.sub (.v 3) (.add (.mul (.v 4) (.v 2)) (.v 5)))] ⟨AO.2 h2,AO.2 h4,trivial⟩ (by kernel_rfl))
theorem qJ {F:Type} [CR F] (x1 y1 x2 y2 l n:F) (h1:y1=((l*x1)+n)) (h2:y2=((l*x2)+n)):y1=(y2+(l*(x1-x2))) :=
 AO.1 (A5 [x1,y1,x2,y2,l,n] (.sub (.v 1) (.add (.v 3) (.mul (.v 4) (.sub (.v 0) (.v 2))))) [((.c 1),.sub (.v 1) (.add (.mul (.v 4) (.v 0)) (.v 5))),
  ((.c (-1)),.sub (.v 3) (.add (.mul (.v 4) (.v 2)) (.v 5)))] ⟨AO.2 h1,AO.2 h2,trivial⟩ (by kernel_rfl))
theorem AG_ {F:Type} [CR F] (x1 x2 x3 k:F) (e:((x1+x2)+x3)=((-k)*(-k))):x1=(((k*k)-x2)-x3) :=
 AO.1 (A5 [x1,x2,x3,k] (.sub (.v 0) (.sub (.sub (.mul (.v 3) (.v 3)) (.v 1)) (.v 2))) [((.c 1),.sub (.add (.add (.v 0) (.v 1)) (.v 2)) (.mul (.neg (.v 3)) (.neg (.v 3))))] ⟨AO.2 e,trivial⟩ (by kernel_rfl))
theorem AG' {F:Type} [CR F] (x1 y1 x2 y2 k n:F) (h1:y1=(((-k)*x1)+n)) (h2:y2=(((-k)*x2)+n)):y1=((k*(x2-x1))+y2) :=
 AO.1 (A5 [x1,y1,x2,y2,k,n] (.sub (.v 1) (.add (.mul (.v 4) (.sub (.v 2) (.v 0))) (.v 3))) [((.c 1),.sub (.v 1) (.add (.mul (.neg (.v 4)) (.v 0)) (.v 5))),
  ((.c (-1)),.sub (.v 3) (.add (.mul (.neg (.v 4)) (.v 2)) (.v 5)))] ⟨AO.2 h1,AO.2 h2,trivial⟩ (by kernel_rfl))
theorem AHA {F:Type} [CR F] (d t n x1 x5:F) (h:(d*t)=n):((d*d)*(((t*t)-x1)-x5))=((n*n)-((d*d)*(x1+x5))) :=
 AO.1 (A5 [d,t,n,x1,x5] (.sub (.mul (.mul (.v 0) (.v 0)) (.sub (.sub (.mul (.v 1) (.v 1)) (.v 3)) (.v 4))) (.sub (.mul (.v 2) (.v 2)) (.mul (.mul (.v 0) (.v 0)) (.add (.v 3) (.v 4))))) [((.add (.mul (.v 0) (.v 1)) (.v 2)),.sub (.mul (.v 0) (.v 1)) (.v 2))] ⟨AO.2 h,trivial⟩ (by kernel_rfl))
theorem AHB {F:Type} [CR F] (d t n x1 X y1:F) (h:(d*t)=n):(d*((t*(x1-X))-y1))=((n*(x1-X))-(d*y1)) :=
 AO.1 (A5 [d,t,n,x1,X,y1] (.sub (.mul (.v 0) (.sub (.mul (.v 1) (.sub (.v 3) (.v 4))) (.v 5))) (.sub (.mul (.v 2) (.sub (.v 3) (.v 4))) (.mul (.v 0) (.v 5)))) [((.add (.v 3) (.neg (.v 4))),.sub (.mul (.v 0) (.v 1)) (.v 2))] ⟨AO.2 h,trivial⟩ (by kernel_rfl))
theorem AHC {F:Type} [CR F] (y3 y2 d k:F) (h:(d*(-k))=((-y3)-y2)):(y3+y2)=(k*d) :=
 AO.1 (A5 [y3,y2,d,k] (.sub (.add (.v 0) (.v 1)) (.mul (.v 3) (.v 2))) [((.c 1),.sub (.mul (.v 2) (.neg (.v 3))) (.sub (.neg (.v 0)) (.v 1)))] ⟨AO.2 h,trivial⟩ (by kernel_rfl))
end Go.Proofs.YtojnabmgolpodaaGreat.Rg
namespace Go.Proofs.YtojnabmgolpodaaGreat.Rg
class FD (F:Type) extends CR F where
 inv:F→F
 mul_inv:∀ a:F,a≠0→a*inv a=1
 inv_zero:inv 0=0
 one_ne:(1:F)≠0
 dec:DecidableEq F
instance fdDec {F:Type} [FD F]:DecidableEq F:=FD.dec
open FD (inv)
inductive Pt (F:Type) where
 | inf
 | pt (x y:F)
section
variable {F:Type} [FD F]
theorem IK {a b c:F} (ha:a≠0) (h:a*b=a*c):b=c:=by
 have h2:inv a*(a*b)=inv a*(a*c):=by rw [h]
 rw [← mul_assoc,← mul_assoc,mul_comm (inv a) a,FD.mul_inv a ha,one_mul,one_mul] at h2
 exact h2
theorem Qs {a b:F} (ha:a≠0) (h:a*b=0):b=0:=IK ha (by rw [h,mul_zero])
theorem C4 {a b:F} (ha:a≠0) (hb:b≠0):a*b≠0:=fun h=>hb (Qs ha h)
theorem OW {a b:F} (h:a≠b):a-b≠0:=fun e=>h (AO.1 e)
theorem Qt {d e l:F} (hd:d≠0) (h:d*l=e):e*inv d=l:=by
 rw [← h,mul_comm d l,mul_assoc,FD.mul_inv d hd,mul_one]
theorem qK {d e:F} (hd:d≠0):e*inv d*d=e:=by
 rw [mul_assoc,mul_comm (inv d),FD.mul_inv d hd,mul_one]
def IL (x1 y1 x2 l:F):Pt F:=.pt (l*l-x1-x2) (l*(x1-(l*l-x1-x2))-y1)
def add:Pt F→Pt F→Pt F
 | .inf,q=>q
 | .pt x1 y1,q=>match q with
  | .inf=>.pt x1 y1
  | .pt x2 y2=>if x1=x2 then (if y1=y2∧y1≠0 then IL x1 y1 x2 ((x1*x1+x1*x1+x1*x1)*inv (y1+y1)) else .inf) else IL x1 y1 x2 ((y2-y1)*inv (x2-x1))
theorem OX (x1 y1 x2 y2:F):add (.pt x1 y1) (.pt x2 y2)=if x1=x2 then (if y1=y2∧y1≠0 then IL x1 y1 x2 ((x1*x1+x1*x1+x1*x1)*inv (y1+y1)) else .inf) else IL x1 y1 x2 ((y2-y1)*inv (x2-x1)):=rfl
def neg:Pt F→Pt F
 | .inf=>.inf
 | .pt x y=>.pt x (-y)
def On (b:F):Pt F→Prop
 | .inf=>True
 | .pt x y=>y*y=x*x*x+b
structure Ln (b x1 y1 x2 y2 x3 y3 l n:F):Prop where
 h1:y1=l*x1+n
 h2:y2=l*x2+n
 h3:y3=l*x3+n
 e1:x1+x2+x3=l*l
 e2:x1*x2+x1*x3+x2*x3+(l*n+l*n)=0
 e3:x1*x2*x3+b=n*n
section
variable {b x1 y1 x2 y2 x3 y3 l n:F}
theorem Ln.sw (h:Ln b x1 y1 x2 y2 x3 y3 l n):Ln b x2 y2 x1 y1 x3 y3 l n:=⟨h.h2,h.h1,h.h3,AGo _ _ _ _ h.e1,AGq _ _ _ _ h.e2,AGs _ _ _ _ _ h.e3⟩
theorem Ln.ro (h:Ln b x1 y1 x2 y2 x3 y3 l n):Ln b x2 y2 x3 y3 x1 y1 l n:=⟨h.h2,h.h3,h.h1,AGp _ _ _ _ h.e1,AGr _ _ _ _ h.e2,AGt _ _ _ _ _ h.e3⟩
theorem Ln.neg (h:Ln b x1 y1 x2 y2 x3 y3 l n):Ln b x1 (-y1) x2 (-y2) x3 (-y3) (-l) (-n) :=
 ⟨Zf _ _ _ _ h.h1,Zf _ _ _ _ h.h2,Zf _ _ _ _ h.h3,by rw [neg_sq];exact h.e1,by rw [AGu];exact h.e2,by rw [neg_sq];exact h.e3⟩
theorem Ln.on (h:Ln b x1 y1 x2 y2 x3 y3 l n):y1*y1=x1*x1*x1+b:=AGl x1 y1 x2 x3 l n b h.h1 h.e1 h.e2 h.e3
end
structure Cv (F:Type) [FD F] where
 b:F
 two:(int 2:F)≠0
 no2:∀ x y:F,y*y=x*x*x+b→y≠0
variable (C:Cv F)
include C in
theorem OY {y:F} (h:y≠0):y+y≠0:=by rw [two_mul];exact C4 C.two h
theorem EF {x1 y1 x2 y2 x3 y3 l n:F} (h:Ln C.b x1 y1 x2 y2 x3 y3 l n):add (.pt x1 y1) (.pt x2 y2)=.pt x3 (-y3):=by
 have hy:=C.no2 _ _ h.on
 have hsum:IL x1 y1 x2 l=.pt x3 (-y3):=by
  unfold IL
  rw [AGn x1 x2 x3 l h.e1,AGm x1 y1 x3 y3 l n h.h1 h.h3]
 rw [OX]
 by_cases hx:x1=x2
 ·subst hx
  have e:=UX _ _ _ _ _ h.h1 h.h2
  have ht:=qC x1 y1 x3 l n h.h1 h.e1 h.e2
  rw [if_pos rfl,if_pos ⟨e,hy⟩,Qt (OY C hy) ht]
  exact hsum
 ·rw [if_neg hx,Qt (OW (Ne.symm hx)) (OV x1 y1 x2 y2 l n h.h1 h.h2)]
  exact hsum
theorem qL {x1 y1 x2 y2 l:F} (c1:y1*y1=x1*x1*x1+C.b) (hl:l*(x2-x1)=y2-y1)
  (e2:x1*x2+x1*(l*l-x1-x2)+x2*(l*l-x1-x2)+(l*(y1-l*x1)+l*(y1-l*x1))=0):Ln C.b x1 y1 x2 y2 (l*l-x1-x2) (l*(l*l-x1-x2)+(y1-l*x1)) l (y1-l*x1) :=
 ⟨AG4 x1 y1 l,AG5 x1 y1 x2 y2 l hl,rfl,AG6 x1 x2 l,e2,AGk x1 y1 x2 l C.b e2 c1⟩
theorem JJ {x1 y1 x2 y2:F} (c1:y1*y1=x1*x1*x1+C.b) (c2:y2*y2=x2*x2*x2+C.b):(x2=x1∧y2=-y1)∨∃ x3 y3 l n,Ln C.b x1 y1 x2 y2 x3 y3 l n:=by
 by_cases hx:x1=x2
 ·subst hx
  by_cases hy:y1=y2
  ·subst hy
   have hy0:=C.no2 _ _ c1
   refine .inr ⟨_,_,(x1*x1+x1*x1+x1*x1)*inv (y1+y1),_,qL C c1 (by rw [sub_self,sub_self,mul_zero]) ?_⟩
   refine AGj x1 y1 _ ?_
   rw [mul_comm,qK (OY C hy0)]
  ·refine .inl ⟨rfl,?_⟩
   have:=AGv y1 y2 _ c1 c2
   exact AG9 y1 y2 (Qs (OW hy) this)
 ·have hd:=OW (Ne.symm hx)
  have hl:(y2-y1)*inv (x2-x1)*(x2-x1)=y2-y1:=qK hd
  exact .inr ⟨_,_,(y2-y1)*inv (x2-x1),_,qL C c1 hl (Qs hd (AGi x1 y1 x2 y2 _ C.b hl c1 c2))⟩
include C in
theorem UY {y:F} (hy:y≠0) (h:y=-y):False:=by
 have h2:y+y=0:=by
  have:=Rg.add_neg y
  rw [← h] at this;exact this
 exact OY C hy h2
theorem GW {x y:F} (c:y*y=x*x*x+C.b):add (.pt x y) (.pt x (-y))=.inf:=by
 have hy:=C.no2 _ _ c
 rw [OX,if_pos rfl,if_neg]
 rintro ⟨h,_⟩
 exact UY C hy h
theorem IM {x y:F} (c:y*y=x*x*x+C.b):(-y)*(-y)=x*x*x+C.b:=by rw [neg_sq];exact c
theorem HR {p:Pt F} (h:On C.b p):On C.b (neg p):=by
 cases p with
 | inf=>trivial
 | pt x y=>exact IM C h
theorem IN {p q:Pt F} (hp:On C.b p) (hq:On C.b q):On C.b (add p q):=by
 cases p with
 | inf=>exact hq
 | pt x1 y1=>cases q with
  | inf=>exact hp
  | pt x2 y2 =>
   rcases JJ C hp hq with ⟨rfl,rfl⟩ | ⟨x3,y3,l,n,h⟩
   ·rw [GW C hp];trivial
   ·rw [EF C h];exact IM C h.ro.ro.on
theorem F3 {p q:Pt F} (hp:On C.b p) (hq:On C.b q):add p q=add q p:=by
 cases p with
 | inf=>cases q<;>rfl
 | pt x1 y1=>cases q with
  | inf=>rfl
  | pt x2 y2 =>
   rcases JJ C hp hq with ⟨rfl,rfl⟩ | ⟨x3,y3,l,n,h⟩
   ·rw [GW C hp]
    have:=GW C (IM C hp)
    rw [neg_neg] at this
    exact this.symm
   ·rw [EF C h,EF C h.sw]
theorem LB (p:Pt F):add p .inf=p:=by cases p<;>rfl
theorem Zg {p:Pt F} (hp:On C.b p):add p (neg p)=.inf:=by
 cases p with
 | inf=>rfl
 | pt x y=>exact GW C hp
theorem Mr {p q:Pt F} (hp:On C.b p) (hq:On C.b q):add (neg p) (add p q)=q:=by
 cases p with
 | inf=>rfl
 | pt x1 y1=>cases q with
  | inf =>
   have h:=GW C (IM C hp)
   rw [neg_neg] at h
   exact h
  | pt x2 y2 =>
   rcases JJ C hp hq with ⟨rfl,rfl⟩ | ⟨x3,y3,l,n,h⟩
   ·rw [GW C hp];rfl
   ·rw [EF C h]
    have:=EF C h.neg.sw.ro
    rw [neg_neg] at this
    exact this
theorem Zh {p q r:Pt F} (hp:On C.b p) (hq:On C.b q) (hr:On C.b r) (h:add p q=add p r):q=r:=by
 rw [← Mr C hp hq,h,Mr C hp hr]
theorem qM {x1 y1 x2 y2 x3 y3 l n x5 y5 m q:F} (h1:Ln C.b x1 y1 x2 y2 x3 (-y3) l n) (h2:Ln C.b x2 y2 x3 y3 x5 y5 m q):add (.pt x3 y3) (.pt x3 y3)=add (.pt x1 y1) (.pt x5 (-y5)):=by
 have cP:=h1.on
 have cQ:=h2.on
 have cR:=h2.ro.on
 have hyQ:=C.no2 _ _ cQ
 have hyR:=C.no2 _ _ cR
 have a2:add (.pt x1 y1) (.pt x2 y2)=.pt x3 y3:=by rw [EF C h1,neg_neg]
 have a1:add (.pt x2 y2) (.pt x3 y3)=.pt x5 (-y5):=EF C h2
 rcases JJ C cR cR with ⟨_,e⟩ | ⟨x6,y6,s,n6,h6⟩
 ·exact (UY C hyR e).elim
 rcases JJ C cP (IM C h2.ro.ro.on) with ⟨e1,e2⟩ | ⟨x7,y7,t,n7,h7⟩
 ·exfalso
  have e2:=qG _ _ e2
  subst e1;subst e2
  have a3:=EF C h2.ro.ro
  rw [a2] at a3
  injection a3 with _ a3
  exact UY C hyR a3
 rw [EF C h6,EF C h7]
 have ht:(x5-x1)*t=-y5-y1:=OV x1 y1 x5 (-y5) t n7 h7.h1 h7.h2
 have hs:(y3+y3)*s=x3*x3+x3*x3+x3*x3:=qC x3 y3 x6 s n6 h6.h1 h6.e1 h6.e2
 have hd:x5≠x1:=by
  intro e
  subst e
  have e3:=UX _ _ _ _ _ h7.h1 h7.h2
  rw [← e3] at a1
  have a4:add (neg (.pt x2 y2)) (.pt x3 y3)=.pt x5 y1:=by
   rw [← a2,F3 C (p:=.pt x5 y1) (q:=.pt x2 y2) cP cQ]
   exact Mr C (p:=.pt x2 y2) (q:=.pt x5 y1) cQ cP
  have a5:add (.pt x3 y3) (.pt x2 y2)=add (.pt x3 y3) (neg (.pt x2 y2)):=by
   rw [F3 C (p:=.pt x3 y3) (q:=.pt x2 y2) cR cQ,F3 C (p:=.pt x3 y3) (q:=neg (.pt x2 y2)) cR (IM C cQ),a1,a4]
  have a6:=Zh C (p:=.pt x3 y3) (q:=.pt x2 y2) (r:=neg (.pt x2 y2)) cR cQ (IM C cQ) a5
  injection a6 with _ a6
  exact UY C hyQ a6
 have hi:(int 2:F)*inv (int 2)=int 1:=by rw [FD.mul_inv _ C.two,Qn]
 obtain ⟨h,hh⟩:∃ h:F,h+h=x3-x2:=⟨(x3-x2)*inv (int 2),AG3 _ _ hi⟩
 obtain ⟨k,rfl⟩:∃ k:F,l=-k:=⟨-l,(neg_neg l).symm⟩
 have ex3:x3=x2+(h+h):=by rw [hh];exact AG8 _ _
 have hm:y3-y2=m*(h+h):=by
  have:=OV x2 y2 x3 y3 m q h2.h1 h2.h2
  rw [hh,mul_comm];exact this.symm
 have hk:y3+y2=k*(h+h):=by
  have:=OV x2 y2 x3 (-y3) (-k) n h1.h2 h1.h3
  rw [hh];exact AHC _ _ _ _ this
 have ey2:y2=(k-m)*h:=IK C.two (AG1 y2 y3 h m k hm hk)
 have ey3:y3=(k+m)*h:=IK C.two (AG2 y2 y3 h m k hm hk)
 have ex1:x1=k*k-x2-x3:=AG_ x1 x2 x3 k h1.e1
 have ey1:y1=k*(x2-x1)+y2:=AG' x1 y1 x2 y2 k n h1.h1 h1.h2
 have ex5:x5=m*m-x2-x3:=Mp x2 x3 x5 m h2.e1
 have ey5:-y5=m*(x2-x5)-y2:=Mq x2 y2 x5 y5 m q h2.h1 h2.h3
 have r2:=AG7 x2 y2 h m k (by rw [← ex3];exact qF x2 y2 x3 x5 m q h2.h1 h2.e1 h2.e2) ey2
 have rs:((k+m)*h+(k+m)*h)*s=(x2+(h+h))*(x2+(h+h))+(x2+(h+h))*(x2+(h+h))+(x2+(h+h))*(x2+(h+h)):=by rw [← ey3,← ex3];exact hs
 have hX:=spX x2 h m k s r2 rs
 have hY:=spY x2 h m k s r2 rs
 rw [← ex3,← ex1,← ex5,← ey2,← ey3,← ey5,← ey1] at hX hY
 have hw:=OY C hyR
 have hD:=OW hd
 have x6e:x6=s*s-x3-x3:=Mp x3 x3 x6 s h6.e1
 have x7e:x7=t*t-x1-x5:=Mp x1 x5 x7 t h7.e1
 have hXX:x6=x7:=by
  rw [x6e,x7e]
  refine IK (C4 hD hD) ?_
  rw [AHA _ _ _ x1 x5 ht]
  exact IK (C4 hw hw) hX
 have y6e:-y6=s*(x3-x6)-y3:=Mq x3 y3 x6 y6 s n6 h6.h1 h6.h3
 have y7e:-y7=t*(x1-x7)-y1:=Mq x1 y1 x7 y7 t n7 h7.h1 h7.h3
 have hYY:-y6=-y7:=by
  rw [y6e,y7e,← hXX]
  refine IK hD ?_
  rw [AHB _ _ _ x1 x6 y1 ht]
  rw [← x6e] at hY
  exact IK (C4 (C4 hw hw) hw) hY
 rw [hXX,hYY]
theorem AHD {x1 y1 x2 y2 x3 y3 x4 y4 x5 y5 x6 y6 x7 y7 l n m q s n6 t n7:F} (h1:Ln C.b x1 y1 x2 y2 x4 y4 l n) (h2:Ln C.b x2 y2 x3 y3 x5 y5 m q) (h3:Ln C.b x4 (-y4) x3 y3 x6 y6 s n6) (h4:Ln C.b x1 y1 x5 (-y5) x7 y7 t n7)
  (hd1:x4≠x3) (hd2:x5≠x1):x6=x7∧-y6=-y7:=by
 have ex4:x4=l*l-x1-x2:=Mp x1 x2 x4 l h1.e1
 have ey4:-y4=l*(x2-x4)-y2:=Mq x2 y2 x4 y4 l n h1.h2 h1.h3
 have ex5:x5=m*m-x2-x3:=Mp x2 x3 x5 m h2.e1
 have ey5:-y5=m*(x2-x5)-y2:=Mq x2 y2 x5 y5 m q h2.h1 h2.h3
 have ey3:y3=y2+m*(x3-x2):=qJ x3 y3 x2 y2 m q h2.h2 h2.h1
 have ey1:y1=y2+l*(x1-x2):=qJ x1 y1 x2 y2 l n h1.h1 h1.h2
 have hs:s*(x4-x3)=-y4-y3:=by rw [mul_comm];exact OV x3 y3 x4 (-y4) s n6 h3.h2 h3.h1
 have ht:t*(x5-x1)=-y5-y1:=by rw [mul_comm];exact OV x1 y1 x5 (-y5) t n7 h4.h1 h4.h2
 have r1:=AGw x1 x2 y2 x4 l n h1.h2 h1.e1 h1.e2
 have r2:=qF x2 y2 x3 x5 m q h2.h1 h2.e1 h2.e2
 have hs':s*(l*l-x1-x2-x3)=l*(x2-(l*l-x1-x2))-y2-(y2+m*(x3-x2)):=by rw [← ex4,← ey4,← ey3];exact hs
 have ht':t*(m*m-x2-x3-x1)=m*(x2-(m*m-x2-x3))-y2-(y2+l*(x1-x2)):=by rw [← ex5,← ey5,← ey1];exact ht
 have hX:=AGx x1 x2 x3 y2 l m s t r1 r2 hs' ht'
 have hY:=AGy x1 x2 x3 y2 l m s t r1 r2 hs' ht'
 rw [← ex4,← ex5] at hX hY
 rw [← ey3,← ey1] at hY
 have hD1:=OW hd1
 have hD2:=OW hd2
 have x6e:x6=s*s-x4-x3:=Mp x4 x3 x6 s h3.e1
 have x7e:x7=t*t-x1-x5:=Mp x1 x5 x7 t h4.e1
 have hXX:x6=x7:=by rw [x6e,x7e];exact IK (C4 (C4 hD1 hD1) (C4 hD2 hD2)) hX
 have y6e:-y6=s*(x3-x6)-y3:=Mq x3 y3 x6 y6 s n6 h3.h2 h3.h3
 have y7e:-y7=t*(x1-x7)-y1:=Mq x1 y1 x7 y7 t n7 h4.h1 h4.h3
 refine ⟨hXX,?_⟩
 rw [y6e,y7e,← hXX]
 rw [← x6e] at hY
 exact IK (C4 (C4 (C4 hD1 hD1) hD1) hD2) hY
theorem IO {p q r:Pt F} (hp:On C.b p) (hq:On C.b q) (hr:On C.b r):add (add p q) r=add p (add q r):=by
 cases p with
 | inf=>rfl
 | pt x1 y1=>cases q with
  | inf=>rfl
  | pt x2 y2=>cases r with
   | inf=>rw [LB,LB]
   | pt x3 y3 =>
    rcases JJ C hp hq with ⟨rfl,rfl⟩ | ⟨x4,y4,l,n,h1⟩
    ·rw [GW C hp]
     have hn:On C.b (.pt x2 (-y1)):=hq
     have:=Mr C (p:=.pt x2 (-y1)) (q:=.pt x3 y3) hn hr
     rw [show neg (.pt x2 (-y1):Pt F)=.pt x2 y1 by simp [neg,neg_neg]] at this
     exact this.symm
    rcases JJ C hq hr with ⟨rfl,rfl⟩ | ⟨x5,y5,m,q,h2⟩
    ·rw [GW C hq,LB,F3 C (IN C hp hq) hr,F3 C hp hq]
     exact Mr C (p:=.pt x3 y2) (q:=.pt x1 y1) hq hp
    rw [EF C h1,EF C h2]
    have c4:=IM C h1.ro.ro.on
    have c5:=IM C h2.ro.ro.on
    rcases JJ C c4 hr with ⟨e1,e2⟩ | ⟨x6,y6,s,n6,h3⟩
    ·
     rw [neg_neg] at e2
     subst e1;subst e2
     have a:=EF C h1.ro
     rw [EF C h2] at a
     rw [a,GW C hp]
     have:=GW C c4
     rw [neg_neg] at this
     exact this
    rcases JJ C hp c5 with ⟨e1,e2⟩ | ⟨x7,y7,t,n7,h4⟩
    ·have e2:=qG _ _ e2
     subst e1;subst e2
     have a:=EF C h2.ro.ro
     rw [EF C h1] at a
     rw [a,GW C hp]
     have:=GW C (IM C hr)
     rw [neg_neg] at this
     exact this
    by_cases hd1:x4=x3
    ·have e3:=UX _ _ _ _ _ (hd1▸h3.h1) h3.h2
     subst hd1
     rw [e3]
     have h1':Ln C.b x1 y1 x2 y2 x4 (-y3) l n:=by rw [← e3,neg_neg];exact h1
     exact qM C h1' h2
    by_cases hd2:x5=x1
    ·have e3:=UX _ _ _ _ _ h4.h1 (hd2▸h4.h2)
     subst hd2
     rw [← e3]
     have h2':Ln C.b x3 y3 x2 y2 x5 (-y1) m q:=by rw [e3,neg_neg];exact h2.sw
     have:=qM C h2' h1.sw
     rw [this]
     exact F3 C (p:=.pt x4 (-y4)) (q:=.pt x3 y3) c4 hr
    obtain ⟨e1,e2⟩:=AHD C h1 h2 h3 h4 hd1 hd2
    rw [EF C h3,EF C h4,e1,e2]
def smul:Nat→Pt F→Pt F
 | 0,_=>.inf
 | n+1,p=>add (smul n p) p
theorem Bf {p:Pt F} (hp:On C.b p):∀ n,On C.b (smul n p)
 | 0=>trivial
 | n+1=>IN C (Bf hp n) hp
theorem F4 {p:Pt F} (hp:On C.b p) (m:Nat):∀ n,smul (m+n) p=add (smul m p) (smul n p)
 | 0=>(LB _).symm
 | n+1=>by
  rw [← Nat.add_assoc]
  simp only [smul]
  rw [F4 hp m n,IO C (Bf C hp m) (Bf C hp n) hp]
theorem F5 {p:Pt F} (hp:On C.b p) (m:Nat):∀ n,smul (m*n) p=smul n (smul m p)
 | 0=>rfl
 | n+1=>by
  rw [Nat.mul_succ,F4 C hp,F5 hp m n];rfl
theorem F6:∀ n,smul n (.inf:Pt F)=.inf
 | 0=>rfl
 | n+1=>by simp only [smul];rw [F6 n];rfl
end
end Go.Proofs.YtojnabmgolpodaaGreat.Rg
namespace Go.Proofs.YtojnabmgolpodaaGreat.Rg
set_option maxRecDepth 100000
set_option maxHeartbeats 4000000
theorem AHE {F:Type} [CR F] (x y i I:F) (hi:i=((y+y)*I)):(((y*((i*i)*i))+(y*((i*i)*i)))*((((x*x)+(x*x))+(x*x))*I))=((((x*(i*i))*(x*(i*i)))+((x*(i*i))*(x*(i*i))))+((x*(i*i))*(x*(i*i)))) :=
 AO.1 (A5 [x,y,i,I] (.sub (.mul (.add (.mul (.v 1) (.mul (.mul (.v 2) (.v 2)) (.v 2))) (.mul (.v 1) (.mul (.mul (.v 2) (.v 2)) (.v 2)))) (.mul (.add (.add (.mul (.v 0) (.v 0)) (.mul (.v 0) (.v 0))) (.mul (.v 0) (.v 0))) (.v 3))) (.add (.add (.mul (.mul (.v 0) (.mul (.v 2) (.v 2))) (.mul (.v 0) (.mul (.v 2) (.v 2)))) (.mul (.mul (.v 0) (.mul (.v 2) (.v 2))) (.mul (.v 0) (.mul (.v 2) (.v 2))))) (.mul (.mul (.v 0) (.mul (.v 2) (.v 2))) (.mul (.v 0) (.mul (.v 2) (.v 2)))))) [((.mul (.mul (.c (-3)) (.pw (.v 2) 3)) (.pw (.v 0) 2)),.sub (.v 2) (.mul (.add (.v 1) (.v 1)) (.v 3)))] ⟨AO.2 hi,trivial⟩ (by kernel_rfl))
theorem qN {F:Type} [CR F] (x y i I:F) (hi:i=((y+y)*I)):(((((((x*x)+(x*x))+(x*x))*I)*((((x*x)+(x*x))+(x*x))*I))-(x*(i*i)))-(x*(i*i)))=((((((x*x)+(x*x))+(x*x))*(((x*x)+(x*x))+(x*x)))-((((x*(y*y))+(x*(y*y)))+((x*(y*y))+(x*(y*y))))+(((x*(y*y))+(x*(y*y)))+((x*(y*y))+(x*(y*y))))))*(I*I)) :=
 AO.1 (A5 [x,y,i,I] (.sub (.sub (.sub (.mul (.mul (.add (.add (.mul (.v 0) (.v 0)) (.mul (.v 0) (.v 0))) (.mul (.v 0) (.v 0))) (.v 3)) (.mul (.add (.add (.mul (.v 0) (.v 0)) (.mul (.v 0) (.v 0))) (.mul (.v 0) (.v 0))) (.v 3))) (.mul (.v 0) (.mul (.v 2) (.v 2)))) (.mul (.v 0) (.mul (.v 2) (.v 2)))) (.mul (.sub (.mul (.add (.add (.mul (.v 0) (.v 0)) (.mul (.v 0) (.v 0))) (.mul (.v 0) (.v 0))) (.add (.add (.mul (.v 0) (.v 0)) (.mul (.v 0) (.v 0))) (.mul (.v 0) (.v 0)))) (.add (.add (.add (.mul (.v 0) (.mul (.v 1) (.v 1))) (.mul (.v 0) (.mul (.v 1) (.v 1)))) (.add (.mul (.v 0) (.mul (.v 1) (.v 1))) (.mul (.v 0) (.mul (.v 1) (.v 1))))) (.add (.add (.mul (.v 0) (.mul (.v 1) (.v 1))) (.mul (.v 0) (.mul (.v 1) (.v 1)))) (.add (.mul (.v 0) (.mul (.v 1) (.v 1))) (.mul (.v 0) (.mul (.v 1) (.v 1))))))) (.mul (.v 3) (.v 3)))) [((.add (.mul (.mul (.c (-2)) (.v 2)) (.v 0)) (.mul (.mul (.mul (.c (-4)) (.v 0)) (.v 1)) (.v 3))),.sub (.v 2) (.mul (.add (.v 1) (.v 1)) (.v 3)))] ⟨AO.2 hi,trivial⟩ (by kernel_rfl))
theorem AHF {F:Type} [CR F] (x y i I:F) (hi:i=((y+y)*I)):((((((x*x)+(x*x))+(x*x))*I)*((x*(i*i))-(((((((x*x)+(x*x))+(x*x))*I)*((((x*x)+(x*x))+(x*x))*I))-(x*(i*i)))-(x*(i*i)))))-(y*((i*i)*i)))=((((((x*x)+(x*x))+(x*x))*((((x*(y*y))+(x*(y*y)))+((x*(y*y))+(x*(y*y))))-(((((x*x)+(x*x))+(x*x))*(((x*x)+(x*x))+(x*x)))-((((x*(y*y))+(x*(y*y)))+((x*(y*y))+(x*(y*y))))+(((x*(y*y))+(x*(y*y)))+((x*(y*y))+(x*(y*y))))))))-(((((y*y)*(y*y))+((y*y)*(y*y)))+(((y*y)*(y*y))+((y*y)*(y*y))))+((((y*y)*(y*y))+((y*y)*(y*y)))+(((y*y)*(y*y))+((y*y)*(y*y))))))*((I*I)*I)) :=
 AO.1 (A5 [x,y,i,I] (.sub (.sub (.mul (.mul (.add (.add (.mul (.v 0) (.v 0)) (.mul (.v 0) (.v 0))) (.mul (.v 0) (.v 0))) (.v 3)) (.sub (.mul (.v 0) (.mul (.v 2) (.v 2))) (.sub (.sub (.mul (.mul (.add (.add (.mul (.v 0) (.v 0)) (.mul (.v 0) (.v 0))) (.mul (.v 0) (.v 0))) (.v 3)) (.mul (.add (.add (.mul (.v 0) (.v 0)) (.mul (.v 0) (.v 0))) (.mul (.v 0) (.v 0))) (.v 3))) (.mul (.v 0) (.mul (.v 2) (.v 2)))) (.mul (.v 0) (.mul (.v 2) (.v 2)))))) (.mul (.v 1) (.mul (.mul (.v 2) (.v 2)) (.v 2)))) (.mul (.sub (.mul (.add (.add (.mul (.v 0) (.v 0)) (.mul (.v 0) (.v 0))) (.mul (.v 0) (.v 0))) (.sub (.add (.add (.mul (.v 0) (.mul (.v 1) (.v 1))) (.mul (.v 0) (.mul (.v 1) (.v 1)))) (.add (.mul (.v 0) (.mul (.v 1) (.v 1))) (.mul (.v 0) (.mul (.v 1) (.v 1))))) (.sub (.mul (.add (.add (.mul (.v 0) (.v 0)) (.mul (.v 0) (.v 0))) (.mul (.v 0) (.v 0))) (.add (.add (.mul (.v 0) (.v 0)) (.mul (.v 0) (.v 0))) (.mul (.v 0) (.v 0)))) (.add (.add (.add (.mul (.v 0) (.mul (.v 1) (.v 1))) (.mul (.v 0) (.mul (.v 1) (.v 1)))) (.add (.mul (.v 0) (.mul (.v 1) (.v 1))) (.mul (.v 0) (.mul (.v 1) (.v 1))))) (.add (.add (.mul (.v 0) (.mul (.v 1) (.v 1))) (.mul (.v 0) (.mul (.v 1) (.v 1)))) (.add (.mul (.v 0) (.mul (.v 1) (.v 1))) (.mul (.v 0) (.mul (.v 1) (.v 1))))))))) (.add (.add (.add (.mul (.mul (.v 1) (.v 1)) (.mul (.v 1) (.v 1))) (.mul (.mul (.v 1) (.v 1)) (.mul (.v 1) (.v 1)))) (.add (.mul (.mul (.v 1) (.v 1)) (.mul (.v 1) (.v 1))) (.mul (.mul (.v 1) (.v 1)) (.mul (.v 1) (.v 1))))) (.add (.add (.mul (.mul (.v 1) (.v 1)) (.mul (.v 1) (.v 1))) (.mul (.mul (.v 1) (.v 1)) (.mul (.v 1) (.v 1)))) (.add (.mul (.mul (.v 1) (.v 1)) (.mul (.v 1) (.v 1))) (.mul (.mul (.v 1) (.v 1)) (.mul (.v 1) (.v 1))))))) (.mul (.mul (.v 3) (.v 3)) (.v 3)))) [((.add (.add (.neg (.mul (.pw (.v 2) 2) (.v 1))) (.mul (.mul (.mul (.c 9) (.v 2)) (.pw (.v 0) 3)) (.v 3))) (.add (.mul (.mul (.mul (.c (-2)) (.v 2)) (.pw (.v 1) 2)) (.v 3)) (.add (.mul (.mul (.mul (.c 18) (.pw (.v 0) 3)) (.v 1)) (.pw (.v 3) 2)) (.mul (.mul (.c (-4)) (.pw (.v 1) 3)) (.pw (.v 3) 2))))),.sub (.v 2) (.mul (.add (.v 1) (.v 1)) (.v 3)))] ⟨AO.2 hi,trivial⟩ (by kernel_rfl))
theorem AHG {F:Type} [CR F] (y z i I:F) (hz:(z*i)=(int 1)) (hZ:(((y*z)+(y*z))*I)=(int 1)):i=((y+y)*I) :=
 AO.1 (A5 [y,z,i,I] (.sub (.v 2) (.mul (.add (.v 0) (.v 0)) (.v 3))) [((.mul (.mul (.c 2) (.v 0)) (.v 3)),.sub (.mul (.v 1) (.v 2)) (.c 1)),
  ((.neg (.v 2)),.sub (.mul (.add (.mul (.v 0) (.v 1)) (.mul (.v 0) (.v 1))) (.v 3)) (.c 1))] ⟨AO.2 hz,AO.2 hZ,trivial⟩ (by kernel_rfl))
theorem AHH {F:Type} [CR F] (x a z i:F) (hz:(z*i)=(int 1)):(((a*(z*z))-x)*(i*i))=(a-(x*(i*i))) :=
 AO.1 (A5 [x,a,z,i] (.sub (.mul (.sub (.mul (.v 1) (.mul (.v 2) (.v 2))) (.v 0)) (.mul (.v 3) (.v 3))) (.sub (.v 1) (.mul (.v 0) (.mul (.v 3) (.v 3))))) [((.add (.mul (.mul (.v 1) (.v 2)) (.v 3)) (.v 1)),.sub (.mul (.v 2) (.v 3)) (.c 1))] ⟨AO.2 hz,trivial⟩ (by kernel_rfl))
theorem AHI {F:Type} [CR F] (y b z i:F) (hz:(z*i)=(int 1)):(((b*((z*z)*z))-y)*((i*i)*i))=(b-(y*((i*i)*i))) :=
 AO.1 (A5 [y,b,z,i] (.sub (.mul (.sub (.mul (.v 1) (.mul (.mul (.v 2) (.v 2)) (.v 2))) (.v 0)) (.mul (.mul (.v 3) (.v 3)) (.v 3))) (.sub (.v 1) (.mul (.v 0) (.mul (.mul (.v 3) (.v 3)) (.v 3))))) [((.add (.mul (.mul (.v 1) (.pw (.v 2) 2)) (.pw (.v 3) 2)) (.add (.mul (.mul (.v 1) (.v 2)) (.v 3)) (.v 1))),.sub (.mul (.v 2) (.v 3)) (.c 1))] ⟨AO.2 hz,trivial⟩ (by kernel_rfl))
theorem AHJ {F:Type} [CR F] (z h i I:F) (hz:(z*i)=(int 1)) (hZ:((z*h)*I)=(int 1)):i=(h*I) :=
 AO.1 (A5 [z,h,i,I] (.sub (.v 2) (.mul (.v 1) (.v 3))) [((.mul (.v 1) (.v 3)),.sub (.mul (.v 0) (.v 2)) (.c 1)),
  ((.neg (.v 2)),.sub (.mul (.mul (.v 0) (.v 1)) (.v 3)) (.c 1))] ⟨AO.2 hz,AO.2 hZ,trivial⟩ (by kernel_rfl))
theorem AHK {F:Type} [CR F] (x y a b i I h r:F) (hi:i=(h*I)) (hh:(h*(i*i))=(a-(x*(i*i)))) (hr:(r*((i*i)*i))=(b-(y*((i*i)*i)))):((a-(x*(i*i)))*(r*I))=(b-(y*((i*i)*i))) :=
 AO.1 (A5 [x,y,a,b,i,I,h,r] (.sub (.mul (.sub (.v 2) (.mul (.v 0) (.mul (.v 4) (.v 4)))) (.mul (.v 7) (.v 5))) (.sub (.v 3) (.mul (.v 1) (.mul (.mul (.v 4) (.v 4)) (.v 4))))) [((.neg (.mul (.pw (.v 4) 2) (.v 7))),.sub (.v 4) (.mul (.v 6) (.v 5))),
  ((.neg (.mul (.v 5) (.v 7))),.sub (.mul (.v 6) (.mul (.v 4) (.v 4))) (.sub (.v 2) (.mul (.v 0) (.mul (.v 4) (.v 4))))),
  ((.c 1),.sub (.mul (.v 7) (.mul (.mul (.v 4) (.v 4)) (.v 4))) (.sub (.v 3) (.mul (.v 1) (.mul (.mul (.v 4) (.v 4)) (.v 4)))))] ⟨AO.2 hi,AO.2 hh,AO.2 hr,trivial⟩ (by kernel_rfl))
theorem AHL {F:Type} [CR F] (x y a i I h r:F) (hi:i=(h*I)) (hh:(h*(i*i))=(a-(x*(i*i)))):((((r*I)*(r*I))-(x*(i*i)))-a)=((((r*r)-((h*h)*h))-((x*(h*h))+(x*(h*h))))*(I*I)) :=
 AO.1 (A5 [x,y,a,i,I,h,r] (.sub (.sub (.sub (.mul (.mul (.v 6) (.v 4)) (.mul (.v 6) (.v 4))) (.mul (.v 0) (.mul (.v 3) (.v 3)))) (.v 2)) (.mul (.sub (.sub (.mul (.v 6) (.v 6)) (.mul (.mul (.v 5) (.v 5)) (.v 5))) (.add (.mul (.v 0) (.mul (.v 5) (.v 5))) (.mul (.v 0) (.mul (.v 5) (.v 5))))) (.mul (.v 4) (.v 4)))) [((.add (.add (.mul (.mul (.c (-2)) (.v 0)) (.v 3)) (.mul (.mul (.mul (.c (-2)) (.v 0)) (.v 4)) (.v 5))) (.add (.neg (.mul (.v 3) (.v 5))) (.neg (.mul (.v 4) (.pw (.v 5) 2))))),.sub (.v 3) (.mul (.v 5) (.v 4))),
  ((.c 1),.sub (.mul (.v 5) (.mul (.v 3) (.v 3))) (.sub (.v 2) (.mul (.v 0) (.mul (.v 3) (.v 3)))))] ⟨AO.2 hi,AO.2 hh,trivial⟩ (by kernel_rfl))
theorem AHM {F:Type} [CR F] (x y a i I h r:F) (hi:i=(h*I)) (hh:(h*(i*i))=(a-(x*(i*i)))):(((r*I)*((x*(i*i))-((((r*I)*(r*I))-(x*(i*i)))-a)))-(y*((i*i)*i)))=(((r*((x*(h*h))-(((r*r)-((h*h)*h))-((x*(h*h))+(x*(h*h))))))-(y*((h*h)*h)))*((I*I)*I)) :=
 AO.1 (A5 [x,y,a,i,I,h,r] (.sub (.sub (.mul (.mul (.v 6) (.v 4)) (.sub (.mul (.v 0) (.mul (.v 3) (.v 3))) (.sub (.sub (.mul (.mul (.v 6) (.v 4)) (.mul (.v 6) (.v 4))) (.mul (.v 0) (.mul (.v 3) (.v 3)))) (.v 2)))) (.mul (.v 1) (.mul (.mul (.v 3) (.v 3)) (.v 3)))) (.mul (.sub (.mul (.v 6) (.sub (.mul (.v 0) (.mul (.v 5) (.v 5))) (.sub (.sub (.mul (.v 6) (.v 6)) (.mul (.mul (.v 5) (.v 5)) (.v 5))) (.add (.mul (.v 0) (.mul (.v 5) (.v 5))) (.mul (.v 0) (.mul (.v 5) (.v 5))))))) (.mul (.v 1) (.mul (.mul (.v 5) (.v 5)) (.v 5)))) (.mul (.mul (.v 4) (.v 4)) (.v 4)))) [((.add (.add (.mul (.mul (.mul (.mul (.c 3) (.v 0)) (.v 3)) (.v 4)) (.v 6)) (.add (.mul (.mul (.mul (.mul (.c 3) (.v 0)) (.pw (.v 4) 2)) (.v 5)) (.v 6)) (.neg (.mul (.v 1) (.pw (.v 3) 2))))) (.add (.add (.neg (.mul (.mul (.mul (.v 1) (.v 3)) (.v 4)) (.v 5))) (.neg (.mul (.mul (.v 1) (.pw (.v 4) 2)) (.pw (.v 5) 2)))) (.add (.mul (.mul (.mul (.v 3) (.v 4)) (.v 5)) (.v 6)) (.mul (.mul (.pw (.v 4) 2) (.pw (.v 5) 2)) (.v 6))))),.sub (.v 3) (.mul (.v 5) (.v 4))),
  ((.neg (.mul (.v 4) (.v 6))),.sub (.mul (.v 5) (.mul (.v 3) (.v 3))) (.sub (.v 2) (.mul (.v 0) (.mul (.v 3) (.v 3)))))] ⟨AO.2 hi,AO.2 hh,trivial⟩ (by kernel_rfl))
end Go.Proofs.YtojnabmgolpodaaGreat.Rg
namespace Go.Proofs.YtojnabmgolpodaaGreat.Rg
open FD (inv)
structure J (F:Type) where
 x:F
 y:F
 z:F
section
variable {F:Type} [FD F]
def Ba (j:J F):Pt F:=if j.z=0 then .inf else .pt (j.x*(inv j.z*inv j.z)) (j.y*((inv j.z*inv j.z)*inv j.z))
def jE (x:F):F:=x*x+x*x+x*x
def jD (x y:F):F:=x*(y*y)+x*(y*y)+(x*(y*y)+x*(y*y))
def jC2 (y:F):F:=(y*y)*(y*y)+(y*y)*(y*y)
def Zi (y:F):F:=jC2 y+jC2 y
def Zj (y:F):F:=Zi y+Zi y
def jX (x y:F):F:=jE x*jE x-(jD x y+jD x y)
def B4 (j:J F):J F:=⟨jX j.x j.y,jE j.x*(jD j.x j.y-jX j.x j.y)-Zj j.y,j.y*j.z+j.y*j.z⟩
def pX (x h r:F):F:=r*r-(h*h)*h-(x*(h*h)+x*(h*h))
def pY (x y h r:F):F:=r*(x*(h*h)-pX x h r)-y*((h*h)*h)
def pH (j:J F) (a:F):F:=a*(j.z*j.z)-j.x
def pR (j:J F) (b:F):F:=b*((j.z*j.z)*j.z)-j.y
def FK (j:J F) (a b:F):J F :=
 if j.z=0 then ⟨a,b,1⟩ else if pH j a=0 then (if pR j b=0 then B4 j else ⟨0,0,0⟩)
 else ⟨pX j.x (pH j a) (pR j b),pY j.x j.y (pH j a) (pR j b),j.z*pH j a⟩
theorem OZ {z:F} (h:z≠0):z*inv z=int 1:=by rw [FD.mul_inv z h,Qn]
theorem GX {j:J F} (h:j.z≠0):Ba j=.pt (j.x*(inv j.z*inv j.z)) (j.y*((inv j.z*inv j.z)*inv j.z)):=if_neg h
theorem F7 {j:J F} (h:j.z=0):Ba j=.inf:=if_pos h
theorem AHN:inv (1:F)=1:=by have:=FD.mul_inv (1:F) FD.one_ne;rwa [one_mul] at this
theorem AHO {z:F} (h:z≠0):inv z≠0:=fun e=>by
 have:=FD.mul_inv z h
 rw [e,mul_zero] at this
 exact FD.one_ne this.symm
variable (C:Cv F)
theorem Qu {j:J F} (hp:On C.b (Ba j)):Ba (B4 j)=add (Ba j) (Ba j):=by
 by_cases hz:j.z=0
 ·have h2:(B4 j).z=0:=by show j.y*j.z+j.y*j.z=0;rw [hz,mul_zero,zero_add]
  rw [F7 h2,F7 hz];rfl
 ·rw [GX hz] at hp ⊢
  have hY:=C.no2 _ _ hp
  have hy:j.y≠0:=fun e=>hY (by rw [e,zero_mul])
  have hZ:j.y*j.z+j.y*j.z≠0:=OY C (C4 hy hz)
  have hi:=AHG j.y j.z (inv j.z) (inv (j.y*j.z+j.y*j.z)) (OZ hz) (OZ hZ)
  rw [GX (j:=B4 j) hZ,OX,if_pos rfl,if_pos ⟨rfl,hY⟩,Qt (OY C hY) (AHE j.x j.y _ _ hi)]
  unfold IL
  rw [qN j.x j.y _ _ hi]
  have h2:=AHF j.x j.y _ _ hi
  rw [qN j.x j.y _ _ hi] at h2
  rw [h2];rfl
theorem UZ {j:J F} {a b:F} (hp:On C.b (Ba j)):Ba (FK j a b)=add (Ba j) (.pt a b):=by
 unfold FK
 by_cases hz:j.z=0
 ·rw [if_pos hz,F7 hz,GX (j:=⟨a,b,1⟩) FD.one_ne]
  show Pt.pt (a*(inv 1*inv 1)) (b*((inv 1*inv 1)*inv 1))=.pt a b
  rw [AHN,one_mul,one_mul,mul_one,mul_one]
 ·rw [if_neg hz]
  have eh:pH j a*(inv j.z*inv j.z)=a-j.x*(inv j.z*inv j.z):=AHH j.x a j.z _ (OZ hz)
  have er:pR j b*((inv j.z*inv j.z)*inv j.z)=b-j.y*((inv j.z*inv j.z)*inv j.z):=AHI j.y b j.z _ (OZ hz)
  have hi:=AHO hz
  by_cases hh:pH j a=0
  ·have ea:a=j.x*(inv j.z*inv j.z):=AO.1 (by rw [← eh,hh,zero_mul])
   rw [if_pos hh]
   by_cases hr:pR j b=0
   ·have eb:b=j.y*((inv j.z*inv j.z)*inv j.z):=AO.1 (by rw [← er,hr,zero_mul])
    rw [if_pos hr,Qu C hp]
    conv=>rhs;rw [ea,eb]
    rw [GX hz]
   ·rw [if_neg hr,F7 (j:=⟨0,0,0⟩) rfl,GX hz,OX,if_pos ea.symm,if_neg]
    rintro ⟨e,_⟩
    have:b-j.y*((inv j.z*inv j.z)*inv j.z)=0:=AO.2 e.symm
    rw [← er] at this
    exact C4 hr (C4 (C4 hi hi) hi) this
  ·rw [if_neg hh]
   have hax:a-j.x*(inv j.z*inv j.z)≠0:=by rw [← eh];exact C4 hh (C4 hi hi)
   have hZ:j.z*pH j a≠0:=C4 hz hh
   have hI:=AHJ j.z (pH j a) (inv j.z) (inv (j.z*pH j a)) (OZ hz) (OZ hZ)
   have hl:=AHK j.x j.y a b _ _ _ _ hI eh er
   rw [GX (j:=⟨pX j.x (pH j a) (pR j b),pY j.x j.y (pH j a) (pR j b),j.z*pH j a⟩) hZ,GX hz,OX,if_neg (fun e=>hax (AO.2 e.symm)),Qt hax hl]
   unfold IL
   have e1:=AHL j.x j.y a (inv j.z) (inv (j.z*pH j a)) (pH j a) (pR j b) hI eh
   have e2:=AHM j.x j.y a (inv j.z) (inv (j.z*pH j a)) (pH j a) (pR j b) hI eh
   rw [e1] at e2
   rw [e1,e2];rfl
end
end Go.Proofs.YtojnabmgolpodaaGreat.Rg
namespace Go.Proofs.YtojnabmgolpodaaGreat.Rg
section
variable {F:Type} [CR F]
class At (xs:List F) (x:F) (i:outParam Nat):Prop where
 h:nth xs i=x
instance atTail {xs:List F} {x y:F} {i:Nat} [a:At xs x i]:At (y::xs) x (i+1):=⟨a.h⟩
instance (priority:=high) atHead {xs:List F} {x:F}:At (x::xs) x 0:=⟨rfl⟩
class Rf (xs:List F) (t:F) (e:outParam E):Prop where
 h:e.den xs=t
instance (priority:=low) rfV {xs:List F} {x:F} {i:Nat} [a:At xs x i]:Rf xs x (.v i):=⟨a.h⟩
instance rfAdd {xs:List F} {a b:F} {e f:E} [x:Rf xs a e] [y:Rf xs b f]:Rf xs (a+b) (.add e f):=⟨by rw [E.den,x.h,y.h]⟩
instance rfSub {xs:List F} {a b:F} {e f:E} [x:Rf xs a e] [y:Rf xs b f]:Rf xs (a-b) (.sub e f):=⟨by rw [E.den,x.h,y.h]⟩
instance rfMul {xs:List F} {a b:F} {e f:E} [x:Rf xs a e] [y:Rf xs b f]:Rf xs (a*b) (.mul e f):=⟨by rw [E.den,x.h,y.h]⟩
instance rfNeg {xs:List F} {a:F} {e:E} [x:Rf xs a e]:Rf xs (-a) (.neg e):=⟨by rw [E.den,x.h]⟩
instance rfZero {xs:List F}:Rf xs 0 (.c 0):=⟨rfl⟩
instance rfOne {xs:List F}:Rf xs 1 (.c 1):=⟨Qn⟩
theorem ring (xs:List F) {a b:F} {e f:E} [x:Rf xs a e] [y:Rf xs b f] (h:Zd (E.pol (.sub e f))=true):a=b:=by
 rw [← x.h,← y.h];exact AGh xs e f h
end
end Go.Proofs.YtojnabmgolpodaaGreat.Rg
namespace Go.Proofs.YtojnabmgolpodaaGreat.Rg
set_option maxRecDepth 100000
set_option maxHeartbeats 4000000
set_option synthInstance.maxSize 100000
set_option synthInstance.maxHeartbeats 400000
set_option maxHeartbeats 1000000
structure Qx {F:Type} [CR F] (β:F) where
 a:F
 b:F
section
variable {F:Type} [CR F] {β ξ:F}
theorem Qx.ext {x y:Qx β} (h1:x.a=y.a) (h2:x.b=y.b):x=y:=by cases x;cases y;simp_all
instance crQ:CR (Qx β) where
 add x y:=⟨x.a+y.a,x.b+y.b⟩
 mul x y:=⟨x.a*y.a+β*(x.b*y.b),x.a*y.b+x.b*y.a⟩
 neg x:=⟨-x.a,-x.b⟩
 sub x y:=⟨x.a-y.a,x.b-y.b⟩
 zero:=⟨0,0⟩
 one:=⟨1,0⟩
 add_assoc x y z:=Qx.ext (add_assoc _ _ _) (add_assoc _ _ _)
 add_comm x y:=Qx.ext (add_comm _ _) (add_comm _ _)
 zero_add x:=Qx.ext (zero_add _) (zero_add _)
 neg_add x:=Qx.ext (neg_add _) (neg_add _)
 mul_assoc x y z:=Qx.ext (ring [x.a,x.b,y.a,y.b,z.a,z.b,β] (a:=(x.a*y.a+β*(x.b*y.b))*z.a+β*((x.a*y.b+x.b*y.a)*z.b)) (b:=x.a*(y.a*z.a+β*(y.b*z.b))+β*(x.b*(y.a*z.b+y.b*z.a))) (by kernel_rfl))
  (ring [x.a,x.b,y.a,y.b,z.a,z.b,β] (a:=(x.a*y.a+β*(x.b*y.b))*z.b+(x.a*y.b+x.b*y.a)*z.a) (b:=x.a*(y.a*z.b+y.b*z.a)+x.b*(y.a*z.a+β*(y.b*z.b))) (by kernel_rfl))
 mul_comm x y:=Qx.ext (ring [x.a,x.b,y.a,y.b,β] (a:=x.a*y.a+β*(x.b*y.b)) (b:=y.a*x.a+β*(y.b*x.b)) (by kernel_rfl)) (ring [x.a,x.b,y.a,y.b] (a:=x.a*y.b+x.b*y.a) (b:=y.a*x.b+y.b*x.a) (by kernel_rfl))
 one_mul x:=Qx.ext (ring [x.a,x.b,β] (a:=1*x.a+β*(0*x.b)) (by kernel_rfl)) (ring [x.a,x.b] (a:=1*x.b+0*x.a) (by kernel_rfl))
 add_mul x y z:=Qx.ext (ring [x.a,x.b,y.a,y.b,z.a,z.b,β] (a:=(x.a+y.a)*z.a+β*((x.b+y.b)*z.b)) (b:=x.a*z.a+β*(x.b*z.b)+(y.a*z.a+β*(y.b*z.b))) (by kernel_rfl))
  (ring [x.a,x.b,y.a,y.b,z.a,z.b] (a:=(x.a+y.a)*z.b+(x.b+y.b)*z.a) (b:=x.a*z.b+x.b*z.a+(y.a*z.b+y.b*z.a)) (by kernel_rfl))
 sub_eq x y:=Qx.ext (sub_eq _ _) (sub_eq _ _)
def Qx.conj (x:Qx β):Qx β:=⟨x.a,-x.b⟩
def Qx.nrm (x:Qx β):F:=x.a*x.a-β*(x.b*x.b)
theorem Qx.nrm_mul (x y:Qx β):(x*y).nrm=x.nrm*y.nrm :=
 ring [x.a,x.b,y.a,y.b,β] (a:=(x.a*y.a+β*(x.b*y.b))*(x.a*y.a+β*(x.b*y.b))-β*((x.a*y.b+x.b*y.a)*(x.a*y.b+x.b*y.a))) (b:=(x.a*x.a-β*(x.b*x.b))*(y.a*y.a-β*(y.b*y.b))) (by kernel_rfl)
end
section
variable {F:Type} [FD F] {β ξ:F}
open FD (inv)
instance decQ:DecidableEq (Qx β):=fun x y=>if h:x.a=y.a∧x.b=y.b then isTrue (Qx.ext h.1 h.2) else isFalse fun e=>h (by rw [e];exact ⟨rfl,rfl⟩)
theorem Ua {a b:F} (h:a*b=0):a=0∨b=0:=by
 by_cases e:a=0
 ·exact .inl e
 ·exact .inr (Qs e h)
theorem Qx.nrm_ne (hβ:∀ x:F,x*x≠β) {x:Qx β} (h:x.nrm=0):x=⟨0,0⟩:=by
 by_cases hb:x.b=0
 ·have:x.a*x.a=0:=by
   have h':=h
   unfold Qx.nrm at h'
   rw [hb,mul_zero,mul_zero,AO] at h'
   exact h'
  rcases Ua this with e | e<;>exact Qx.ext e hb
 ·exfalso
  refine hβ (x.a*inv x.b) ?_
  have h':=AO.1 h
  have hi:=FD.mul_inv x.b hb
  calc x.a*inv x.b*(x.a*inv x.b)=(x.a*x.a)*(inv x.b*inv x.b):=ring [x.a,inv x.b] (by kernel_rfl)
   _=β*((x.b*inv x.b)*(x.b*inv x.b)):=by rw [h'];exact ring [x.b,inv x.b,β] (by kernel_rfl)
   _=β:=by rw [hi,mul_one,mul_one]
def qO (x:Qx β):Qx β:=⟨x.a*inv x.nrm,-x.b*inv x.nrm⟩
@[reducible] def fdQ (hβ:∀ x:F,x*x≠β):FD (Qx β) where
 inv:=qO
 mul_inv x h:=by
  have hi:=FD.mul_inv x.nrm fun e=>h (Qx.nrm_ne hβ e)
  exact Qx.ext (Eq.trans (ring [x.a,x.b,inv x.nrm,β] (a:=x.a*(x.a*inv x.nrm)+β*(x.b*(-x.b*inv x.nrm))) (b:=(x.a*x.a-β*(x.b*x.b))*inv x.nrm) (by kernel_rfl)) hi)
   (ring [x.a,x.b,inv x.nrm] (a:=x.a*(-x.b*inv x.nrm)+x.b*(x.a*inv x.nrm)) (b:=0) (by kernel_rfl))
 inv_zero:=Qx.ext (zero_mul _) (by show -(0:F)*_=0;rw [K_,zero_mul])
 one_ne h:=FD.one_ne (F:=F) (congrArg Qx.a h)
 dec:=decQ
end
end Go.Proofs.YtojnabmgolpodaaGreat.Rg
namespace Go.Proofs.YtojnabmgolpodaaGreat
open Ex Num
set_option maxRecDepth 100000
set_option maxHeartbeats 4000000
abbrev FP:Type:=Fin pN
theorem CK (a:FP):tf a.val=a:=by
 rw [Fin.ext_iff];show a.val % pN=a.val;exact Nat.mod_eq_of_lt a.isLt
theorem IP {x:Nat} (h:x<pN):(tf x).val=x:=Nat.mod_eq_of_lt h
theorem LC {x:Nat} {a:FP} (hx:x<pN) (h:tf x=a):x=a.val:=by rw [← h,IP hx]
noncomputable def JK (a:FP):FP:=tf (CA a.val)
theorem AHQ {a:FP} (h:a≠0):a*JK a=1:=by
 have hz:a.val % pN≠0:=fun e=>h (by
  have:=UH.2 e
  rwa [CK] at this)
 have:=oU hz
 rwa [CK] at this
theorem AHR:JK 0=0:=by
 unfold JK
 have:CA (0:FP).val=0:=oT rfl
 rw [this];exact tf_zero
theorem AHS:(1:FP)≠0:=fun h=>by
 have:=Ml (show 1<pN by decide) Cp (by rw [F1,tf_zero];exact h)
 cases this
noncomputable instance fdFP:Rg.FD FP where
 add_assoc a b c:=by grind
 add_comm a b:=by grind
 zero_add a:=by grind
 neg_add a:=by grind
 mul_assoc a b c:=by grind
 mul_comm a b:=by grind
 one_mul a:=by grind
 add_mul a b c:=by grind
 sub_eq a b:=by grind
 inv:=JK
 mul_inv a h:=AHQ h
 inv_zero:=AHR
 one_ne:=AHS
 dec:=inferInstance
theorem AHT:(Rg.int 2:FP)=1+1:=by
 show (0:FP)+1+1=1+1
 grind
def Zk (m:Nat):Bool:=Nat.beq (Kz pN (pN-m) 384 ((pN-1) / 3)) 1
theorem AHU:Zk 4=false:=by kernel_rfl
theorem p3:(pN-1) / 3*3=pN-1:=by kernel_rfl
theorem qP:Nat.blt ((pN-1) / 3) RR=true:=by kernel_rfl
theorem AHV {m:Nat} (hm:m<pN) (h0:0<m) (hc:Zk m=false) (x:Nat):(x^3+m) % pN≠0:=by
 intro h
 have hx:x^3 % pN=pN-m:=by
  have h1:=H7 (x^3)
  rw [Nat.add_mod,Nat.mod_eq_of_lt hm] at h
  have h2:x^3 % pN+m=pN:=by
   have hd:=Nat.dvd_of_mod_eq_zero h
   obtain ⟨k,hk⟩:=hd
   have:k=1:=by
    rcases Nat.lt_or_ge k 1 with q | q
    ·rw [show k=0 by omega,Nat.mul_zero] at hk;omega
    ·rcases Nat.lt_or_ge k 2 with q2 | q2
     ·omega
     ·have:=Nat.mul_le_mul_left pN q2
      omega
   rw [this,Nat.mul_one] at hk
   exact hk
  omega
 have hnd:¬ pN∣x:=fun hd=>by
  obtain ⟨k,hk⟩:=hd
  have:x^3 % pN=0:=by rw [hk,Nat.mul_pow,Nat.pow_succ,Nat.mul_comm (pN^2),Nat.mul_assoc,Nat.mul_mod_right]
  omega
 have hf:=OL pN_prime hnd
 rw [← p3,Nat.mul_comm,Nat.pow_mul,Nat.pow_mod,hx,← Y5 pN 384 (pN-m) ((pN-1) / 3) (by rw [mY];exact A9.1 qP)] at hf
 unfold Zk at hc
 rw [hf] at hc
 cases hc
noncomputable def CU:FP:=tf 4
noncomputable def C1:Rg.Cv FP where
 b:=CU
 two:=by
  rw [AHT]
  have h2:tf 2=1+1:=by rw [← F1,← IE]
  rw [← h2]
  intro h
  have:=Ml (show 2<pN by decide) Cp (by rw [h,tf_zero])
  cases this
 no2:=fun x y h hy=>by
  subst hy
  have h1:x*x*x+CU=0:=by
   rw [← h]
   grind
  have h2:tf (x.val^3+4)=0:=by
   rw [IE,Nat.pow_succ,Nat.pow_succ,Nat.pow_one,K8,K8,CK]
   exact h1
  exact AHV (by decide) (by decide) AHU x.val (UH.1 h2)
end Go.Proofs.YtojnabmgolpodaaGreat
namespace Go.Proofs.YtojnabmgolpodaaGreat
open Ex Num Rg
set_option maxRecDepth 100000
set_option maxHeartbeats 4000000
def Cy (x y:Nat) (i:Bool):AV:=.val true [.num 6 x,.num 6 y,.v (.bool i)]
def Oi (cs:List Ch):Option (Nat×Nat×Bool):=match D8 cs 6 with
 | some (a,r)=>match D8 r 6 with
  | some (b,[c])=>match B8 6 a,B8 6 b,D_ (some (.val false [c])) with
   | some x,some y,some (_,i)=>some (x,y,i)
   | _,_,_=>none
  | _=>none
 | none=>none
theorem JL {β β':Env} {cs:List Ch} {x y:Nat} {i:Bool} {u:Value} (h:Oi cs=some (x,y,i)) (hr:AG β (.val true cs) u):AG β' (Cy x y i) u∧x<RR∧y<RR:=by
 unfold Oi at h
 split at h
 case h_2=>cases h
 rename_i a r h1
 split at h
 case h_2=>cases h
 rename_i b c h2
 split at h
 case h_2=>cases h
 rename_i x' y' c0 i' h3 h4 h5
 injection h with h;injection h with e1 h;injection h with e2 e3
 subst e1;subst e2;subst e3
 obtain ⟨l,hl,rfl⟩:=hr
 obtain ⟨q1,q2,q3⟩:=FV h1 hl
 obtain ⟨r1,r2,r3⟩:=FV h2 q2
 obtain ⟨ea,la⟩:=EO h3 q1
 obtain ⟨eb,lb⟩:=EO h4 r1
 obtain ⟨l1,l2,hc1,hc2,hc3⟩:=r2
 simp only [AH] at hc2
 subst hc2
 have hlen:=Lo hc1
 have hsz:DN c=1:=by
  unfold D_ at h5
  split at h5
  ·rename_i _ _ hq;injection hq with hq;injection hq with _ hq;injection hq with hq _;rw [hq];rfl
  ·rename_i _ _ hq;injection hq with hq;injection hq with _ hq;injection hq with hq _;rw [hq];rfl
  ·cases h5
 rw [hsz] at hlen
 obtain ⟨w,rfl⟩:=List.length_eq_one_iff.1 hlen
 have hw:w=.bool i':=G9 (β:=β) (u:=w) (fun A hA=>by injection hA with hA;subst hA;exact ⟨[w],[],hc1,rfl,rfl⟩) h5
 subst hw
 rw [Dd]
 refine ⟨⟨l,⟨_,_,⟨la,rfl⟩,⟨_,_,⟨lb,rfl⟩,⟨[.bool i'],[],⟨rfl,rfl,trivial⟩,rfl,rfl⟩,rfl⟩,?_⟩,rfl⟩,la,lb⟩
 rw [← ea,← eb,← hc3,List.take_append_drop,List.take_append_drop]
def Ai (x y:Nat) (i:Bool):Pt FP:=match i with
 | true=>.inf
 | false=>.pt (tf x) (tf y)
def D0:Pt FP→Nat
 | .inf=>0
 | .pt a _=>a.val
def Bv:Pt FP→Nat
 | .inf=>0
 | .pt _ b=>b.val
def Bn:Pt FP→Bool
 | .inf=>true
 | .pt _ _=>false
def JM (P:Pt FP):AV:=Cy (D0 P) (Bv P) (Bn P)
theorem Uj (P:Pt FP):D0 P<pN:=by cases P with | inf=>exact Cp | pt a b=>exact a.isLt
theorem Zl (P:Pt FP):Bv P<pN:=by cases P with | inf=>exact Cp | pt a b=>exact b.isLt
theorem Oj (P:Pt FP):Ai (D0 P) (Bv P) (Bn P)=P:=by
 cases P with
 | inf=>rfl
 | pt a b=>show Pt.pt (tf a.val) (tf b.val)=_;rw [CK,CK]
theorem AHW (x y:Nat):JM (.pt (tf x) (tf y))=Cy (x % pN) (y % pN) false:=rfl
theorem qQ {x y:Nat} {a b:FP} (hx:x<pN) (hy:y<pN) (ha:tf x=a) (hb:tf y=b):Cy x y false=JM (.pt a b):=by
 rw [← ha,← hb,AHW,Nat.mod_eq_of_lt hx,Nat.mod_eq_of_lt hy]
theorem Ok {P:Program} {f:FuncId} {args:List AV} {cs:List Ch} {x y:Nat} {i:Bool} (h:AW P f args (.val true cs)) (hc:Oi cs=some (x,y,i)):AW P f args (Cy x y i):=ER h fun _ hu=>(JL hc hu).1
def Qv (g:Pt FP→AV):List AV→Option AV
 | [.val true a]=>match Oi a with
  | some (x,y,i)=>some (g (Ai x y i))
  | none=>none
 | _=>none
theorem Zm {f:FuncId} {g:Pt FP→AV} (h:∀ x y i,AW Tryz.prog f [Cy x y i] (g (Ai x y i))):∀ args v,Qv g args=some v→AW Tryz.prog f args v:=by
 intro args v hs us w ha
 unfold Qv at hs
 split at hs
 case h_2=>cases hs
 rename_i a
 split at hs
 case h_2=>cases hs
 rename_i x y i hx
 injection hs with hs;subst hs
 obtain ⟨u1,us1,r1,ha,rfl⟩:=ha
 exact h x y i _ w ⟨u1,_,(JL hx r1).1,ha,rfl⟩
theorem AHX:AX Tryz.prog (AJ S0 K0) Tryz.f113 [] [] 100=some ([],.val true [.n .u64 4,.n .u64 0,.n .u64 0,.n .u64 0,.n .u64 0,.n .u64 0]):=by kernel_rfl
theorem AHY:AW Tryz.prog 113 [] (Ao 4):=ER (Ac (AN KU AZ) AE Tryz.func113 AHX trivial rfl) fun u hu=>Tt (by kernel_rfl) hu
def gX:Nat:=0x17f1d3a73197d7942695638c4fa9ac0fc3688c4f9774b905a14e3a3f171bac586c55e83ff97a1aeffb3af00adb22c6bb
def gY:Nat:=0x08b3f481e3aaa0f1a09e30ed741d8ae4fcf5e095d5d00af600db18cb2c04b3edd03cc744a2888ae40caa232946c5e7e1
def gC:List Ch:=[.n .u64 0xfb3af00adb22c6bb,.n .u64 0x6c55e83ff97a1aef,.n .u64 0xa14e3a3f171bac58,.n .u64 0xc3688c4f9774b905,.n .u64 0x2695638c4fa9ac0f,.n .u64 0x17f1d3a73197d794,
 .n .u64 0xcaa232946c5e7e1,.n .u64 0xd03cc744a2888ae4,.n .u64 0xdb18cb2c04b3ed,.n .u64 0xfcf5e095d5d00af6,.n .u64 0xa09e30ed741d8ae4,.n .u64 0x8b3f481e3aaa0f1,.b false]
theorem AHZ:AX Tryz.prog (AJ S0 K0) Tryz.f19 [] [] 100=some ([],.val true gC):=by kernel_rfl
def G1B:Pt FP:=.pt (tf gX) (tf gY)
theorem AHa:Nat.blt gX pN=true:=by kernel_rfl
theorem AHb:Nat.blt gY pN=true:=by kernel_rfl
theorem AHc:Cy gX gY false=JM G1B:=qQ (A9.1 AHa) (A9.1 AHb) rfl rfl
theorem AHd:AW Tryz.prog 19 [] (JM G1B):=by
 rw [← AHc]
 exact Ok (Ac (AN KU AZ) AE Tryz.func19 AHZ trivial rfl) (by kernel_rfl)
def GY (i:Bool):List Ch:=[.n .u64 0,.n .u64 0,.n .u64 0,.n .u64 0,.n .u64 0,.n .u64 0,.n .u64 0,.n .u64 0,.n .u64 0,.n .u64 0,.n .u64 0,.n .u64 0,.b i]
theorem AHe (x y:Nat) (i:Bool):AX Tryz.prog (AJ SE K0) Tryz.f59 [Cy x y i] [true] 300=some ([(i,true)],.val true (GY true)):=by kernel_rfl
theorem AHf (x y:Nat) (i:Bool):AX Tryz.prog (AJ SE K0) Tryz.f59 [Cy x y i] [false] 300=some ([(i,false)],.val true [.num 6 (x % pN),.num 6 (y % pN),.b false]):=by kernel_rfl
theorem AHg (x y:Nat) (i:Bool):AW Tryz.prog 59 [Cy x y i] (JM (Ai x y i)):=by
 cases i with
 | true=>exact Ok (Ac (AN ZZ AZ) AE Tryz.func59 (AHe x y true) ⟨rfl,trivial⟩ rfl) (by kernel_rfl)
 | false=>exact Ok (Ac (AN ZZ AZ) AE Tryz.func59 (AHf x y false) ⟨rfl,trivial⟩ rfl) (by kernel_rfl)
noncomputable def SG0:List (FuncId×ASpec):=(113,As fun args=>match args with | []=>some (Ao 4) | _=>none)::(19,As fun args=>match args with | []=>some (JM G1B) | _=>none)::(59,As (Qv JM))::SE
theorem Zn:AM Tryz.prog SG0:=⟨Av Tryz.func113 (by kernel_rfl) (by kernel_rfl) (QG AHY fun u h=>h),Av Tryz.func19 (by kernel_rfl) (by kernel_rfl) (QG AHd fun u h=>h),Av Tryz.func59 (by kernel_rfl) (by kernel_rfl) (Zm AHg),ZZ⟩
theorem AHh {n:Nat} (h:n<pN):tf (CA n)=JK (tf n):=by unfold JK;rw [IP h]
theorem Zo {b:FP}:b.val=0↔b=0:=by rw [Fin.ext_iff];exact Iff.rfl
noncomputable def CL:Pt FP→Bool
 | .inf=>true
 | .pt a b=>decide (b*b=a*a*a+CU)
theorem Qw (P:Pt FP):CL P=true↔Rg.On C1.b P:=by
 cases P with
 | inf=>exact ⟨fun _=>trivial,fun _=>rfl⟩
 | pt a b=>exact decide_eq_true_iff
theorem AHi (x y:Nat) (i:Bool):AX Tryz.prog (AJ SG0 K0) Tryz.f60 [Cy x y i] [true] 300=some ([(i,true)],.val false [.b true]):=by kernel_rfl
theorem AHj (x y:Nat) (i:Bool):AX Tryz.prog (AJ SG0 K0) Tryz.f60 [Cy x y i] [false] 300=some ([(i,false)],CI (decide (Ag y y=DH (Ag (Ag x x) x) 4))):=by kernel_rfl
theorem qS (x y:Nat):decide (Ag y y=DH (Ag (Ag x x) x) 4)=CL (Ai x y false):=by
 have e:(Ag y y=DH (Ag (Ag x x) x) 4)↔(tf y*tf y=tf x*tf x*tf x+CU):=by
  constructor
  ·intro h
   have:=congrArg tf h
   simpa [EE,JG,CU] using this
  ·intro h
   exact Ml (OM _ _) (UG _ _) (by simpa [EE,JG,CU] using h)
 show _=decide (tf y*tf y=tf x*tf x*tf x+CU)
 by_cases h:Ag y y=DH (Ag (Ag x x) x) 4
 ·rw [decide_eq_true h,decide_eq_true (e.1 h)]
 ·rw [decide_eq_false h,decide_eq_false fun q=>h (e.2 q)]
theorem AHk (x y:Nat) (i:Bool):AW Tryz.prog 60 [Cy x y i] (CI (CL (Ai x y i))):=by
 cases i with
 | true=>exact ER (Ac (AN Zn AZ) AE Tryz.func60 (AHi x y true) ⟨rfl,trivial⟩ rfl) fun u hu=>OK rfl hu
 | false=>rw [← qS];exact Ac (AN Zn AZ) AE Tryz.func60 (AHj x y false) ⟨rfl,trivial⟩ rfl
section
variable (x y:Nat) (i:Bool) (x' y':Nat) (i':Bool)
end
noncomputable def SG1:List (FuncId×ASpec):=(60,As (Qv fun P=>CI (CL P)))::SG0
theorem qU:AM Tryz.prog SG1:=⟨Av Tryz.func60 (by kernel_rfl) (by kernel_rfl) (Zm AHk),Zn⟩
def EG (x y z:Nat):AV:=.val true [.num 6 x,.num 6 y,.num 6 z]
def Ms (j:J FP):AV:=EG j.x.val j.y.val j.z.val
def CM (x y z:Nat):J FP:=⟨tf x,tf y,tf z⟩
def Mt (cs:List Ch):Option (Nat×Nat×Nat):=match D8 cs 6 with
 | some (a,r)=>match D8 r 6 with
  | some (b,c)=>match B8 6 a,B8 6 b,B8 6 c with
   | some x,some y,some z=>some (x,y,z)
   | _,_,_=>none
  | _=>none
 | none=>none
theorem Qy {β β':Env} {cs:List Ch} {x y z:Nat} {u:Value} (h:Mt cs=some (x,y,z)) (hr:AG β (.val true cs) u):AG β' (EG x y z) u:=by
 unfold Mt at h
 split at h
 case h_2=>cases h
 rename_i a r h1
 split at h
 case h_2=>cases h
 rename_i b c h2
 split at h
 case h_2=>cases h
 rename_i x' y' z' h3 h4 h5
 injection h with h;injection h with e1 h;injection h with e2 e3
 subst e1;subst e2;subst e3
 obtain ⟨l,hl,rfl⟩:=hr
 obtain ⟨q1,q2,q3⟩:=FV h1 hl
 obtain ⟨r1,r2,r3⟩:=FV h2 q2
 obtain ⟨ea,la⟩:=EO h3 q1
 obtain ⟨eb,lb⟩:=EO h4 r1
 obtain ⟨ec,lc⟩:=EO h5 r2
 refine ⟨l,⟨_,_,⟨la,rfl⟩,⟨_,_,⟨lb,rfl⟩,⟨_,[],⟨lc,rfl⟩,rfl,rfl⟩,rfl⟩,?_⟩,rfl⟩
 rw [← ea,← eb,← ec,List.append_nil,List.take_append_drop,List.take_append_drop]
theorem Uk {x y z:Nat} {j:J FP} (hx:x<pN) (hy:y<pN) (hz:z<pN) (ex:tf x=j.x) (ey:tf y=j.y) (ez:tf z=j.z):EG x y z=Ms j:=by
 unfold Ms
 rw [← LC hx ex,← LC hy ey,← LC hz ez]
def nE (x:Nat):Nat:=DH (DH (Ag x x) (Ag x x)) (Ag x x)
def nD (x y:Nat):Nat:=DH (DH (Ag x (Ag y y)) (Ag x (Ag y y))) (DH (Ag x (Ag y y)) (Ag x (Ag y y)))
def Zp (y:Nat):Nat:=DH (Ag (Ag y y) (Ag y y)) (Ag (Ag y y) (Ag y y))
def Zq (y:Nat):Nat:=DH (Zp y) (Zp y)
def qV (y:Nat):Nat:=DH (Zq y) (Zq y)
def nX (x y:Nat):Nat:=ED (Ag (nE x) (nE x)) (DH (nD x y) (nD x y))
def nY (x y:Nat):Nat:=ED (Ag (nE x) (ED (nD x y) (nX x y))) (qV y)
theorem AHl (x y z:Nat):AX Tryz.prog (AJ SG1 K0) Tryz.f61 [EG x y z] [] 500=some ([],EG (nX x y) (nY x y) (DH (Ag y z) (Ag y z))):=by kernel_rfl
theorem qW (x y:Nat):tf (nX x y)=jX (tf x) (tf y):=by
 unfold nX nE nD jX jE jD
 simp only [IF,EE,JG]
theorem AHm (x y:Nat):tf (nY x y)=jE (tf x)*(jD (tf x) (tf y)-jX (tf x) (tf y))-Zj (tf y):=by
 unfold nY
 rw [IF,EE,IF,qW]
 unfold nE nD qV Zq Zp jE jD Zj Zi jC2
 simp only [EE,JG]
theorem AHn (x y z:Nat):AW Tryz.prog 61 [EG x y z] (Ms (B4 (CM x y z))):=by
 rw [← Uk (j:=B4 (CM x y z)) (JH _ _) (JH _ _) (UG _ _) (qW x y) (AHm x y) (by rw [JG,EE];rfl)]
 exact Ac (AN qU AZ) AE Tryz.func61 (AHl x y z) trivial rfl
def Zr (g:J FP→AV):List AV→Option AV
 | [.val true a]=>match Mt a with
  | some (x,y,z)=>some (g (CM x y z))
  | none=>none
 | _=>none
theorem AHo {f:FuncId} {g:J FP→AV} (h:∀ x y z,AW Tryz.prog f [EG x y z] (g (CM x y z))):∀ args v,Zr g args=some v→AW Tryz.prog f args v:=by
 intro args v hs us w ha
 unfold Zr at hs
 split at hs
 case h_2=>cases hs
 rename_i a
 split at hs
 case h_2=>cases hs
 rename_i x y z hx
 injection hs with hs;subst hs
 obtain ⟨u1,us1,r1,ha,rfl⟩:=ha
 exact h x y z _ w ⟨u1,_,Qy hx r1,ha,rfl⟩
noncomputable def SG2:List (FuncId×ASpec):=(61,As (Zr fun j=>Ms (B4 j)))::SG1
theorem LD:AM Tryz.prog SG2:=⟨Av Tryz.func61 (by kernel_rfl) (by kernel_rfl) (AHo AHn),qU⟩
def nH (x z a:Nat):Nat:=ED (Ag a (Ag z z)) x
def nR (y z b:Nat):Nat:=ED (Ag b (Ag (Ag z z) z)) y
def Qz (x h r:Nat):Nat:=ED (ED (Ag r r) (Ag (Ag h h) h)) (DH (Ag x (Ag h h)) (Ag x (Ag h h)))
def Zs (x y h r:Nat):Nat:=ED (Ag r (ED (Ag x (Ag h h)) (Qz x h r))) (Ag y (Ag (Ag h h) h))
section
variable (x y z a b:Nat) (i:Bool)
theorem AHp:AX Tryz.prog (AJ SG2 K0) Tryz.f62 [EG x y z,Cy a b i] [true] 500=some ([(decide (z=0),true)],.val true (.num 6 a::.num 6 b::AGL)):=by kernel_rfl
theorem AHq:AX Tryz.prog (AJ SG2 K0) Tryz.f62 [EG x y z,Cy a b i] [false,true,true] 500=some ([(decide (z=0),false),(decide (nH x z a=0),true),(decide (nR y z b=0),true)],Ms (B4 (CM x y z))):=by kernel_rfl
theorem AHr:AX Tryz.prog (AJ SG2 K0) Tryz.f62 [EG x y z,Cy a b i] [false,true,false,true] 500=some ([(decide (z=0),false),(decide (nH x z a=0),true),(decide (nR y z b=0),false),(decide (nH x z a=0),true)],.val true (List.replicate 18 (.n .u64 0))):=by kernel_rfl
theorem AHs:AX Tryz.prog (AJ SG2 K0) Tryz.f62 [EG x y z,Cy a b i] [false,false,false] 500=some ([(decide (z=0),false),(decide (nH x z a=0),false),(decide (nH x z a=0),false)],EG (Qz x (nH x z a) (nR y z b)) (Zs x y (nH x z a) (nR y z b)) (Ag z (nH x z a))):=by kernel_rfl
end
theorem AHt (x y z a:Nat):tf (nH x z a)=pH (CM x y z) (tf a):=by unfold nH pH CM;simp only [IF,EE]
theorem AHu (x y z b:Nat):tf (nR y z b)=pR (CM x y z) (tf b):=by unfold nR pR CM;simp only [IF,EE]
theorem Ol {n:Nat} (h:n<pN):n=0↔tf n=0:=by
 constructor
 ·rintro rfl;exact tf_zero
 ·intro e;exact Ml h Cp (e.trans tf_zero.symm)
theorem qZ {P:Program} {f:FuncId} {args:List AV} {cs:List Ch} {x y z:Nat} (h:AW P f args (.val true cs)) (hc:Mt cs=some (x,y,z)):AW P f args (EG x y z):=ER h fun _ hu=>Qy hc hu
theorem AHv {x y z a b:Nat} {i:Bool} (hz:z<pN) (ha:a<pN) (hb:b<pN):AW Tryz.prog 62 [EG x y z,Cy a b i] (Ms (FK (CM x y z) (tf a) (tf b))):=by
 have eh:=AHt x y z a
 have er:=AHu x y z b
 have zh:=Ol (n:=nH x z a) (JH _ _)
 have zr:=Ol (n:=nR y z b) (JH _ _)
 rw [eh] at zh
 rw [er] at zr
 unfold FK
 by_cases h0:z=0
 ·rw [if_pos (show (CM x y z).z=0 from (Ol hz).1 h0),← Uk (j:=⟨tf a,tf b,1⟩) ha hb (show 1<pN by decide) rfl rfl F1]
  exact qZ (Ac (AN LD AZ) AE Tryz.func62 (AHp x y z a b i) ⟨decide_eq_true h0,trivial⟩ rfl) rfl
 ·rw [if_neg (show ¬ (CM x y z).z=0 from fun e=>h0 ((Ol hz).2 e))]
  by_cases hh:nH x z a=0
  ·rw [if_pos (zh.1 hh)]
   by_cases hr:nR y z b=0
   ·rw [if_pos (zr.1 hr)]
    exact Ac (AN LD AZ) AE Tryz.func62 (AHq x y z a b i) ⟨decide_eq_false h0,decide_eq_true hh,decide_eq_true hr,trivial⟩ rfl
   ·rw [if_neg (fun e=>hr (zr.2 e)),← Uk (j:=⟨0,0,0⟩) Cp Cp Cp tf_zero tf_zero tf_zero]
    exact qZ (Ac (AN LD AZ) AE Tryz.func62 (AHr x y z a b i) ⟨decide_eq_false h0,decide_eq_true hh,decide_eq_false hr,decide_eq_true hh,trivial⟩ rfl) (by kernel_rfl)
  ·rw [if_neg (fun e=>hh (zh.2 e)),← Uk (j:=⟨pX (CM x y z).x (pH (CM x y z) (tf a)) (pR (CM x y z) (tf b)),pY (CM x y z).x (CM x y z).y (pH (CM x y z) (tf a)) (pR (CM x y z) (tf b)),(CM x y z).z*pH (CM x y z) (tf a)⟩)
    (x:=Qz x (nH x z a) (nR y z b)) (y:=Zs x y (nH x z a) (nR y z b)) (z:=Ag z (nH x z a)) (JH _ _) (JH _ _) (OM _ _) ?_ ?_ ?_]
   ·exact Ac (AN LD AZ) AE Tryz.func62 (AHs x y z a b i) ⟨decide_eq_false h0,decide_eq_false hh,decide_eq_false hh,trivial⟩ rfl
   ·unfold Qz pX;simp only [IF,EE,JG,eh,er];rfl
   ·unfold Zs Qz pY pX;simp only [IF,EE,JG,eh,er];rfl
   ·rw [EE,eh];rfl
noncomputable def Zt:List AV→Option (List (Bool×Bool)×AV)
 | [.val true a,.val true b]=>match Mt a,Oi b with
  | some (x,y,z),some (p,q,_)=>some ([(decide (z<pN),true),(decide (p<pN),true),(decide (q<pN),true)],Ms (FK (CM x y z) (tf p) (tf q)))
  | _,_=>none
 | _=>none
theorem AHw:∀ args c v,Zt args=some (c,v)→AP c→AW Tryz.prog 62 args v:=by
 intro args c v hs hc us w ha
 unfold Zt at hs
 split at hs
 case h_2=>cases hs
 rename_i a b
 split at hs
 case h_2=>cases hs
 rename_i x y z p q i hx hy
 injection hs with hs;injection hs with h1 h2;subst h1;subst h2
 obtain ⟨u1,us1,r1,⟨u2,us2,r2,ha,rfl⟩,rfl⟩:=ha
 exact AHv (of_decide_eq_true hc.1) (of_decide_eq_true hc.2.1) (of_decide_eq_true hc.2.2.1) _ w ⟨u1,_,Qy hx r1,⟨u2,_,(JL hy r2).1,ha,rfl⟩,rfl⟩
def KG:List (TypeId×List (Option IntKind)):=(91,List.replicate 18 (some .u64))::K0
theorem IQ:I2 Tryz.prog KG:=⟨⟨by kernel_rfl,by kernel_rfl,by kernel_rfl⟩,AZ⟩
def z3 (x y z:Nat):Bool:=decide (x=0)&&(decide (y=0)&&decide (z=0))
theorem AHx (x y z:Nat):AX Tryz.prog (AJ SG2 KG) Tryz.f63 [EG x y z] [true] 500=some ([(z3 x y z,true)],.val true (GY true)):=by kernel_rfl
theorem AHy (x y z:Nat):AX Tryz.prog (AJ SG2 KG) Tryz.f63 [EG x y z] [false,true] 500=some ([(z3 x y z,false),(decide (z=0),true)],.val true (GY true)):=by kernel_rfl
theorem AHz (x y z:Nat):AX Tryz.prog (AJ SG2 KG) Tryz.f63 [EG x y z] [false,false] 500=some ([(z3 x y z,false),(decide (z=0),false)],.val true [.num 6 (Ag x (Ag (CA z) (CA z))),.num 6 (Ag y (Ag (Ag (CA z) (CA z)) (CA z))),.b false]):=by kernel_rfl
theorem AH0 {x y z:Nat} (hz:z<pN):AW Tryz.prog 63 [EG x y z] (JM (Ba (CM x y z))):=by
 by_cases h0:z=0
 ·rw [F7 (j:=CM x y z) ((Ol hz).1 h0)]
  cases h3:z3 x y z with
  | true=>exact Ok (Ac (AN LD IQ) AE Tryz.func63 (AHx x y z) ⟨h3,trivial⟩ rfl) (by kernel_rfl)
  | false=>exact Ok (Ac (AN LD IQ) AE Tryz.func63 (AHy x y z) ⟨h3,decide_eq_true h0,trivial⟩ rfl) (by kernel_rfl)
 ·have h3:z3 x y z=false:=by unfold z3;rw [decide_eq_false h0,Bool.and_false,Bool.and_false]
  rw [GX (j:=CM x y z) (fun e=>h0 ((Ol hz).2 e))]
  have ei:tf (CA z)=FD.inv (tf z):=AHh hz
  rw [← qQ (x:=Ag x (Ag (CA z) (CA z))) (y:=Ag y (Ag (Ag (CA z) (CA z)) (CA z))) (OM _ _) (OM _ _) (by rw [EE,EE,ei];rfl) (by rw [EE,EE,EE,ei];rfl)]
  exact Ok (Ac (AN LD IQ) AE Tryz.func63 (AHz x y z) ⟨h3,decide_eq_false h0,trivial⟩ rfl) rfl
noncomputable def Zu:List AV→Option (List (Bool×Bool)×AV)
 | [.val true a]=>match Mt a with
  | some (x,y,z)=>some ([(decide (z<pN),true)],JM (Ba (CM x y z)))
  | _=>none
 | _=>none
theorem AH1:∀ args c v,Zu args=some (c,v)→AP c→AW Tryz.prog 63 args v:=by
 intro args c v hs hc us w ha
 unfold Zu at hs
 split at hs
 case h_2=>cases hs
 rename_i a
 split at hs
 case h_2=>cases hs
 rename_i x y z hx
 injection hs with hs;injection hs with h1 h2;subst h1;subst h2
 obtain ⟨u1,us1,r1,ha,rfl⟩:=ha
 exact AH0 (of_decide_eq_true hc.1) _ w ⟨u1,_,Qy hx r1,ha,rfl⟩
noncomputable def SG3:List (FuncId×ASpec):=(62,FG Zt)::(63,FG Zu)::SG2
theorem Mu:AM Tryz.prog SG3:=⟨GS Tryz.func62 (by kernel_rfl) (by kernel_rfl) AHw,GS Tryz.func63 (by kernel_rfl) (by kernel_rfl) AH1,LD⟩
theorem rA {H0:Heap} {k b:Nat} {blk blk' x:Blk} (h:AB (H0++[(k,some blk')]) b=some x):AB (H0++[(k,some blk)]) b=some x∨(x=blk'∧AB (H0++[(k,some blk)]) b=some blk):=by
 induction H0 with
 | nil =>
  simp only [List.nil_append,AB] at h ⊢
  cases e:Nat.beq k b with
  | true=>rw [e] at h;injection h with h;exact .inr ⟨h.symm,rfl⟩
  | false=>rw [e] at h;cases h
 | cons y r ih =>
  obtain ⟨j,z⟩:=y
  simp only [List.cons_append,AB] at h ⊢
  cases e:Nat.beq j b with
  | true=>rw [e] at h;exact .inl h
  | false=>rw [e] at h;exact ih h
theorem rB {β:Env} {ty:TypeId} {cs cs':List Ch} {o:Bool} {k:Nat} {w:World} (h:∀ β l,AH β cs l→AH β cs' l) (hr:Da β ⟨ty,cs,o⟩ k w):Da β ⟨ty,cs',o⟩ k w:=by
 rcases hr with ⟨B,n,l,t,pre,ty',fz,q1,q2,q3⟩ | ⟨q1,q2,q3⟩ | ⟨B,l,es,q,q1,q2,q3,q4⟩
 ·exact .inl ⟨B,n,l,t,pre,ty',fz,q1,h _ _ q2,q3⟩
 ·exact .inr (.inl ⟨q1,q2,h _ _ q3⟩)
 ·exact .inr (.inr ⟨B,l,es,q,q1,q2,h _ _ q3,q4⟩)
theorem AH2 {β:Env} {H0:Heap} {k:Nat} {ty:TypeId} {cs cs':List Ch} {o:Bool} {w:World} (h:∀ β l,AH β cs l→AH β cs' l) (g:Ex.Good β (H0++[(k,some ⟨ty,cs,o⟩)]) w):Ex.Good β (H0++[(k,some ⟨ty,cs',o⟩)]) w:=by
 have hs:∀ b x,AB (H0++[(k,some ⟨ty,cs',o⟩)]) b=some x→∃ y,AB (H0++[(k,some ⟨ty,cs,o⟩)]) b=some y∧y.ty=x.ty:=fun b x hb=>by
  rcases rA (blk:=⟨ty,cs,o⟩) hb with e | ⟨rfl,e⟩
  ·exact ⟨x,e,rfl⟩
  ·exact ⟨_,e,rfl⟩
 refine ⟨fun b blk hb=>?_,fun b b' B n n' h1 h2 h3 h4=>?_,g.lt⟩
 ·rcases rA (blk:=⟨ty,cs,o⟩) hb with e | ⟨rfl,e⟩
  ·exact g.heap b blk e
  ·exact rB h (g.heap b _ e)
 ·obtain ⟨x,hx,hr⟩:=FB h1
  obtain ⟨y,hy,e⟩:=hs b x hx
  obtain ⟨x',hx'⟩:=Option.isSome_iff_exists.1 h2
  obtain ⟨y',hy',_⟩:=hs b' x' hx'
  exact g.inj b b' B n n' (EN hy (by rw [e];exact hr)) (by rw [hy'];rfl) h3 h4
theorem rC {P:Program} {f:FuncId} {β0:Env} {w0:World} {R:Ending→World→Prop} {n:Nat} {W:List Nat} {todo:List Item} {T:List AV} {H0:Heap} {k:Nat} {ty:TypeId} {cs cs':List Ch} {o:Bool} {fr:Nat} {p:List Bool} (h:∀ β l,AH β cs l→AH β cs' l)
  (hs:ASafe P f β0 w0 R n W ⟨todo,⟨T,H0++[(k,some ⟨ty,cs',o⟩)],fr,p⟩⟩):ASafe P f β0 w0 R n W ⟨todo,⟨T,H0++[(k,some ⟨ty,cs,o⟩)],fr,p⟩⟩ :=
 fun β a w hi hf=>hs β a w { hi with good:=AH2 h hi.good } hf
noncomputable def AH3:List Item:=C3 (Aa Tryz.prog (AJ SG3 KG) (some 0) 500 1 none (Ah Tryz.f18 [AK 0 0 0 0,Cy 0 0 false] (Bm []) 1 [false,false]))
noncomputable def gmT (off n m:Nat) (i:Int):List AV:=.val false [.sl 0 off n m]::.any::.any::.val false [.p 1 0]::.val false [.p 2 0]::.val false [.n .i64 0]::.val false [.p 3 0]::.val false [.v (.int .i64 i)]::List.replicate (Tryz.f18.ntmps-8) .any
noncomputable def gmH (xs:List Int) (P:Pt FP):Heap:=[(0,some (AU [.seq .u64 xs])),(1,some ⟨32,[.num 6 (D0 P),.num 6 (Bv P),.v (.bool (Bn P))],false⟩),(2,some ⟨32,GY false,false⟩)]
noncomputable def JN (off n m:Nat) (xs:List Int) (P:Pt FP) (out:List Ch) (i:Int) (path:List Bool):ASt:=⟨AH3,⟨gmT off n m i,List.append (gmH xs P) [(3,some ⟨91,out,false⟩)],4,path⟩⟩
def jC (j:J FP):List Ch:=[.num 6 j.x.val,.num 6 j.y.val,.num 6 j.z.val]
def Zv:List Ch:=[.n .u64 0,.n .u64 0,.n .u64 0,.n .u64 0,.n .u64 0,.n .u64 0,.n .u64 0,.n .u64 0,.n .u64 0,.n .u64 0,.n .u64 0,.n .u64 0,.n .u64 0,.n .u64 0,.n .u64 0,.n .u64 0,.n .u64 0,.n .u64 0]
def HS (j:J FP):J FP:=CM j.x.val j.y.val j.z.val
theorem Zw (j:J FP):HS j=j:=by
 unfold HS CM
 rw [CK,CK,CK]
noncomputable def rD (j:J FP) (P:Pt FP):J FP:=FK (HS (B4 (HS j))) (tf (D0 P)) (tf (Bv P))
def Om (x y:Nat) (i:Bool) (off n m:Nat):List AV:=[AK 0 off n m,Cy x y i]
def Ul (P:Pt FP):Pt FP:=Ai (D0 P) (Bv P) (Bn P)
theorem AH6 (x y:Nat) (i:Bool) (off n m:Nat) (xs:List Int):Aa Tryz.prog (AJ SG3 KG) (some 0) 500 1 (some ([0,3,4,5,6,7],[0,1,2,3],4)) (Ah Tryz.f18 (Om x y i off n m) (Bm xs) 1 [false,false]) =
 some ([(!CL (Ul (Ai x y i)),false),(Bn (Ai x y i),false),(AI .i64 n,true)],[],JN off n m xs (Ai x y i) Zv (wI (wI (64*(n:Int))-1)) []):=by kernel_rfl
def Q0 (Q:Pt FP) (e:Int):AV:=.tup [(true,[.num 6 (D0 Q),.num 6 (Bv Q),.v (.bool (Bn Q))]),(false,[.v (.int .i64 e)])]
def Q1 (Q:Pt FP) (e:Int):AV:=.tup [(true,[.num 6 (D0 Q),.num 6 (Bv Q),.v (.bool (Bn Q))]),(false,[.n .i64 e])]
theorem AH7 (x y:Nat) (i:Bool) (off n m:Nat) (xs:List Int):AQ Tryz.prog (AJ SG3 KG) Tryz.f18 500 1 [] (Ah Tryz.f18 (Om x y i off n m) (Bm xs) 1 [true]) =
 some ([(!CL (Ul (Ai x y i)),true)],[],.tup [(true,GY false),(false,[.n .i64 120])],[]):=by kernel_rfl
theorem AH8 (x y:Nat) (i:Bool) (off n m:Nat) (xs:List Int):AQ Tryz.prog (AJ SG3 KG) Tryz.f18 500 1 [] (Ah Tryz.f18 (Om x y i off n m) (Bm xs) 1 [false,true]) =
 some ([(!CL (Ul (Ai x y i)),false),(Bn (Ai x y i),true)],[],Q1 (Ai x y i) 0,[]):=by kernel_rfl
def Oo (off n:Nat) (xs:List Int) (i:Int) (EC:Bool) (r:List (Bool×Bool)):List (Bool×Bool):=(decide (0≤i),true)::(true,true)::(decide (0≤wI (Int.tdiv i 64)∧wI (Int.tdiv i 64)<n),true) ::
 (decide (off+(wI (Int.tdiv i 64)).toNat*1<xs.length),true)::(decide (0≤i∧(0:Int)<64),true)::(decide (0≤Int.tmod i 64∧0≤DA xs off i),true)::(decide (H_ (DA xs off i) (Int.tmod i 64)=0),EC)::r
section
variable (off n m:Nat) (xs:List Int) (P:Pt FP) (j:J FP) (i:Int)
theorem AH9:Aa Tryz.prog (AJ SG3 KG) (some 0) 500 1 (some ([0,3,4,5,6,7],[0,1,2,3],4)) (JN off n m xs P (jC j) i [true,true]) =
 some (Oo off n xs i true [],[],JN off n m xs P (jC (B4 (HS j))) (wI (i-1)) []):=by kernel_rfl
theorem AH_:Aa Tryz.prog (AJ SG3 KG) (some 0) 500 1 (some ([0,3,4,5,6,7],[0,1,2,3],4)) (JN off n m xs P (jC j) i [true,false]) =
 some (Oo off n xs i false [(decide ((B4 (HS j)).z.val<pN),true),(decide (D0 P<pN),true),(decide (Bv P<pN),true)],[],JN off n m xs P (jC (rD j P)) (wI (i-1)) []):=by kernel_rfl
theorem AH':AQ Tryz.prog (AJ SG3 KG) Tryz.f18 500 1 [] (JN off n m xs P (jC j) i [false]) =
 some ([(decide (0≤i),false),(decide (j.z.val<pN),true)],[],Q1 (Ba (HS j)) 0,[]):=by kernel_rfl
end
theorem Zx (off n m:Nat) (xs:List Int) (P:Pt FP) (j:J FP) (i:Int) (p:List Bool):Bp Tryz.f18.ntmps (JN off n m xs P (jC j) i p).s:=AR (by kernel_rfl)
theorem AIA (β:Env) (l:List Value) (h:AH β Zv l):AH β (jC ⟨0,0,0⟩) l:=by
 have h3:Mt Zv=some (0,0,0):=by kernel_rfl
 obtain ⟨l',q,e⟩:=Qy (β':=β) (u:=.agg ⟨l⟩) h3 ⟨l,h,rfl⟩
 injection e with e;injection e with e;subst e
 exact q
def Oq (P:Pt FP) (E c:Nat) (j:J FP):Prop:=Ba j=smul (E / 2^c) P
section
variable {off n m:Nat} {xs:List Int} (hall:∀ d∈xs,0≤d∧d<18446744073709551616) (hlen:off+n≤xs.length) (hn:n≤1125899906842624) {P:Pt FP} (hP:Rg.On C1.b P) (hI:Bn P=false) {β0:Env} {w0:World} (hb:∀ b,1≤b→β0 b=none)
include hall hlen hn hb hP hI
theorem AIB:∀ (c:Nat) (j:J FP),Oq P (AL (AA xs off n)) c j→c≤64*n→ASafe Tryz.prog 18 β0 w0 (A7 β0 w0 [] (Q1 (smul (AL (AA xs off n)) P) 0) []) Tryz.f18.ntmps [] (JN off n m xs P (jC j) ((c:Int)-1) []):=by
 intro c
 induction c with
 | zero =>
  intro j hj _
  have h:ASafe Tryz.prog 18 β0 w0 (A7 β0 w0 [] (Q1 (Ba (HS j)) 0) []) Tryz.f18.ntmps [] (JN off n m xs P (jC j) (((0:Nat):Int)-1) [false]) :=
   Aw (AN Mu IQ) AE Tryz.func18 (AH' ..) ⟨rfl,decide_eq_true j.z.isLt,trivial⟩ (Zx ..) hb (fun _ h=>by cases h)
  unfold Oq at hj
  rw [Zw,hj,Nat.pow_zero,Nat.div_one] at h
  exact Af [false] h
 | succ c ih =>
  intro j hj hc
  have hi:((c+1:Nat):Int)-1=(c:Int):=by omega
  rw [hi]
  have hlt:∀ d∈AA xs off n,0≤d∧d<18446744073709551616:=Du hall
  have hq:Int.tdiv (c:Int) 64=((c / 64:Nat):Int):=by rw [Int.tdiv_eq_ediv_of_nonneg (by omega)];rfl
  have hr:Int.tmod (c:Int) 64=((c % 64:Nat):Int):=by rw [Int.tmod_eq_emod_of_nonneg (by omega)];rfl
  have hw:wI (Int.tdiv (c:Int) 64)=((c / 64:Nat):Int):=by rw [hq];exact A4 (by omega)
  have hjn:c / 64<n:=by omega
  have hv:DA xs off c=(AA xs off n).getD (c / 64) 0:=by
   unfold DA
   rw [hw,Int.toNat_natCast,Nat.mul_one]
   exact (Kv hjn).symm
  have hvb:0≤DA xs off c∧DA xs off c<18446744073709551616:=by
   rw [hv,List.getD_eq_getElem?_getD]
   cases h:(AA xs off n)[c / 64]? with
   | none=>simp
   | some d=>exact hlt d (List.mem_of_getElem? h)
  have hbit:H_ (DA xs off c) (Int.tmod c 64)=((AL (AA xs off n) / 2^c % 2:Nat):Int):=by
   obtain ⟨V,hV⟩:=Int.eq_ofNat_of_zero_le hvb.1
   rw [hr,← Yn _ c hlt,← hv,hV,Int.toNat_natCast]
   exact Ym V _ (by omega) (by omega)
  have hnext:wI ((c:Int)-1)=(c:Int)-1:=A4 (by omega)
  have hconds:∀ EC r,decide (H_ (DA xs off c) (Int.tmod c 64)=0)=EC→AP r→AP (Oo off n xs c EC r):=by
   intro EC r hbt hr'
   refine ⟨by simp,rfl,?_,?_,?_,?_,hbt,hr'⟩
   ·rw [hw];simp;omega
   ·rw [hw];simp;omega
   ·simp
   ·simp only [decide_eq_true_eq];rw [hr];exact ⟨by omega,hvb.1⟩
  have hdiv:AL (AA xs off n) / 2^c=2*(AL (AA xs off n) / 2^(c+1))+AL (AA xs off n) / 2^c % 2:=by
   rw [Nat.pow_succ,← Nat.div_div_eq_div_mul];omega
  unfold Oq at hj
  have hoj:Rg.On C1.b (Ba j):=by rw [hj];exact Bf C1 hP _
  have htw:Ba (B4 (HS j))=smul (2*(AL (AA xs off n) / 2^(c+1))) P:=by
   rw [Zw,Qu C1 hoj,hj,← F4 C1 hP,Nat.two_mul]
  rcases Nat.mod_two_eq_zero_or_one (AL (AA xs off n) / 2^c) with h0 | h1
  ·refine Af [true,true] (Aj (AN Mu IQ) AE (AH9 ..) (hconds true [] (by rw [hbit,h0];rfl) trivial) (Zx ..) hb (fun _ h=>by cases h) fun _=>?_)
   rw [hnext]
   refine ih _ ?_ (by omega)
   unfold Oq
   rw [htw,hdiv,h0];rfl
  ·refine Af [true,false] (Aj (AN Mu IQ) AE (AH_ ..) (hconds false _ (by rw [hbit,h1];rfl) ⟨decide_eq_true (B4 (HS j)).z.isLt,decide_eq_true (Uj P),decide_eq_true (Zl P),trivial⟩) (Zx ..) hb (fun _ h=>by cases h) fun _=>?_)
   rw [hnext]
   refine ih _ ?_ (by omega)
   unfold Oq rD
   rw [Zw (B4 (HS j)),UZ C1 (by rw [htw];exact Bf C1 hP _),htw,hdiv,h1]
   cases P with
   | inf=>cases hI
   | pt a b =>
    show add _ (.pt (tf a.val) (tf b.val))=_
    rw [CK,CK];rfl
end
noncomputable def JO (N:Nat) (P:Pt FP):Pt FP:=if CL P=true then smul N P else .pt 0 0
noncomputable def LE (P:Pt FP):Int:=if CL P=true then 0 else 120
theorem AIC (P:Pt FP):Ul P=P:=Oj P
theorem rE {β:Env} {Q:Pt FP} {e:Int} {u:Value} (h:AG β (Q1 Q e) u):AG β (Q0 Q e) u:=DS (fun _ q=>q) (fun _ q=>ES rfl q) h
theorem AID {off n m:Nat} {xs:List Int} (hall:∀ d∈xs,0≤d∧d<18446744073709551616) (hlen:off+n≤xs.length) (hn:n≤1125899906842624) (x y:Nat) (i:Bool) :
  AY Tryz.prog 18 (Om x y i off n m) (Bm xs) 1 [] (Q0 (JO (AL (AA xs off n)) (Ai x y i)) (LE (Ai x y i))) []:=by
 have e1:=AH6 x y i off n m xs
 have e2:=AH7 x y i off n m xs
 have e3:=AH8 x y i off n m xs
 rw [AIC] at e1 e2 e3
 generalize Ai x y i=P at *
 cases ho:CL P with
 | false =>
  unfold JO LE
  rw [if_neg (by rw [ho];exact Bool.false_ne_true),if_neg (by rw [ho];exact Bool.false_ne_true)]
  refine Bq (Ax (path:=[true]) Tryz.func18 (by kernel_rfl) (by kernel_rfl) fun β0 w0 hb =>
   Aw (AN Mu IQ) AE Tryz.func18 e2 ⟨by rw [ho];rfl,trivial⟩ (AR (by kernel_rfl)) hb (fun _ h=>by cases h)) fun β u hu=>?_
  exact DS (fun _ q=>(JL (x:=0) (y:=0) (i:=false) (by kernel_rfl) q).1) (fun _ q=>ES rfl q) hu
 | true =>
  have hP:=(Qw P).1 ho
  unfold JO LE
  rw [if_pos ho,if_pos ho]
  cases hI:Bn P with
  | true =>
   have hp:P=.inf:=by cases P with | inf=>rfl | pt a b=>cases hI
   have hs:smul (AL (AA xs off n)) P=P:=by rw [hp,F6]
   rw [hs]
   exact Bq (Ax (path:=[false,true]) Tryz.func18 (by kernel_rfl) (by kernel_rfl) fun β0 w0 hb =>
    Aw (AN Mu IQ) AE Tryz.func18 e3 ⟨by rw [ho];rfl,hI,trivial⟩ (AR (by kernel_rfl)) hb (fun _ h=>by cases h)) fun β u hu=>rE hu
  | false =>
   refine Bq (Ax (path:=[false,false]) Tryz.func18 (by kernel_rfl) (by kernel_rfl) fun β0 w0 hb=>?_) fun β u hu=>rE hu
   refine Aj (AN Mu IQ) AE e1 ⟨by rw [ho];rfl,hI,?_,trivial⟩ (AR (by kernel_rfl)) hb (fun _ h=>by cases h) fun _=>?_
   ·simp only [AI,Bool.and_eq_true,decide_eq_true_eq];omega
   ·have e4:wI (wI (64*(n:Int))-1)=((64*n:Nat):Int)-1:=by
     rw [A4 (z:=64*(n:Int)) (by omega),A4 (by omega)];omega
    rw [e4]
    refine rC AIA (AIB hall hlen hn hP hI hb (64*n) ⟨0,0,0⟩ ?_ (Nat.le_refl _))
    unfold Oq
    have hl:=I_ (AA xs off n) (Du hall)
    have hl2:AL (AA xs off n)<2^(64*n):=by
     unfold AA at hl ⊢
     rwa [List.length_take,List.length_drop,Nat.min_eq_left (by omega)] at hl
    rw [F7 rfl,Nat.div_eq_of_lt hl2];rfl
def Zy (g:List Int→Pt FP→AV):ASpec:=fun args H fr path =>
 match args with
 | [S,.val true a]=>match Br S with
  | some (k,off,n)=>match Oi a,AB H k with
   | some (x,y,i),some ⟨_,cs,_⟩=>match Ak .u64 cs with
    | some xs=>some (Az [k] 1 fr 0 [] (g (AA xs off n) (Ai x y i)) [] [(Nat.ble (off+n) xs.length,true),(Nat.ble n 1125899906842624,true)] path)
    | none=>none
   | _,_=>none
  | none=>none
 | _=>none
theorem AIE {f:FuncId} {fn:Func} {g:List Int→Pt FP→AV} (hfn:Tryz.prog.funcs[f]? = some fn) (hb:fn.body.isSome=true) (hname:(fn.name=="runtime.NumGoroutine")=false) (hk:∀ l P,Ct 1 0 [] (g l P) []=true)
  (h:∀ (off n m:Nat) (xs:List Int) (x y:Nat) (i:Bool),(∀ d∈xs,0≤d∧d<18446744073709551616)→off+n≤xs.length→n≤1125899906842624→AY Tryz.prog f (Om x y i off n m) (Bm xs) 1 [] (g (AA xs off n) (Ai x y i)) []):A6 Tryz.prog f (Zy g):=by
 refine CJ hfn hb hname fun args H fr path r hs=>?_
 unfold Zy at hs
 split at hs
 case h_2=>cases hs
 rename_i S a
 split at hs
 case h_2=>cases hs
 rename_i k off n hS
 split at hs
 case h_2=>cases hs
 rename_i x y i ty cs o hx hk'
 split at hs
 case h_2=>cases hs
 rename_i xs hxs
 injection hs with hs
 refine ⟨[k],1,0,[],_,_,_,path,hs.symm,fun β us w ha hg hc=>?_⟩
 obtain ⟨u1,us1,r1,⟨u2,us2,r2,ha,rfl⟩,rfl⟩:=ha
 obtain ⟨m,r1⟩:=Dj hS r1
 obtain ⟨g1,g2,g3⟩:=OI hg hk' hxs
 exact ⟨Om x y i off n m,Bm xs,h off n m xs x y i g1 (Nat.le_of_ble_eq_true hc.1) (Nat.le_of_ble_eq_true hc.2.1),hk _ _,⟨u1,_,BW (by omega) rfl r1,⟨u2,us2,(JL hx r2).1,ha,rfl⟩,rfl⟩,g2,g3⟩
noncomputable def SG4:List (FuncId×ASpec):=(18,Fu (Zy fun l P=>Q0 (JO (AL l) P) (LE P)))::SG3
theorem AIF:AM Tryz.prog SG4:=⟨HF (AIE Tryz.func18 (by kernel_rfl) (by kernel_rfl) (fun _ _=>by kernel_rfl) fun _ _ _ _ x y i hx hl hn=>AID hx hl hn x y i),Mu⟩
noncomputable def SR0:List (FuncId×ASpec):=SG4
theorem AIG:AM Tryz.prog SR0:=AIF
section
variable (x y:Nat) (i:Bool) (x' y':Nat) (i':Bool)
end
noncomputable def SR1:List (FuncId×ASpec):=SR0
theorem AIH:AM Tryz.prog SR1:=AIG
section
variable (x y:Nat) (i:Bool) (x' y':Nat) (i':Bool)
end
noncomputable def SR2:List (FuncId×ASpec):=SR1
theorem AII:AM Tryz.prog SR2:=AIH
section
variable (x y z a b:Nat) (i:Bool)
end
noncomputable def SR3:List (FuncId×ASpec):=SR2
theorem AIJ:AM Tryz.prog SR3:=AII
noncomputable def SN:List (FuncId×ASpec):=SR3
theorem AIK:AM Tryz.prog SN:=AIJ
def AIL:List AV→Option AV
 | []=>some (.val false [.b true])
 | _=>none
noncomputable def SA12:List (FuncId×ASpec):=SN
theorem AIM:AM Tryz.prog SA12:=AIK
section
variable (x y:Nat) (b:Bool) (off n m:Nat) (xs:List Int) (P:Pt FP) (j:J FP) (i:Int)
end
section
variable {off n m:Nat} {xs:List Int} (hall:∀ d∈xs,0≤d∧d<18446744073709551616) (hlen:off+n≤xs.length) (hn:n≤1125899906842624) {x y:Nat} {b:Bool} {P:Pt FP} (hP:Rg.On C1.b P) (hI:Bn P=false) {β0:Env} {w0:World} (hb:∀ b,1≤b→β0 b=none)
include hall hlen hn hb hP hI
end
noncomputable def SR4:List (FuncId×ASpec):=SA12
theorem AIN:AM Tryz.prog SR4:=AIM
end Go.Proofs.YtojnabmgolpodaaGreat
namespace Go.Proofs.YtojnabmgolpodaaGreat
open Ex Num
set_option maxRecDepth 100000
set_option maxHeartbeats 4000000
noncomputable abbrev JP:Orc:=AJ S22 K0
def Mv (ls ms:List Int):Heap:=[(0,some ⟨24,[.seq .u64 ls],false⟩),(1,some (AU [.seq .u64 ms]))]
def Um (n m N M:Nat):List AV:=[.val false [.sl 0 0 N M],.val false [.sl 1 0 n m],.val false [.v (.int .i64 (n:Int))]]
noncomputable def AIO:List Item:=C3 (Aa Tryz.prog JP (some 0) 100 2 none (Ah Tryz.f183 (Um 0 0 0 0) (Mv [] []) 2 []))
noncomputable def tkT (n m N M:Nat):List AV:=.val false [.sl 0 0 N M]::.val false [.sl 1 0 n m]::.val false [.v (.int .i64 n)]::List.replicate (Tryz.f183.ntmps-3) .any
noncomputable def JQ (ls ms:List Int) (n m N M:Nat) (p:List Bool):ASt:=⟨AIO,⟨tkT n m N M,Mv ls ms,2,p⟩⟩
noncomputable def rF:List Item:=C3 (Aa Tryz.prog JP (some 0) 200 2 none (JQ [] [] 0 0 0 0 [true,true]))
noncomputable def Q2 (n m N M:Nat) (q b i c:Ch):List AV:=.val false [.sl 0 0 N M]::.val false [.sl 1 0 n m]::.val false [.v (.int .i64 n)]::.any::.any::.any::.val false [q]::.any::.val false [b]::.val false [i]::.val false [c]::List.replicate (Tryz.f183.ntmps-11) .any
noncomputable def Or (ls ms:List Int) (n m N M:Nat) (q b i c:Int) (p:List Bool):ASt:=⟨rF,⟨Q2 n m N M (.v (.int .u64 q)) (.v (.int .u64 b)) (.v (.int .i64 i)) (.v (.int .u64 c)),Mv ls ms,2,p⟩⟩
noncomputable def Un (ls ms:List Int) (n m N M:Nat) (q:Ch):ASt:=⟨rF,⟨Q2 n m N M q (.n .u64 0) (.n .i64 0) (.n .u64 0),Mv ls ms,2,[]⟩⟩
abbrev kA:Option (List Nat×List Nat×Nat):=some ([0,1,2],[0,1],2)
abbrev kB:Option (List Nat×List Nat×Nat):=some ([0,1,2,6,8,9,10],[0,1],2)
def Uo (x:Int):Int:=if 1 > x then 1 else x
def nI (n:Nat):Int:=wI ((n:Int)-1)
def JR (ms:List Int) (n:Nat):Int:=ms.getD (0+(nI n).toNat*1) 0
def LF (ls:List Int) (n:Nat):Int:=ls.getD (0+(n:Int).toNat*1) 0
def Zz (ls ms:List Int) (n:Nat):Int:=(((LF ls n).toNat*B_+(ls.getD (0+(nI n).toNat*1) 0).toNat) / (mW (JR ms n+1)).toNat:Nat)
section
variable (ls ms:List Int) (n m N M:Nat) (q b i c:Int)
def Q3 (d:Bool) (r:List (Bool×Bool)):List (Bool×Bool):=(Nat.ble (0+N) ls.length,true)::(Nat.ble (0+n) ms.length,true)::(AI .i64 N,true)::(AI .i64 n,true)::(decide (0≤Fy (AL (AA ls 0 N)) (AL (AA ms 0 n))),d)::r
def Up (d:Bool) (r:List (Bool×Bool)):List (Bool×Bool):=(decide (0≤nI n∧nI n<n),true)::(decide (0+(nI n).toNat*1<ms.length),true)::(decide (mW (JR ms n+1)=0),d)::(decide (0≤(n:Int)∧(n:Int)<N),true)::(decide (0+(n:Int).toNat*1<ls.length),true)::r
theorem AIQ:Aa Tryz.prog JP (some 0) 100 2 kA (Ah Tryz.f183 (Um n m N M) (Mv ls ms) 2 [])=some ([],[],JQ ls ms n m N M []):=by kernel_rfl
theorem AIR:Aa Tryz.prog JP (some 0) 200 2 kB (JQ ls ms n m N M [true,true])=some (Q3 ls ms n N true (Up ls ms n N true []),[],Un ls ms n m N M (.v (.int .u64 (Uo (LF ls n))))):=by kernel_rfl
theorem AIS:Aa Tryz.prog JP (some 0) 200 2 kB (JQ ls ms n m N M [true,false,true])=some (Q3 ls ms n N true (Up ls ms n N false [(decide (LF ls n<mW (JR ms n+1)),true),(decide (0≤(n:Int)∧(n:Int)<N),true),(decide (0+(n:Int).toNat*1<ls.length),true),
 (decide (0≤nI n∧nI n<N),true),(decide (0+(nI n).toNat*1<ls.length),true),(decide (LF ls n<mW (JR ms n+1)),true)]),[],Un ls ms n m N M (.v (.int .u64 (Uo (Zz ls ms n))))):=by kernel_rfl
theorem AIT:Aa Tryz.prog JP (some 0) 200 2 kB (JQ ls ms n m N M [true,false,false])=some (Q3 ls ms n N true (Up ls ms n N false [(decide (LF ls n<mW (JR ms n+1)),false)]),[],Un ls ms n m N M (.n .u64 1)):=by kernel_rfl
theorem AIU:AQ Tryz.prog JP Tryz.f183 200 2 [0] (JQ ls ms n m N M [false])=some (Q3 ls ms n N false [],[],.tup [],[(0,some ⟨24,[.seq .u64 ls],false⟩)]):=by kernel_rfl
def Z0:Int:=ls.getD (0+i.toNat*1) 0
def Z1:Int:=Bl (Ec q (BZ ms 0 n i)) c 0
theorem AIV:Aa Tryz.prog JP (some 0) 200 2 kB (Or ls ms n m N M q b i c [true]) =
 some ([(AI .i64 N,true),(decide (i<N),true),(Nat.ble (0+n) ms.length,true),(AI .i64 n,true),(decide (0≤i),true),(true,true),(decide (0≤i∧i<N),true),(decide (0+i.toNat*1<ls.length),true),(BJ b,true),(decide (0≤i∧i<N),true),(decide (0+i.toNat*1<ls.length),true)],[0],
  Or (ls.set (0+i.toNat*1) (Cs (Z0 ls i) (Z1 ms n q i c) b)) ms n m N M q (Ft (Z0 ls i) (Z1 ms n q i c) b) (wI (i+1)) (mW (H6 q (BZ ms 0 n i)+B3 (Ec q (BZ ms 0 n i)) c 0)) []):=by kernel_rfl
theorem AIW:Aa Tryz.prog JP (some 0) 200 2 kA (Or ls ms n m N M q b i c [false])=some ([(AI .i64 N,true),(decide (i<N),false)],[],JQ ls ms n m N M []):=by kernel_rfl
end
def EU (q M i:Nat):Nat:=q*(M % 2^(64*i)) / 2^(64*i)
theorem Uq (i:Nat):0<2^(64*i):=Nat.pow_pos (by decide)
theorem rG (i:Nat):2^(64*(i+1))=2^(64*i)*18446744073709551616:=by rw [show 64*(i+1)=64*i+64 by omega,Nat.pow_add]
theorem AIX {q:Nat} (hq:q<18446744073709551616) (M i:Nat):EU q M i<18446744073709551616:=by
 unfold EU
 refine Nat.div_lt_of_lt_mul ?_
 have h1:=Nat.mod_lt M (Uq i)
 rcases Nat.eq_zero_or_pos q with rfl | h0
 ·rw [Nat.zero_mul];exact Nat.mul_pos (Uq i) (by decide)
 ·calc q*(M % 2^(64*i))<q*2^(64*i):=Nat.mul_lt_mul_of_pos_left h1 h0
   _≤2^(64*i)*18446744073709551616:=by rw [Nat.mul_comm];exact Nat.mul_le_mul_left _ (by omega)
theorem AIY (q M Q W:Nat) (hQ:0<Q):q*(M % (Q*W)) / (Q*W)=(q*(M / Q % W)+q*(M % Q) / Q) / W∧q*M / Q % W=(q*(M / Q % W)+q*(M % Q) / Q) % W:=by
 have e1:q*(M % (Q*W))=q*(M % Q)+Q*(q*(M / Q % W)):=by rw [Nat.mod_mul,Nat.mul_add,Nat.mul_left_comm]
 have e2:q*(M % (Q*W)) / Q=q*(M / Q % W)+q*(M % Q) / Q:=by rw [e1,Nat.add_mul_div_left _ _ hQ];omega
 refine ⟨by rw [← Nat.div_div_eq_div_mul,e2],?_⟩
 have e3:q*M=q*(M % (Q*W))+Q*(W*(q*(M / (Q*W)))):=by
  have h:=Nat.div_add_mod M (Q*W)
  have h2:q*M=q*(Q*W*(M / (Q*W))+M % (Q*W)):=by rw [h]
  rw [h2,Nat.mul_add,Nat.add_comm]
  congr 1
  simp only [Nat.mul_left_comm,Nat.mul_assoc]
 rw [e3,Nat.add_mul_div_left _ _ hQ,Nat.add_mul_mod_self_left,e2]
theorem AIZ {q:Nat} (hq:q<18446744073709551616) (M i:Nat):Bl (Ec q (AF M i)) (EU q M i) 0=AF (q*M) i∧mW (H6 q (AF M i)+B3 (Ec q (AF M i)) (EU q M i) 0)=EU q M (i+1):=by
 obtain ⟨h1,h2,h3⟩:=AGE (a:=(q:Int)) (q:=AF M i) (c:=EU q M i) (by omega) (BF M i) (by have:=AIX hq M i;omega)
 obtain ⟨g1,g2⟩:=AIY q M (2^(64*i)) 18446744073709551616 (Uq i)
 have e:EU q M (i+1)=(q*(M / 2^(64*i) % 18446744073709551616)+EU q M i) / 18446744073709551616:=by unfold EU;rw [rG];exact g1
 have e':((q*(M / 2^(64*i) % 18446744073709551616)+EU q M i:Nat):Int)=q*AF M i+EU q M i:=by rw [Int.natCast_add,Int.natCast_mul];rfl
 have g2':AF (q*M) i=((q*(M / 2^(64*i) % 18446744073709551616)+EU q M i:Nat):Int) % 18446744073709551616:=by
  show ((q*M / 2^(64*i) % 2^64:Nat):Int)=_
  rw [show (2:Nat)^64=18446744073709551616 from rfl,g2];rfl
 have e'':((EU q M (i+1):Nat):Int)=((q*(M / 2^(64*i) % 18446744073709551616)+EU q M i:Nat):Int) / 18446744073709551616:=by rw [e];rfl
 rw [g2',e'',e',h1]
 constructor<;>omega
def wl (k x:Nat):List Int:=(List.range k).map (AF x)
theorem Z2 (k x:Nat):(wl k x).length=k:=by simp [wl]
theorem AIa {k x:Nat}:∀ d∈wl k x,0≤d∧d<18446744073709551616:=fun d hd=>by
 obtain ⟨i,_,rfl⟩:=List.mem_map.1 hd
 exact BF x i
theorem Z3:∀ {l:List Int},(∀ d∈l,0≤d∧d<18446744073709551616)→((AL l:Nat):Int)=BV l
 | [],_=>rfl
 | d::r,h=>by
  have hd:=h d (by simp)
  have ih:=Z3 (l:=r) fun d h'=>h d (by simp [h'])
  simp only [AL,BV]
  omega
theorem Ur {k x:Nat} (h:x<2^(64*k)):AL (wl k x)=x:=by
 have:=Z3 (AIa (k:=k) (x:=x))
 rw [show wl k x=(List.range k).map (AF x) from rfl,Tp k x h] at this
 exact Int.ofNat.inj this
theorem rH {l:List Int} {n:Nat} (h:l.length=n):AA l 0 n=l:=by subst h;simp [AA]
theorem rI {k x i:Nat} (h:i<k):(wl k x).getD i 0=AF x i:=by simp [wl,List.getD_eq_getElem?_getD,h]
theorem AIb {l:List Int} (h:∀ d∈l,0≤d∧d<18446744073709551616):l=wl l.length (AL l):=(Tq l _ h (Z3 h)).1
def Ej (L T N i:Nat):List Int:=(List.range N).map fun j=>if j<i then BP L T j else AF L j
theorem AIc {L T N i:Nat} (h:i<N):(Ej L T N i).getD i 0=AF L i:=by simp [Ej,List.getD_eq_getElem?_getD,h]
theorem AId {L T N i:Nat} (h:i<N):(Ej L T N i).set i (BP L T i)=Ej L T N (i+1):=by
 refine List.ext_getElem? fun j=>?_
 rw [List.getElem?_set]
 by_cases hj:j<N
 ·by_cases e:i=j
  ·subst e;simp [Ej,h]
  ·simp only [Ej,List.getElem?_map,List.getElem?_range hj,Option.map_some,if_neg e]
   by_cases q:j<i
   ·rw [if_pos q,if_pos (by omega)]
   ·rw [if_neg q,if_neg (by omega)]
 ·have e:i≠j:=by omega
  rw [if_neg e]
  simp [Ej,hj]
theorem AIe (L T N:Nat):Ej L T N 0=wl N L:=by simp [Ej,wl]
theorem AIf {L T N:Nat} (hT:T≤L) (hL:L<2^(64*N)):Ej L T N N=wl N (L-T):=by
 have e:Ej L T N N=(List.range N).map (BP L T):=List.map_congr_left fun j hj=>if_pos (List.mem_range.1 hj)
 have h:=AGC (k:=N) hL (Nat.lt_of_le_of_lt hT hL)
 have e2:(L+(2^(64*N)-T)) % 2^(64*N)=L-T:=by
  rw [show L+(2^(64*N)-T)=(L-T)+2^(64*N) by omega,Nat.add_mod_right,Nat.mod_eq_of_lt (by omega)]
 rw [e2] at h
 have:=(Tq ((List.range N).map (BP L T)) (L-T) (fun d hd=>by obtain ⟨i,_,rfl⟩:=List.mem_map.1 hd;exact De L T i) h).1
 rw [e,this]
 simp [wl]
theorem AIg {L M Q t q:Nat} (hM:M<(t+1)*Q) (hq:q≤L / Q / (t+1)):q*M≤L:=by
 calc q*M≤q*((t+1)*Q):=Nat.mul_le_mul_left _ (by omega)
  _=q*(t+1)*Q:=by rw [Nat.mul_assoc]
  _≤L / Q*Q:=Nat.mul_le_mul_right _ (Nat.le_trans (Nat.mul_le_mul_right _ hq) (Nat.div_mul_le_self _ _))
  _≤L:=Nat.div_mul_le_self _ _
def Q4 (N x:Nat):Heap:=[(0,some ⟨24,[.seq .u64 (wl N x)],false⟩)]
section
variable {ms:List Int} {n m M:Nat} (hm:∀ d∈ms,0≤d∧d<18446744073709551616) (hl:n≤ms.length) (hn:n≤1125899906842624) {V:Nat} (hV:AL (AA ms 0 n)=V) (h0:0<V) {β0:Env} {w0:World} (hb:∀ b,2≤b→β0 b=none)
include hm hl hn hV h0 hb
omit h0 in
theorem AIh {L q:Nat} (hq:q<18446744073709551616) {R:Ending→World→Prop} (hk:ASafe Tryz.prog 183 β0 w0 R Tryz.f183.ntmps [0] (JQ (Ej L (q*V) (n+1) (n+1)) ms n m (n+1) M [])) :
  ∀ r i,i+r=n+1→ASafe Tryz.prog 183 β0 w0 R Tryz.f183.ntmps [0] (Or (Ej L (q*V) (n+1) i) ms n m (n+1) M q (BU L (q*V) i) i (EU q V i) []):=by
 intro r
 induction r with
 | zero =>
  intro i hi
  obtain rfl:i=n+1:=by omega
  exact Af [false] (Aj (AN ID AZ) AE (AIW ..) ⟨by simp only [AI,Bool.and_eq_true,decide_eq_true_eq];omega,by simp,trivial⟩ (AR (by kernel_rfl)) hb (fun _ h=>by cases h) fun _=>hk)
 | succ r ih =>
  intro i hi
  obtain ⟨w1,w2⟩:=AIZ hq V i
  have ha:BZ ms 0 n i=AF V i:=by rw [← hV];exact QP (off:=0) (n:=n) hm i
  have ei:0+(i:Int).toNat*1=i:=by omega
  have hlen:(Ej L (q*V) (n+1) i).length=n+1:=by simp [Ej]
  refine Af [true] (Aj (AN ID AZ) AE (AIV ..) ?_ (AR (by kernel_rfl)) hb (fun k h=>by simpa using h) fun _=>?_)
  ·rw [ei,hlen]
   refine ⟨by simp only [AI,Bool.and_eq_true,decide_eq_true_eq];omega,by simp<;>omega,Nat.ble_eq_true_of_le (by omega),by simp only [AI,Bool.and_eq_true,decide_eq_true_eq];omega,by simp,rfl,by simp<;>omega,by simp<;>omega,Co (Ee L _ i),by simp<;>omega,by simp<;>omega,trivial⟩
  ·unfold Z0 Z1
   rw [ei,ha,w1,w2,AIc (by omega),A4 (z:=(i:Int)+1) (by omega)]
   show ASafe _ _ _ _ _ _ _ (Or ((Ej L (q*V) (n+1) i).set i (BP L (q*V) i)) _ _ _ _ _ _ (BU L (q*V) (i+1)) _ _ _)
   rw [AId (by omega)]
   exact ih (i+1) (by omega)
theorem AIi:∀ L,L<2^(64*(n+1))→ASafe Tryz.prog 183 β0 w0 (A7 β0 w0 [0] (.tup []) (Q4 (n+1) (L % V))) Tryz.f183.ntmps [0] (JQ (wl (n+1) L) ms n m (n+1) M []):=by
 intro L
 induction L using Nat.strongRecOn with
 | _ L ih =>
 intro hL
 have hlen:=Z2 (n+1) L
 have hwin:AL (AA (wl (n+1) L) 0 (n+1))=L:=by rw [rH hlen,Ur hL]
 have hbN:AI .i64 ((n+1:Nat):Int)=true:=by simp only [AI,Bool.and_eq_true,decide_eq_true_eq];omega
 have hbn:AI .i64 (n:Int)=true:=by simp only [AI,Bool.and_eq_true,decide_eq_true_eq];omega
 have hC:∀ d r,decide (V≤L)=d→AP r→AP (Q3 (wl (n+1) L) ms n (n+1) d r):=by
  intro d r hd hr
  refine ⟨Nat.ble_eq_true_of_le (by omega),Nat.ble_eq_true_of_le (by omega),hbN,hbn,?_,hr⟩
  rw [hwin,hV,← hd]
  unfold Fy
  by_cases h:V≤L
  ·rw [if_neg (by omega)];split<;>simp [h]
  ·rw [if_pos (by omega)];simp [h]
 by_cases hle:V≤L
 ·have n1:1≤n:=by
   rcases Nat.eq_zero_or_pos n with e | e
   ·subst e;rw [show AA ms 0 0=[] by simp [AA]] at hV;simp [AL] at hV;omega
   ·exact e
  have hnI:nI n=((n-1:Nat):Int):=by unfold nI;rw [A4 (by omega)];omega
  have htm:JR ms n=AF V (n-1):=by
   have:=QP (off:=0) (n:=n) hm (n-1)
   rw [hV] at this
   unfold JR
   rw [hnI,Int.toNat_natCast,Nat.mul_one,← Kv (n:=n) (by omega)]
   unfold BZ AA at this
   rw [Int.toNat_natCast] at this
   exact this
  have htl:LF (wl (n+1) L) n=AF L n:=by unfold LF;rw [Int.toNat_natCast,Nat.mul_one,Nat.zero_add,rI (by omega)]
  have htl2:(wl (n+1) L).getD (0+(nI n).toNat*1) 0=AF L (n-1):=by rw [hnI,Int.toNat_natCast,Nat.mul_one,Nat.zero_add,rI (by omega)]
  have bt:=BF V (n-1)
  have bl:=BF L n
  have hVlt:V<2^(64*n):=by
   have:=I_ (AA ms 0 n) (Du hm)
   rw [hV] at this
   unfold AA at this
   rwa [List.length_take,List.length_drop,Nat.min_eq_left (by omega)] at this
  obtain ⟨k,rfl⟩:∃ k,n=k+1:=⟨n-1,by omega⟩
  rw [Nat.add_sub_cancel] at *
  have tV:AF V k=((V / 2^(64*k):Nat):Int):=by
   show ((V / 2^(64*k) % 2^64:Nat):Int)=_
   rw [Nat.mod_eq_of_lt]
   refine Nat.div_lt_of_lt_mul ?_
   rw [← Nat.pow_add];rwa [show 64*k+64=64*(k+1) by omega]
  have tL:AF L (k+1)=((L / 2^(64*(k+1)):Nat):Int):=by
   show ((L / 2^(64*(k+1)) % 2^64:Nat):Int)=_
   rw [Nat.mod_eq_of_lt]
   refine Nat.div_lt_of_lt_mul ?_
   rw [← Nat.pow_add];rwa [show 64*(k+1)+64=64*(k+1+1) by omega]
  have tL2:((L / 2^(64*k):Nat):Int)=AF L (k+1)*18446744073709551616+AF L k:=by
   rw [tL]
   show _=_+((L / 2^(64*k) % 2^64:Nat):Int)
   rw [rG,← Nat.div_div_eq_div_mul]
   omega
  have hMb:V<(V / 2^(64*k)+1)*2^(64*k):=by rw [Nat.mul_comm];exact Nat.lt_mul_div_succ V (Uq k)
  have hD:∀ d r,decide (AF V k+1=18446744073709551616)=d→AP r→AP (Up (wl (k+1+1) L) ms (k+1) (k+1+1) d r):=by
   intro d r hd hr
   refine ⟨by rw [hnI];simp<;>omega,by rw [hnI];simp<;>omega,?_,by simp<;>omega,by rw [hlen];simp<;>omega,hr⟩
   rw [htm,← hd,Dt]
   by_cases h:AF V k+1=18446744073709551616
   ·simp [h]
   ·rw [decide_eq_false h,decide_eq_false (by omega)]
  have fin:∀ (q:Nat),1≤q→q<18446744073709551616→q*V≤L→ASafe Tryz.prog 183 β0 w0 (A7 β0 w0 [0] (.tup []) (Q4 (k+1+1) (L % V))) Tryz.f183.ntmps [0] (Or (wl (k+1+1) L) ms (k+1) m (k+1+1) M q 0 0 0 []):=by
   intro q q1 q2 q3
   have hpos:0<q*V:=Nat.mul_pos q1 h0
   have hh:=ih (L-q*V) (by omega) (by omega)
   have e:(L-q*V) % V=L % V:=by
    have:=Nat.sub_mul_mod (x:=L) (n:=V) (k:=q) (by rw [Nat.mul_comm];exact q3)
    rwa [Nat.mul_comm] at this
   rw [e,← AIf q3 hL] at hh
   have:=AIh hm hl hn hV hb (m:=m) (M:=M) q2 hh (k+1+1) 0 (by omega)
   rw [AIe] at this
   have c0:((EU q V 0:Nat):Int)=0:=by unfold EU;simp [Nat.mod_one]
   rw [c0] at this
   exact this
  have go:∀ (qc:Ch) (q:Nat),nv qc=.v (.int .u64 q)→1≤q→q<18446744073709551616→q*V≤L→ASafe Tryz.prog 183 β0 w0 (A7 β0 w0 [0] (.tup []) (Q4 (k+1+1) (L % V))) Tryz.f183.ntmps [0] (Un (wl (k+1+1) L) ms (k+1) m (k+1+1) M qc):=by
   intro qc q hqc q1 q2 q3
   refine Kx ?_
   have:=fin q q1 q2 q3
   have e:(Q2 (k+1) m (k+1+1) M qc (.n .u64 0) (.n .i64 0) (.n .u64 0)).map FH=Q2 (k+1) m (k+1+1) M (.v (.int .u64 q)) (.v (.int .u64 0)) (.v (.int .i64 0)) (.v (.int .u64 0)):=by
    unfold Q2
    simp only [List.map_cons,List.map_replicate,FH,List.map_nil,hqc]
    rfl
   rw [e];exact this
  have one:∀ q:Nat,q<18446744073709551616→q*V≤L→1≤max 1 q∧max 1 q<18446744073709551616∧max 1 q*V≤L∧Uo (q:Int)=((max 1 q:Nat):Int):=by
   intro q h1 h2
   refine ⟨by omega,by omega,?_,by unfold Uo;split<;>omega⟩
   rcases Nat.eq_zero_or_pos q with rfl | hq
   ·simpa using hle
   ·rw [Nat.max_eq_right hq];exact h2
  by_cases ht:AF V k+1=18446744073709551616
  ·have hq:L / 2^(64*(k+1))*V≤L:=Nat.le_trans (Nat.mul_le_mul_left _ (by omega)) (Nat.div_mul_le_self L (2^(64*(k+1))))
   obtain ⟨a1,a2,a3,a4⟩:=one (L / 2^(64*(k+1))) (by omega) hq
   refine Af [true,true] (Aj (AN ID AZ) AE (AIR ..) (hC true _ (decide_eq_true hle) (hD true _ (decide_eq_true ht) trivial)) (AR (by kernel_rfl)) hb (fun _ h=>by cases h) fun _=>?_)
   rw [htl,tL,a4]
   exact go _ _ rfl a1 a2 a3
  ·have hmw:mW (JR ms (k+1)+1)=((V / 2^(64*k)+1:Nat):Int):=by rw [htm,Dt,tV];omega
   by_cases hlt:AF L (k+1)<AF V k+1
   ·have hq:Zz (wl (k+1+1) L) ms (k+1)=((L / 2^(64*k) / (V / 2^(64*k)+1):Nat):Int):=by
     unfold Zz
     rw [hmw,htl,htl2,Int.toNat_natCast]
     have:(AF L (k+1)).toNat*B_+(AF L k).toNat=L / 2^(64*k):=by
      have:=BF L k
      unfold B_
      omega
     rw [this]
    have hb1:L / 2^(64*k) / (V / 2^(64*k)+1)<18446744073709551616:=by
     refine Nat.div_lt_of_lt_mul ?_
     have:=BF L k
     omega
    obtain ⟨a1,a2,a3,a4⟩:=one _ hb1 (AIg hMb (Nat.le_refl _))
    refine Af [true,false,true] (Aj (AN ID AZ) AE (AIS ..) (hC true _ (decide_eq_true hle) (hD false _ (decide_eq_false ht) ?_)) (AR (by kernel_rfl)) hb (fun _ h=>by cases h) fun _=>?_)
    ·have h4:LF (wl (k+1+1) L) (k+1)<mW (JR ms (k+1)+1):=by rw [htl,hmw];omega
     refine ⟨decide_eq_true h4,by simp<;>omega,by rw [hlen];simp<;>omega,by rw [hnI];simp<;>omega,by rw [hnI,hlen];simp<;>omega,decide_eq_true h4,trivial⟩
    ·rw [hq,a4]
     exact go _ _ rfl a1 a2 a3
   ·refine Af [true,false,false] (Aj (AN ID AZ) AE (AIT ..) (hC true _ (decide_eq_true hle) (hD false _ (decide_eq_false ht) ⟨decide_eq_false (by rw [htl,hmw];omega),trivial⟩)) (AR (by kernel_rfl)) hb (fun _ h=>by cases h) fun _=>?_)
    exact go _ 1 rfl (by omega) (by omega) (by omega)
 ·rw [Nat.mod_eq_of_lt (by omega)]
  exact Af [false] (Aw (AN ID AZ) AE Tryz.func183 (AIU ..) (hC false _ (decide_eq_false hle) trivial) (AR (by kernel_rfl)) hb (fun _ h=>by cases h))
end
theorem AIj {ms:List Int} {n m M:Nat} (hm:∀ d∈ms,0≤d∧d<18446744073709551616) (hl:n≤ms.length) (hn:n≤1125899906842624) (h0:0<AL (AA ms 0 n)) {ls:List Int} (hls:∀ d∈ls,0≤d∧d<18446744073709551616) (hlen:ls.length=n+1) :
  AY Tryz.prog 183 (Um n m (n+1) M) (Mv ls ms) 2 [0] (.tup []) (Q4 (n+1) (AL ls % AL (AA ms 0 n))):=by
 refine Ax (path:=[]) Tryz.func183 (by kernel_rfl) (by kernel_rfl) fun β0 w0 hb=>?_
 refine Aj (AN ID AZ) AE (AIQ ..) trivial (AR (by kernel_rfl)) hb (fun _ h=>by cases h) fun _=>?_
 have e:=AIb hls
 rw [hlen] at e
 have hlt:=I_ ls hls
 rw [hlen] at hlt
 have:=AIi hm hl hn rfl h0 (m:=m) (M:=M) (w0:=w0) hb (AL ls) hlt
 rw [← e] at this
 exact this
def takeSpec:ASpec:=fun args H fr path =>
 match args with
 | [.val false [.sl k off N _],.val false [.sl t off' n _],I]=>match A' (some I),AB H k,AB H t with
  | some (_,.i64,i),some ⟨ty,cs,false⟩,some ⟨_,ds,_⟩=>match Ak .u64 cs,Ak .u64 ds,Nat.beq k t,Nat.beq off 0&&(Nat.beq off' 0&&Nat.beq ty 24) with
   | some ls,some ms,false,true=>some (Az [k,t] 2 fr 0 [0] (.tup []) (Q4 N (AL ls % AL (AA ms 0 n))) [(Nat.beq N (n+1),true),(Nat.beq N ls.length,true),(Nat.ble n ms.length,true),(Nat.ble n 1125899906842624,true),(decide (i=n),true),(Nat.blt 0 (AL (AA ms 0 n)),true)] path)
   | _,_,_,_=>none
  | _,_,_=>none
 | _=>none
theorem AIk:A6 Tryz.prog 183 takeSpec:=by
 refine CJ Tryz.func183 (by kernel_rfl) (by kernel_rfl) fun args H fr path r h=>?_
 unfold takeSpec at h
 split at h
 case h_2=>cases h
 rename_i k off N M t off' n m I
 split at h
 case h_2=>cases h
 rename_i c0 i ty cs ty' ds o' hI hk ht
 split at h
 case h_2=>cases h
 rename_i ls ms hls hms hkt hoff
 injection h with h
 simp only [Bool.and_eq_true] at hoff
 obtain ⟨o1,o2,o3⟩:=hoff
 obtain rfl:=Ad.1 o1
 obtain rfl:=Ad.1 o2
 obtain rfl:=Ad.1 o3
 refine ⟨[k,t],2,0,[0],_,_,_,path,h.symm,fun β us w ha hg hc=>?_⟩
 obtain ⟨u1,us1,r1,⟨u2,us2,r2,⟨u3,us3,r3,ha,rfl⟩,rfl⟩,rfl⟩:=ha
 obtain ⟨c1,c2,c3,c4,c5,c6,_⟩:=hc
 obtain rfl:=Ad.1 c1
 have hil:i=(n:Int):=by simpa using c5
 subst hil
 obtain ⟨l1,g1⟩:=GQ hg hk
 obtain ⟨_,b1⟩:=Bu hls g1
 obtain ⟨l2,g2⟩:=GQ hg ht
 obtain ⟨_,b2⟩:=Bu hms g2
 obtain ⟨rfl,p1⟩:=Bt (β:=β) (u:=u3) (fun A hA=>by injection hA with hA;subst hA;exact r3) hI
 have hne:k≠t:=FW hkt
 refine ⟨Um n m (n+1) M,Mv ls ms,AIj (fun d hd=>C' (b2 d hd)) (Nat.le_of_ble_eq_true c3) (Nat.le_of_ble_eq_true c4) (A9.1 c6) (fun d hd=>C' (b1 d hd)) (Ad.1 c2).symm,by kernel_rfl,
  ⟨u1,_,BW (by omega) rfl r1,⟨u2,_,BW (by omega) rfl r2,⟨_,us3,Am ⟨rfl,rfl,p1⟩,ha,rfl⟩,rfl⟩,rfl⟩,?_,fun j hj=>?_⟩
 ·refine P' (ρ:=[k,t]) (bs:=[⟨24,[.seq .u64 ls],false⟩,AU [.seq .u64 ms]]) hg (fun j d hj=>?_) fun i j d hi hr hij hj=>?_
  ·match j,hj with
   | 0,hj =>
    injection hj with hj;subst hj
    refine ⟨_,hk,.inr ⟨rfl,rfl⟩,fun l hl=>?_⟩
    obtain ⟨q1,q2⟩:=Bu hls hl
    exact ⟨_,[],⟨q1,q2⟩,rfl,by simp⟩
   | 1,hj =>
    injection hj with hj;subst hj
    refine ⟨_,ht,.inl ⟨rfl,rfl⟩,fun l hl=>?_⟩
    obtain ⟨q1,q2⟩:=Bu hms hl
    exact ⟨_,[],⟨q1,q2⟩,rfl,by simp⟩
  ·match i,j,hi,hj,hij with
   | 0,1,_,_,_=>exact hne
   | 1,_,hi,_,_=>injection hi with hi;subst hi;exact absurd rfl hr
   | 0,0,_,_,q=>exact absurd rfl q
 ·match j,hj with
  | 0,_=>exact BH (hg.heap _ _ hk)
  | 1,_=>exact BH (hg.heap _ _ ht)
noncomputable def SIa:List (FuncId×ASpec):=(183,takeSpec)::S22
theorem AIl:AM Tryz.prog SIa:=⟨AIk,ID⟩
noncomputable abbrev oMd:Orc:=AJ SIa K0
theorem Us:OrcOk Tryz.prog oMd:=AN AIl AZ
def Ut (off n m N M:Nat):List AV:=[.val false [.sl 0 off N M],.val false [.sl 1 0 n m]]
noncomputable def AIm:List Item:=C3 (Aa Tryz.prog oMd (some 0) 100 2 none (Ah Tryz.f111 (Ut 0 0 0 0 0) (Dg [] []) 2 []))
noncomputable def mdT (off n m N M:Nat) (k:Int):List AV:=.val false [.sl 0 off N M]::.val false [.sl 1 0 n m]::.any::.any::.val false [.v (.slice none 0 0)]::.val false [.n .i64 0]::.val false [.v (.int .i64 k)]::List.replicate (Tryz.f111.ntmps-7) .any
noncomputable def Z4 (off:Nat) (xs ms:List Int) (n m N M:Nat) (k:Int) (p:List Bool):ASt:=⟨AIm,⟨mdT off n m N M k,Dg xs ms,2,p⟩⟩
noncomputable def AIo:List Item:=C3 (Aa Tryz.prog oMd (some 0) 100 2 none (Z4 0 [] [] 0 0 0 0 0 [true,false,false]))
noncomputable def AIp (off n m N M L:Nat) (k i:Int):List AV:=.val false [.sl 0 off N M]::.val false [.sl 1 0 n m]::.any::.any::.val false [.v (.slice none 0 0)]::.val false [.n .i64 0]::.val false [.v (.int .i64 k)]::.val false [.sl 2 0 L L]::.val false [.v (.int .i64 i)]::List.replicate (Tryz.f111.ntmps-9) .any
noncomputable def Q5 (off:Nat) (xs ms ls:List Int) (n m N M L:Nat) (k i:Int) (p:List Bool):ASt:=⟨AIo,⟨AIp off n m N M L k i,[(0,some (AU [.seq .u64 xs])),(1,some (AU [.seq .u64 ms])),(2,some ⟨24,[.seq .u64 ls],false⟩)],3,p⟩⟩
def Uu (L:Nat) (ls:List Int) (x:Int):List Int:=(List.take (0+Int.toNat 1*1) ls++(List.take (Nat.min L (L-Int.toNat 1)) (List.drop 0 ls)++List.drop (0+Int.toNat 1*1+Nat.min L (L-Int.toNat 1)*1) ls)).set (0+Int.toNat 0*1) x
def Z5 (L:Nat) (ls:List Int):List Int:=List.take (0+Int.toNat 1*1) ls++(List.take (Nat.min L (L-Int.toNat 1)) (List.drop 0 ls)++List.drop (0+Int.toNat 1*1+Nat.min L (L-Int.toNat 1)*1) ls)
def JS (n:Nat):Int:=wI ((n:Int)+1)
section
variable (off:Nat) (xs ms ls:List Int) (n m N M L:Nat) (k i:Int)
theorem AIq:Aa Tryz.prog oMd (some 0) 100 2 (some ([0,1,4,5,6],[0,1],2)) (Ah Tryz.f111 (Ut off n m N M) (Dg xs ms) 2 [])=some ([(AI .i64 n,true)],[],Z4 off xs ms n m N M n []):=by kernel_rfl
theorem AIr:Aa Tryz.prog oMd (some 0) 100 2 (some ([0,1,4,5,6,7,8],[0,1,2],3)) (Z4 off xs ms n m N M k [true,false,false]) =
 some ([(decide (0<k),true),(decide (0≤wI (k-1)∧wI (k-1)<n),true),(decide (0+(wI (k-1)).toNat*1<ms.length),true),(decide (ms.getD (0+(wI (k-1)).toNat*1) 0=0),false),(decide (k=0),false),(AI .i64 n,true),
  (decide (0≤JS n∧JS n≤JS n∧((8:Nat):Int)*JS n≤281474976710656∧JS n≤9223372036854775807),true),(AI .i64 N,true)],[],
  Q5 off xs ms (List.replicate (JS n).toNat 0) n m N M (JS n).toNat k (wI ((N:Int)-1)) []):=by kernel_rfl
theorem AIs:Aa Tryz.prog oMd (some 0) 100 2 (some ([0,1,4,5,6,7,8],[0,1,2],3)) (Q5 off xs ms ls n m N M L k i [true,false]) =
 some ([(decide (0≤i),true),(decide ((0:Int)≤1∧1≤(L:Int)),true),(Nat.beq L (Int.toNat 1),false),(Nat.ble (0+Nat.min L (L-Int.toNat 1)) ls.length,true),(Nat.ble (0+Int.toNat 1*1+Nat.min L (L-Int.toNat 1)*1) ls.length,true),
  (decide (0≤i∧i<N),true),(decide (off+i.toNat*1<xs.length),true),(decide ((0:Int)≤0∧0<(L:Int)),true),(decide (0+Int.toNat 0*1<(Z5 L ls).length),true),(decide (0≤k∧k≤m),true),(true,true),
  (Nat.beq L (k.toNat-0+1),true),(Nat.beq L (Uu L ls (xs.getD (off+i.toNat*1) 0)).length,true),(Nat.ble (k.toNat-0) ms.length,true),(Nat.ble (k.toNat-0) 1125899906842624,true),(decide (k=((k.toNat-0:Nat):Int)),true),(Nat.blt 0 (AL (AA ms 0 (k.toNat-0))),true)],[],
  Q5 off xs ms (wl L (AL (Uu L ls (xs.getD (off+i.toNat*1) 0)) % AL (AA ms 0 (k.toNat-0)))) n m N M L k (wI (i-1)) []):=by kernel_rfl
def Z6 (n L:Nat):AV:=.tup [(false,[.sl 2 0 ((n:Int).toNat-0) (L-0)]),(false,[.n .i64 0])]
def Z7 (L x:Nat):Heap:=[(2,some ⟨24,[.seq .u64 (wl L x)],false⟩)]
theorem AIt:AQ Tryz.prog oMd Tryz.f111 100 2 [2] (Q5 off xs ms ls n m N M L k i [false]) =
 some ([(decide (0≤i),false),(AI .i64 n,true),(decide (0≤(n:Int)∧(n:Int)≤L),true),(true,true)],[],Z6 n L,[(2,some ⟨24,[.seq .u64 ls],false⟩)]):=by kernel_rfl
end
theorem rJ {n:Nat} {ls:List Int} (h:ls.length=n+1) (x:Int):Uu (n+1) ls x=x::ls.take n:=by
 obtain ⟨a,r,rfl⟩:∃ a r,ls=a::r:=by cases ls with | nil=>simp at h | cons a r=>exact ⟨a,r,rfl⟩
 have e1:Int.toNat 1=1:=rfl
 have e0:Int.toNat 0=0:=rfl
 have e2:Nat.min (n+1) (n+1-1)=n:=Nat.min_eq_right (by omega)
 unfold Uu
 rw [e1,e0,e2]
 have e3:List.drop (0+1*1+n*1) (a::r)=[]:=List.drop_eq_nil_of_le (by simp at h ⊢;omega)
 rw [e3]
 simp
theorem Z8 (n X:Nat):(wl (n+1) X).take n=wl n X:=by
 unfold wl
 rw [← List.map_take,List.range_succ,List.take_left' (by simp)]
theorem AIu {n:Nat} {ls:List Int} (h:ls.length=n+1):0<(Z5 (n+1) ls).length:=by
 unfold Z5
 rw [List.length_append,List.length_take,h]
 have e1:Int.toNat 1=1:=rfl
 rw [e1];omega
theorem AIv (n:Nat):wl n 0=List.replicate n 0:=by
 unfold wl
 refine List.ext_getElem? fun i=>?_
 by_cases h:i<n
 ·simp [h,AF]
 ·simp [h]
theorem AIw {xs ms:List Int} {off n m N M:Nat} (hx:∀ d∈xs,0≤d∧d<18446744073709551616) (hm:∀ d∈ms,0≤d∧d<18446744073709551616) (hl:off+N≤xs.length) (hN:AI .i64 N=true) (hl':n+1≤ms.length) (hn:n+1≤1099511627776) (hnm:n+1≤m) (ht:ms.getD n 0≠0) :
  AY Tryz.prog 111 (Ut off (n+1) m N M) (Dg xs ms) 2 [] (.tup [(false,[.sl 2 0 (n+1) (n+1+1)]),(false,[.n .i64 0])]) (Z7 (n+1+1) (AL (AA xs off N) % AL (AA ms 0 (n+1)))):=by
 have bN:N≤9223372036854775807:=by simp only [AI,Bool.and_eq_true,decide_eq_true_eq] at hN;omega
 have hbn:AI .i64 ((n+1:Nat):Int)=true:=by simp only [AI,Bool.and_eq_true,decide_eq_true_eq];omega
 have hV0:0<AL (AA ms 0 (n+1)):=by
  have:=QI (AA ms 0 (n+1)) n (Du hm)
  rw [show (AA ms 0 (n+1)).getD n 0=ms.getD n 0 from by unfold AA;rw [Kv (by omega),Nat.zero_add]] at this
  have hb:=QL hm n
  rcases Nat.eq_zero_or_pos (AL (AA ms 0 (n+1))) with e | e
  ·rw [e,Nat.zero_div,Nat.zero_mod] at this
   omega
  ·exact e
 have hVlt:AL (AA ms 0 (n+1))<2^(64*(n+1)):=by
  have:=I_ (AA ms 0 (n+1)) (Du hm)
  unfold AA at this ⊢
  rwa [List.length_take,List.length_drop,Nat.min_eq_left (by omega)] at this
 refine Ax (path:=[]) Tryz.func111 (by kernel_rfl) (by kernel_rfl) fun β0 w0 hb=>?_
 refine Aj Us AE (AIq ..) ⟨hbn,trivial⟩ (AR (by kernel_rfl)) hb (fun _ h=>by cases h) fun _=>?_
 have e1:wI (((n+1:Nat):Int)-1)=(n:Int):=by rw [A4 (by omega)];omega
 have e2:JS (n+1)=((n+1+1:Nat):Int):=by unfold JS;rw [A4 (by omega)];omega
 refine Af [true,false,false] (Aj Us AE (AIr ..) ?_ (AR (by kernel_rfl)) hb (fun _ h=>by cases h) fun _=>?_)
 ·rw [e1,e2]
  refine ⟨by simp<;>omega,by simp<;>omega,by simp<;>omega,?_,by simp<;>omega,hbn,by simp only [decide_eq_true_eq];omega,hN,trivial⟩
  rw [Int.toNat_natCast,Nat.mul_one,Nat.zero_add]
  exact decide_eq_false ht
 rw [e2,Int.toNat_natCast,← AIv]
 generalize hA:AL (AA xs off N)=A
 have hNw:(AA xs off N).length=N:=by unfold AA;rw [List.length_take,List.length_drop];omega
 have hA2:A<2^(64*N):=by rw [← hA];have:=I_ (AA xs off N) (Du hx);rwa [hNw] at this
 generalize hV:AL (AA ms 0 (n+1))=V at *
 have loop:∀ c,c≤N→ASafe Tryz.prog 111 β0 w0 (A7 β0 w0 [] (.tup [(false,[.sl 2 0 (n+1) (n+1+1)]),(false,[.n .i64 0])]) (Z7 (n+1+1) (A % V))) Tryz.f111.ntmps [] (Q5 off xs ms (wl (n+1+1) (A / 2^(64*c) % V)) (n+1) m N M (n+1+1) ((n+1:Nat):Int) ((c:Int)-1) []):=by
  intro c
  induction c with
  | zero =>
   intro _
   rw [Nat.mul_zero,Nat.pow_zero,Nat.div_one]
   have h:=Aw (w0:=w0) (W:=[]) (n:=Tryz.f111.ntmps) Us AE Tryz.func111 (AIt off xs ms (wl (n+1+1) (A % V)) (n+1) m N M (n+1+1) ((n+1:Nat):Int) (((0:Nat):Int)-1)) ⟨rfl,hbn,by simp<;>omega,rfl,trivial⟩ (AR (by kernel_rfl)) hb (fun _ h=>by cases h)
   have e:Z6 (n+1) (n+1+1)=.tup [(false,[.sl 2 0 (n+1) (n+1+1)]),(false,[.n .i64 0])]:=by unfold Z6;rw [Int.toNat_natCast];rfl
   rw [e] at h
   exact Af [false] h
  | succ c ih =>
   intro hc
   have hi:((c+1:Nat):Int)-1=(c:Int):=by omega
   rw [hi]
   have hlen:=Z2 (n+1+1) (A / 2^(64*(c+1)) % V)
   have hk:((n+1:Nat):Int).toNat-0=n+1:=by omega
   have t1:Int.toNat 1=1:=rfl
   refine Af [true,false] (Aj Us AE (AIs ..) ?_ (AR (by kernel_rfl)) hb (fun k h=>by cases h) fun _=>?_)
   ·rw [hk,hV,rJ hlen,hlen,t1]
    have e5:Nat.min (n+1+1) (n+1+1-1)=n+1:=Nat.min_eq_right (by omega)
    rw [e5]
    refine ⟨by simp,by simp<;>omega,Ev (by omega),Nat.ble_eq_true_of_le (by omega),Nat.ble_eq_true_of_le (by omega),by simp<;>omega,by simp<;>omega,by simp<;>omega,decide_eq_true (AIu hlen),by simp<;>omega,rfl,Ad.2 rfl,Ad.2 ?_,Nat.ble_eq_true_of_le (by omega),Nat.ble_eq_true_of_le (by omega),by simp,A9.2 hV0,trivial⟩
    rw [List.length_cons,List.length_take,hlen];omega
   ·rw [hk,hV,rJ hlen,Z8,A4 (z:=(c:Int)-1) (by omega)]
    have hs:=Ys (Du (off:=off) (n:=N) hx) c
    rw [hA,show (AA xs off N).getD c 0=xs.getD (off+(c:Int).toNat*1) 0 from by unfold AA;rw [Kv (by omega),Int.toNat_natCast,Nat.mul_one]] at hs
    have e6:AL (xs.getD (off+(c:Int).toNat*1) 0::wl (n+1) (A / 2^(64*(c+1)) % V)) % V=A / 2^(64*c) % V:=by
     simp only [AL]
     rw [Ur (Nat.lt_trans (Nat.mod_lt _ hV0) hVlt),hs]
     conv=>lhs;rw [Nat.add_mod,Nat.mul_mod,Nat.mod_mod,← Nat.mul_mod,← Nat.add_mod]
    rw [e6]
    exact ih (by omega)
 have:=loop N (Nat.le_refl _)
 rw [Nat.div_eq_of_lt hA2,Nat.zero_mod] at this
 rw [A4 (z:=(N:Int)-1) (by omega)]
 exact this
def modSpec:ASpec:=fun args H fr path =>
 match args with
 | [S,.val false [.sl t off' n m]]=>match Br S with
  | some (k,off,N)=>match AB H k,AB H t with
   | some ⟨_,cs,_⟩,some ⟨_,ds,_⟩=>match Ak .u64 cs,Ak .u64 ds,Nat.beq off' 0 with
    | some xs,some ms,true=>some (Az [k,t] 2 fr 1 [] (.tup [(false,[.sl 2 0 n (n+1)]),(false,[.n .i64 0])]) (Z7 (n+1) (AL (AA xs off N) % AL (AA ms 0 n)))
      [(Nat.ble (off+N) xs.length,true),(AI .i64 N,true),(Nat.ble n ms.length,true),(Nat.ble n 1099511627776,true),(Nat.ble n m,true),(Nat.blt 0 n,true),(decide (ms.getD (n-1) 0=0),false)] path)
    | _,_,_=>none
   | _,_=>none
  | none=>none
 | _=>none
theorem AIx:A6 Tryz.prog 111 modSpec:=by
 refine CJ Tryz.func111 (by kernel_rfl) (by kernel_rfl) fun args H fr path r h=>?_
 unfold modSpec at h
 split at h
 case h_2=>cases h
 rename_i S t off' n m
 split at h
 case h_2=>cases h
 rename_i k off N hS
 split at h
 case h_2=>cases h
 rename_i ty cs o ty' ds o' hk ht
 split at h
 case h_2=>cases h
 rename_i xs ms hxs hms hoff
 obtain rfl:=Ad.1 hoff
 injection h with h
 refine ⟨[k,t],2,1,[],_,_,_,path,h.symm,fun β us w ha hg hc=>?_⟩
 obtain ⟨u1,us1,r1,⟨u2,us2,r2,ha,rfl⟩,rfl⟩:=ha
 obtain ⟨M,r1⟩:=Dj hS r1
 obtain ⟨c1,c2,c3,c4,c5,c6,c7,_⟩:=hc
 obtain ⟨j,rfl⟩:∃ j,n=j+1:=⟨n-1,by have:=A9.1 c6;omega⟩
 obtain ⟨g1,g1',g2,g3⟩:=Ty hg hk ht hxs hms
 exact ⟨Ut off (j+1) m N M,Dg xs ms,AIw g1 g1' (Nat.le_of_ble_eq_true c1) c2 (Nat.le_of_ble_eq_true c3) (Nat.le_of_ble_eq_true c4) (Nat.le_of_ble_eq_true c5) (of_decide_eq_false c7),by kernel_rfl,
  ⟨u1,_,BW (by omega) rfl r1,⟨u2,_,BW (by omega) rfl r2,ha,rfl⟩,rfl⟩,g2,g3⟩
noncomputable def SId:List (FuncId×ASpec):=(111,modSpec)::SR4
theorem rK:AM Tryz.prog SId:=⟨AIx,AIN⟩
theorem rL {β β':Env} {k x:Nat} (h:x<2^(64*k)) {l:List Value} (hr:AH β [.seq .u64 (wl k x)] l):AH β' [.num k x] l:=by
 obtain ⟨l1,l2,⟨h1,_⟩,h2,h3⟩:=hr
 simp only [AH] at h2
 subst h1;subst h2
 rw [List.append_nil] at h3
 have:l=words k x:=by
  rw [h3]
  unfold wl words
  rw [List.map_map];rfl
 rw [this]
 exact P4 h
def rM (l:List Int):List Int:=(wl 7 (AL l % AL (AA PL 0 6))).take 6
theorem AIy (off n m:Nat) (xs:List Int):AQ Tryz.prog (AJ SId K0) Tryz.f258 300 1 [] (Ah Tryz.f258 [AK 0 off n m] (Bm xs) 1 []) =
 some ([(Nat.ble (off+n) xs.length,true),(AI .i64 n,true),(true,true),(true,true),(true,true),(true,true),(false,false),(true,true)],[],.val true [.seq .u64 (rM (AA xs off n))],[]):=by kernel_rfl
theorem AIz:AL (AA PL 0 6)=pN:=by kernel_rfl
theorem AI0 {off n m:Nat} {xs:List Int} (hl:off+n≤xs.length) (hn:n≤1125899906842624):AY Tryz.prog 258 [AK 0 off n m] (Bm xs) 1 [] (Ao (AL (AA xs off n) % pN)) []:=by
 refine Bq (BA rK AZ Tryz.func258 (by kernel_rfl) (by kernel_rfl) (AIy off n m xs) (by kernel_rfl) ⟨Nat.ble_eq_true_of_le hl,ZW hn,rfl,rfl,rfl,rfl,rfl,rfl,trivial⟩) fun β u hu=>?_
 obtain ⟨l,q,rfl⟩:=hu
 refine ⟨l,rL (β:=β) (k:=6) ?_ ?_,rfl⟩
 ·rw [← Dd];exact Nat.lt_trans (Nat.mod_lt _ Cp) (by decide)
 ·unfold rM at q
  rw [Z8,AIz] at q
  exact q
noncomputable def SIe:List (FuncId×ASpec):=(258,Fu (UP fun _ l=>Ao (AL l % pN)))::SId
theorem rO:AM Tryz.prog SIe:=⟨HF (pQ Tryz.func258 (by kernel_rfl) (by kernel_rfl) (fun _ _=>rfl) fun _ _ _ _ _ hl hn=>AI0 hl hn),rK⟩
end Go.Proofs.YtojnabmgolpodaaGreat
namespace Go.Proofs.YtojnabmgolpodaaGreat.Rg
set_option maxRecDepth 100000
set_option maxHeartbeats 4000000
section
variable {F:Type} [CR F]
end
end Go.Proofs.YtojnabmgolpodaaGreat.Rg
namespace Go.Proofs.YtojnabmgolpodaaGreat
open Ex Num Rg
set_option maxRecDepth 100000
set_option maxHeartbeats 4000000
class Sh (α:Type) where
 R:Type
 n:Nat
 av:R→List Ch
 rd:List Ch→Option R
 mo:R→α
 en:α→R
 mo_en:∀ x,mo (en x)=x
 rd_ok:∀ {β β':Env} {cs:List Ch} {l:List Value} {r:R},rd cs=some r→AH β cs l→AH β' (av r) l
open Sh (R av rd mo en mo_en)
def CD {α:Type}:List α→List α→List α
 | [],l=>l
 | x::r,l=>x::CD r l
theorem rP {α:Type}:∀ a b:List α,CD a b=a++b
 | [],_=>rfl
 | x::r,b=>by simp [CD,rP r b]
def Mw {A B:Type} (n:Nat) (f:List Ch→Option A) (g:List Ch→Option B) (cs:List Ch):Option (A×B):=match D8 cs n with
 | some (a,r)=>match f a,g r with
  | some x,some y=>some (x,y)
  | _,_=>none
 | none=>none
theorem Q6 {A B:Type} {n:Nat} {f:List Ch→Option A} {g:List Ch→Option B} {p:A→List Ch} {q:B→List Ch} {β β':Env} (hf:∀ {cs l r},f cs=some r→AH β cs l→AH β' (p r) l) (hg:∀ {cs l r},g cs=some r→AH β cs l→AH β' (q r) l)
  {cs:List Ch} {l:List Value} {r:A×B} (h:Mw n f g cs=some r) (hl:AH β cs l):AH β' (CD (p r.1) (q r.2)) l:=by
 unfold Mw at h
 split at h
 case h_2=>cases h
 rename_i a t h1
 split at h
 case h_2=>cases h
 rename_i x y h2 h3
 injection h with h;subst h
 obtain ⟨q1,q2,_⟩:=FV h1 hl
 rw [rP,← List.take_append_drop n l]
 exact J7 (hf h2 q1) (hg h3 q2)
instance shFP:Sh FP where
 R:=Nat
 n:=6
 av x:=[.num 6 x]
 rd:=B8 6
 mo:=tf
 en:=Fin.val
 mo_en:=CK
 rd_ok:=Ef
def Z9 (cs:List Ch):Option Bool:=match cs with
 | [.b x]=>some x
 | [.v (.bool x)]=>some x
 | _=>none
instance shB:Sh Bool where
 R:=Bool
 n:=1
 av x:=[.v (.bool x)]
 rd:=Z9
 mo x:=x
 en x:=x
 mo_en _:=rfl
 rd_ok {β β' cs l r} h hl:=by
  unfold Z9 at h
  split at h
  ·injection h with h;subst h
   obtain ⟨l1,l2,h1,h2,h3⟩:=hl
   exact ⟨l1,l2,⟨h1,rfl,trivial⟩,h2,h3⟩
  ·injection h with h;subst h
   obtain ⟨l1,l2,h1,h2,h3⟩:=hl
   exact ⟨l1,l2,h1,h2,h3⟩
  ·cases h
section
variable {F:Type} [Sh F]
instance shQ [CR F] {β:F}:Sh (Qx β) where
 R:=R F×R F
 n:=Sh.n F+Sh.n F
 av r:=CD (av r.1) (av r.2)
 rd:=Mw (Sh.n F) rd rd
 mo r:=⟨mo r.1,mo r.2⟩
 en x:=(en x.a,en x.b)
 mo_en _:=Qx.ext (mo_en _) (mo_en _)
 rd_ok:=Q6 Sh.rd_ok Sh.rd_ok
instance shJ:Sh (J F) where
 R:=R F×R F×R F
 n:=Sh.n F+(Sh.n F+Sh.n F)
 av r:=CD (av r.1) (CD (av r.2.1) (av r.2.2))
 rd:=Mw (Sh.n F) rd (Mw (Sh.n F) rd rd)
 mo r:=⟨mo r.1,mo r.2.1,mo r.2.2⟩
 en x:=(en x.x,en x.y,en x.z)
 mo_en x:=by cases x;simp only [mo_en]
 rd_ok:=Q6 (q:=fun r:R F×R F=>CD (av r.1) (av r.2)) Sh.rd_ok (Q6 Sh.rd_ok Sh.rd_ok)
def rR (x y:F) (i:Bool):Pt F:=match i with
 | true=>.inf
 | false=>.pt x y
def D1 [Zero F]:Pt F→F
 | .inf=>0
 | .pt x _=>x
def B5 [Zero F]:Pt F→F
 | .inf=>0
 | .pt _ y=>y
def CN:Pt F→Bool
 | .inf=>true
 | .pt _ _=>false
instance shP [Zero F]:Sh (Pt F) where
 R:=R F×R F×Bool
 n:=Sh.n F+(Sh.n F+1)
 av r:=CD (av r.1) (CD (av r.2.1) (av (α:=Bool) r.2.2))
 rd:=Mw (Sh.n F) rd (Mw (Sh.n F) rd Z9)
 mo r:=rR (mo r.1) (mo r.2.1) r.2.2
 en p:=(en (D1 p),en (B5 p),CN p)
 mo_en p:=by cases p<;>simp only [D1,B5,CN,rR,mo_en]
 rd_ok:=Q6 (q:=fun r:R F×Bool=>CD (av r.1) (av (α:=Bool) r.2)) Sh.rd_ok (Q6 Sh.rd_ok shB.rd_ok)
end
def va (α:Type) [Sh α] (r:R α):AV:=.val true (av r)
def ve {α:Type} [Sh α] (x:α):AV:=va α (en x)
section
variable (α β γ:Type) [Sh α] [Sh β] [Sh γ]
def ad [Add α] (r s:R α):R α:=en (mo r+mo s:α)
def su [Sub α] (r s:R α):R α:=en (mo r-mo s:α)
def mu [Mul α] (r s:R α):R α:=en (mo r*mo s:α)
def ng [Neg α] (r:R α):R α:=en (- mo r:α)
def iv [FD α] (r:R α):R α:=en (FD.inv (mo r:α))
def re (r:R α):R α:=en (mo r:α)
def Dl (g:R α→AV):List AV→Option AV
 | [.val true a]=>match rd a with
  | some r=>some (g r)
  | none=>none
 | _=>none
def GZ (g:R α→R β→AV):List AV→Option AV
 | [.val true a,.val true b]=>match rd a,rd b with
  | some r,some s=>some (g r s)
  | _,_=>none
 | _=>none
end
section
variable {α β γ:Type} [Sh α] [Sh β] [Sh γ] {P:Program} {f:FuncId}
theorem Gu {b b':Env} {a:List Ch} {r:R α} {u:Value} (h:rd a=some r) (hr:AG b (.val true a) u):AG b' (va α r) u:=by
 obtain ⟨l,hl,rfl⟩:=hr
 exact ⟨l,Sh.rd_ok h hl,rfl⟩
theorem FL {args:List AV} {cs:List Ch} {r:R α} (h:AW P f args (.val true cs)) (hc:rd cs=some r):AW P f args (va α r):=ER h fun _ hu=>Gu hc hu
theorem EH {g:R α→AV} (h:∀ r,AW P f [va α r] (g r)):∀ args v,Dl α g args=some v→AW P f args v:=by
 intro args v hs us w ha
 unfold Dl at hs
 split at hs
 case h_2=>cases hs
 split at hs
 case h_2=>cases hs
 rename_i r h1
 injection hs with hs;subst hs
 obtain ⟨u1,us1,r1,ha,rfl⟩:=ha
 exact h r _ w ⟨u1,_,Gu h1 r1,ha,rfl⟩
theorem IR {g:R α→R β→AV} (h:∀ r s,AW P f [va α r,va β s] (g r s)):∀ args v,GZ α β g args=some v→AW P f args v:=by
 intro args v hs us w ha
 unfold GZ at hs
 split at hs
 case h_2=>cases hs
 split at hs
 case h_2=>cases hs
 rename_i r s h1 h2
 injection hs with hs;subst hs
 obtain ⟨u1,us1,r1,⟨u2,us2,r2,ha,rfl⟩,rfl⟩:=ha
 exact h r s _ w ⟨u1,_,Gu h1 r1,⟨u2,_,Gu h2 r2,ha,rfl⟩,rfl⟩
end
end Go.Proofs.YtojnabmgolpodaaGreat
namespace Go.Proofs.YtojnabmgolpodaaGreat
open Ex Num Rg
open Sh (R av rd mo en mo_en)
set_option maxRecDepth 100000
set_option maxHeartbeats 4000000
theorem adN (x y:Nat):DH x y=ad FP x y:=LC (UG x y) (JG x y)
theorem suN (x y:Nat):ED x y=su FP x y:=LC (JH x y) (IF x y)
theorem muN (x y:Nat):Ag x y=mu FP x y:=LC (OM x y) (EE x y)
theorem ngN (x:Nat):Df x=ng FP x:=LC (mO x) (ZO x)
theorem AI5 (x:Nat):tf (CA x)=JK (tf x):=by
 have e:CA x=CA (x % pN):=by
  unfold CA
  rw [Ku,Ku]
  exact Nat.pow_mod x (pN-2) pN
 rw [e]
 unfold JK
 exact congrArg (fun y=>tf (CA y)) (show x % pN=(tf x).val from rfl)
theorem AI6 (x:R FP):iv FP x=(JK (tf x)).val:=rfl
theorem ivN (x:Nat):CA x=iv FP x:=(LC (oS x) (AI5 x)).trans (AI6 x).symm
theorem AI8 (x:Nat):Tk [Ao x]=some (Ao (x % pN)):=by kernel_rfl
theorem AI9 (r:R FP):AW Tryz.prog 112 [va FP r] (va FP (re FP r)):=lL _ _ (AI8 r)
noncomputable def SH1:List (FuncId×ASpec):=(112,As (Dl FP fun r=>va FP (re FP r)))::(75,As (GZ FP FP fun r s=>va FP (ad FP r s)))::(114,As (GZ FP FP fun r s=>va FP (su FP r s)))::(77,As (Dl FP fun r=>va FP (ng FP r)))::(76,As (GZ FP FP fun r s=>va FP (mu FP r s)))::(115,As (Dl FP fun r=>va FP (iv FP r)))::SIe
theorem Z_:AM Tryz.prog SH1:=⟨Av Tryz.func112 (by kernel_rfl) (by kernel_rfl) (EH AI9),Av Tryz.func75 (by kernel_rfl) (by kernel_rfl) (IR fun r s=>by rw [← adN];exact lO r s),Av Tryz.func114 (by kernel_rfl) (by kernel_rfl) (IR fun r s=>by rw [← suN];exact lS r s),Av Tryz.func77 (by kernel_rfl) (by kernel_rfl) (EH fun r=>by rw [← ngN];exact lP r),Av Tryz.func76 (by kernel_rfl) (by kernel_rfl) (IR fun r s=>by rw [← muN];exact mE r s),Av Tryz.func115 (by kernel_rfl) (by kernel_rfl) (EH fun r=>by rw [← ivN];exact oX r),rO⟩
theorem Z' {k m:Nat} (hk:(pN-1) / k*k=pN-1) (hlt:Nat.blt ((pN-1) / k) RR=true) (h0:0<m) (hc:Nat.beq (Kz pN m 384 ((pN-1) / k)) 1=false) (hk0:0<k) (x:Nat):x^k % pN≠m:=by
 intro h
 have hnd:¬ pN∣x:=fun hd=>by
  have:x^k % pN=0:=by
   obtain ⟨c,hcc⟩:=hd
   obtain ⟨j,rfl⟩:∃ j,k=j+1:=⟨k-1,by omega⟩
   rw [hcc,Nat.pow_succ,Nat.mul_comm,Nat.mul_assoc,Nat.mul_mod_right]
  omega
 have hf:=OL pN_prime hnd
 rw [← hk,Nat.mul_comm,Nat.pow_mul,Nat.pow_mod,h,← Y5 pN 384 m ((pN-1) / k) (by rw [mY];exact A9.1 hlt)] at hf
 rw [hf] at hc
 cases hc
theorem AI_ {a b:Nat} (h:Nat.beq (a % pN) (b % pN)=true):tf a=tf b:=Mk.2 (Ad.1 h)
theorem rS {m:Nat} (h:∀ x:Nat,x^2 % pN≠m) (hm:m<pN) (x:FP):x*x≠tf m:=fun e=>by
 refine h x.val ?_
 have:tf (x.val^2)=tf m:=by rw [Nat.pow_two,K8,CK];exact e
 rw [Mk,Nat.mod_eq_of_lt hm] at this
 exact this
theorem AI' {m:Nat} (h:∀ x:Nat,x^3 % pN≠m) (hm:m<pN) (x:FP):x*x*x≠tf m:=fun e=>by
 refine h x.val ?_
 have:tf (x.val^3)=tf m:=by rw [Nat.pow_succ,Nat.pow_two,K8,K8,CK];exact e
 rw [Mk,Nat.mod_eq_of_lt hm] at this
 exact this
theorem k2:(pN-1) / 2*2=pN-1:=by kernel_rfl
theorem rT:Nat.blt ((pN-1) / 2) RR=true:=by kernel_rfl
theorem AJA:Nat.blt (pN-1) pN=true:=by kernel_rfl
theorem AJB:Nat.blt 0 (pN-1)=true:=by kernel_rfl
theorem AJC:tf (pN-1)=-1:=by
 have h:tf (pN-1)+1=0:=by rw [← F1,← IE,UH];kernel_rfl
 exact IJ (by rw [Rg.add_comm];exact h)
theorem rU (x:FP):x*x≠-1:=by
 rw [← AJC]
 exact rS (Z' k2 rT (A9.1 AJB) (by kernel_rfl) (by decide)) (A9.1 AJA) x
theorem AJD (x:FP):x*x*x≠tf 32:=AI' (Z' p3 qP (by decide) (by kernel_rfl) (by decide)) (by decide) x
abbrev FP2:Type:=Qx (-1:FP)
noncomputable instance fdFP2:FD FP2:=fdQ rU
noncomputable def xi:FP2:=⟨1,1⟩
noncomputable def Gw:FP2:=⟨CU,CU⟩
theorem AJE:CU*CU - -1*(CU*CU)=tf 32:=by
 have e:CU*CU=tf 16:=(K8 4 4).symm
 have e2:tf 16+tf 16=tf 32:=(IE 16 16).symm
 rw [e,← e2]
 exact ring [tf 16] (by kernel_rfl)
noncomputable def C2:Cv FP2 where
 b:=Gw
 two:=fun h=>C1.two (by
  have:=congrArg Qx.a h
  exact this)
 no2:=fun x y h hy=>by
  subst hy
  have h1:x*x*x=-Gw:=IJ (by rw [Rg.add_comm,← h];exact mul_zero 0)
  refine AJD x.nrm ?_
  rw [← Qx.nrm_mul,← Qx.nrm_mul,h1,← AJE]
  show -CU*-CU - -1*(-CU*-CU)=_
  exact ring [CU] (by kernel_rfl)
noncomputable def Be (x:FP):Bool:=B9 x.val
noncomputable def Bb (x:FP):FP:=tf (DC x.val)
def JT (x:FP):Bool:=Nat.beq (x.val % 2) 1
theorem JU {x:FP} (h:Be x=true):Bb x*Bb x=x:=by
 obtain ⟨h1,_,_⟩:=ZC h
 unfold Bb
 rw [← EE,h1,K7,CK]
theorem JV {x y:FP} (h:y*y=x):Be x=true:=by
 unfold Be
 by_cases h0:x.val % pN=0
 ·exact AEd h0
 ·refine (nN h0).2 ?_
  have hx:x.val=y.val*y.val % pN:=by rw [← h];rfl
  unfold JB
  rw [hx,← Nat.pow_mod,← Nat.pow_two,← Nat.pow_mul,Nat.mul_comm 2,k2]
  refine OL pN_prime fun hd=>h0 ?_
  obtain ⟨c,hc⟩:=hd
  rw [hx,hc,Nat.mod_mod,Nat.mul_assoc,Nat.mul_mod_right]
theorem rV {x:FP}:Be x=true↔∃ y,y*y=x:=⟨fun h=>⟨_,JU h⟩,fun ⟨_,h⟩=>JV h⟩
theorem Uv {x y:FP} (h:x*x=y*y):x=y∨x=-y:=by
 have e:(x-y)*(x+y)=0:=by
  have:(x-y)*(x+y)=x*x-y*y:=ring [x,y] (by kernel_rfl)
  rw [this,h,sub_self]
 rcases Ua e with e | e
 ·exact .inl (AO.1 e)
 ·exact .inr (IJ (by rw [Rg.add_comm];exact e))
theorem AJF {x:FP} (h:x≠0):(-x).val=pN-x.val:=by
 have hx:x.val≠0:=fun e=>h (Zo.1 e)
 have h1:tf (pN-x.val)=-x:=by
  have:=ZO x.val
  rw [CK] at this
  unfold Df at this
  rw [Nat.mod_eq_of_lt x.isLt,K7] at this
  exact this
 rw [← h1,IP (by have:=x.isLt;omega)]
theorem rZ {x:FP} (h:x≠0):JT (-x)=!JT x:=by
 have hx:x.val≠0:=fun e=>h (Zo.1 e)
 unfold JT
 rw [AJF h]
 have:=x.isLt
 have ho:=QQ
 have:(pN-x.val) % 2=(1+x.val % 2) % 2:=by omega
 rw [this]
 rcases Nat.mod_two_eq_zero_or_one x.val with e | e<;>rw [e]<;>rfl
noncomputable def Bs (a:FP2):Bool:=if a.a=0 then JT a.b else JT a.a
theorem Q7 {x:FP}:-x=0↔x=0:=⟨fun h=>by rw [← neg_neg x,h,K_],fun h=>by rw [h,K_]⟩
theorem Uw {a:FP2} (h:a≠0):Bs (-a)=!Bs a:=by
 unfold Bs
 show (if -a.a=0 then JT (-a.b) else JT (-a.a))=_
 by_cases h1:a.a=0
 ·rw [if_pos (Q7.2 h1),if_pos h1]
  exact rZ fun e=>h (Qx.ext h1 e)
 ·rw [if_neg fun e=>h1 (Q7.1 e),if_neg h1]
  exact rZ h1
theorem aA {x y:FP2} (h:x*x=y*y):x=y∨x=-y:=by
 have e:(x-y)*(x+y)=0:=by
  have:(x-y)*(x+y)=x*x-y*y:=ring [x,y] (by kernel_rfl)
  rw [this,h,sub_self]
 rcases Ua e with e | e
 ·exact .inl (AO.1 e)
 ·exact .inr (IJ (by rw [Rg.add_comm];exact e))
noncomputable def Bw (a:FP2):Bool:=@decide (∃ s:FP2,s*s=a) (Classical.propDecidable _)
theorem F8 {a:FP2}:Bw a=true↔∃ s:FP2,s*s=a:=@decide_eq_true_iff _ (Classical.propDecidable _)
theorem Ux (a:FP2):∃ x:FP2,(Bw a=true→x*x=a∧Bs x=false)∧(Bw a=false→x=0):=by
 cases h:Bw a with
 | false=>exact ⟨0,(fun e=>by cases e),fun _=>rfl⟩
 | true =>
  obtain ⟨s,hs⟩:=F8.1 h
  cases hg:Bs s with
  | false=>exact ⟨s,fun _=>⟨hs,hg⟩,(fun e=>by cases e)⟩
  | true =>
   refine ⟨-s,fun _=>⟨?_,?_⟩,(fun e=>by cases e)⟩
   ·rw [← hs];exact ring [s] (by kernel_rfl)
   ·rw [Uw,hg];rfl
    intro e
    rw [e] at hg
    have:Bs 0=false:=if_pos rfl
    rw [this] at hg;cases hg
noncomputable def DT (a:FP2):FP2:=Classical.choose (Ux a)
theorem aB {a:FP2} (h:Bw a=true):DT a*DT a=a:=((Classical.choose_spec (Ux a)).1 h).1
theorem AJG {a:FP2} (h:Bw a=true):Bs (DT a)=false:=((Classical.choose_spec (Ux a)).1 h).2
theorem AJH {a:FP2} (h:Bw a=false):DT a=0:=(Classical.choose_spec (Ux a)).2 h
theorem AJI {a s:FP2} (h:s*s=a) (hg:Bs s=false):DT a=s:=by
 have hi:=F8.2 ⟨s,h⟩
 rcases aA ((aB hi).trans h.symm) with e | e
 ·exact e
 ·by_cases h0:s=0
  ·rw [e,h0,K_]
  ·have:=AJG hi
   rw [e,Uw h0,hg] at this
   cases this
def uu:FP2:=⟨0,1⟩
theorem AJJ:Bs 0=false:=if_pos rfl
theorem AJK {a s:FP2} (h:s*s=a) (hg:Bs s=false):s=DT a∧Bw a=true:=⟨(AJI h hg).symm,F8.2 ⟨s,h⟩⟩
noncomputable def LG (x:FP2):FP2:=if Bs x=true then -x else x
theorem AJL (x:FP2):Bs (LG x)=false:=by
 unfold LG
 by_cases h:Bs x=true
 ·rw [if_pos h,Uw (fun e=>by rw [e,AJJ] at h;cases h),h];rfl
 ·rw [if_neg h];cases hq:Bs x with | false=>rfl | true=>exact absurd hq h
theorem r7 (x:FP2):LG x*LG x=x*x:=by
 unfold LG
 split
 ·exact ring [x] (by kernel_rfl)
 ·rfl
noncomputable def Bo (h:FP) (a:FP2) (n:FP):FP:=Bb ((a.a+n)*h)
noncomputable def IS (h:FP) (a:FP2) (n:FP):FP:=if Bo h a n=0 then Bb (-a.a) else a.b*h*FD.inv (Bo h a n)
noncomputable def F9 (h:FP) (a:FP2) (n:FP):FP2:=LG ⟨Bo h a n,IS h a n⟩
noncomputable def D2 (h:FP) (a:FP2) (n:FP):Bool:=(if Bo h a n=0 then Be (-a.a) else Be ((a.a+n)*h))&&decide (F9 h a n*F9 h a n=a)
theorem AJM {h:FP} {a:FP2} {n:FP} (ht:D2 h a n=true):F9 h a n=DT a∧Bw a=true:=by
 unfold D2 at ht
 exact AJK (of_decide_eq_true (Bool.and_eq_true_iff.1 ht).2) (AJL _)
theorem AJN {x:FP} (h:x*x=0):x=0:=(Ua h).elim id id
theorem r9 {h:FP} (hh:h+h=1) {a s:FP2} (hs:s*s=a) {n:FP} (hn:n=s.a*s.a+s.b*s.b):D2 h a n=true:=by
 have ea:a.a=s.a*s.a-s.b*s.b:=by rw [← hs];exact ring [s.a,s.b] (a:=s.a*s.a+-1*(s.b*s.b)) (by kernel_rfl)
 have eb:a.b=s.a*s.b+s.b*s.a:=by rw [← hs];rfl
 have h1:(a.a+n)*h=s.a*s.a:=by
  rw [ea,hn]
  exact (ring [s.a,s.b,h] (a:=(s.a*s.a-s.b*s.b+(s.a*s.a+s.b*s.b))*h) (b:=s.a*s.a*(h+h)) (by kernel_rfl)).trans (by rw [hh,Rg.mul_one])
 have hi:Be ((a.a+n)*h)=true:=JV h1.symm
 have hx:=JU hi
 rw [h1] at hx
 have hX:Bo h a n*Bo h a n=s.a*s.a:=by unfold Bo;rw [h1];exact hx
 have fin:∀ y,(Bo h a n=s.a∧y=s.b)∨(Bo h a n=-s.a∧y=-s.b)∨(Bo h a n=s.a∧s.a=0∧y=-s.b)→(⟨Bo h a n,y⟩:FP2)*⟨Bo h a n,y⟩=a:=by
  intro y hy
  rcases hy with ⟨e1,e2⟩ | ⟨e1,e2⟩ | ⟨e1,e0,e2⟩
  ·rw [e1,e2];exact hs
  ·rw [e1,e2]
   have e:(⟨-s.a,-s.b⟩:FP2)=-s:=rfl
   rw [e,← hs];exact ring [s] (by kernel_rfl)
  ·rw [e1,e2]
   have e:(⟨s.a,-s.b⟩:FP2)=-s:=Qx.ext (by show s.a=-s.a;rw [e0,K_]) rfl
   rw [e,← hs];exact ring [s] (by kernel_rfl)
 unfold D2
 by_cases h0:Bo h a n=0
 ·have s0:s.a=0:=by
   rw [h0,mul_zero] at hX
   exact AJN hX.symm
  have e2:s.b*s.b=-a.a:=by rw [ea,s0];exact ring [s.b] (by kernel_rfl)
  rw [if_pos h0,JV e2]
  refine Bool.and_eq_true_iff.2 ⟨rfl,decide_eq_true ?_⟩
  unfold F9
  rw [r7]
  refine fin _ ?_
  unfold IS
  rw [if_pos h0]
  rcases Uv ((JU (JV e2)).trans e2.symm) with e | e
  ·exact .inl ⟨by rw [h0,s0],e⟩
  ·exact .inr (.inr ⟨by rw [h0,s0],s0,e⟩)
 ·rw [if_neg h0,hi]
  refine Bool.and_eq_true_iff.2 ⟨rfl,decide_eq_true ?_⟩
  unfold F9
  rw [r7]
  refine fin _ ?_
  have hy:IS h a n=s.a*s.b*FD.inv (Bo h a n):=by
   unfold IS
   rw [if_neg h0,eb]
   congr 1
   exact (ring [s.a,s.b,h] (a:=(s.a*s.b+s.b*s.a)*h) (b:=s.a*s.b*(h+h)) (by kernel_rfl)).trans (by rw [hh,Rg.mul_one])
  have hv:=FD.mul_inv (Bo h a n) h0
  rcases Uv hX with e | e
  ·refine .inl ⟨e,?_⟩
   rw [hy]
   calc s.a*s.b*FD.inv (Bo h a n)=s.b*(s.a*FD.inv (Bo h a n)):=ring [s.a,s.b,FD.inv (Bo h a n)] (by kernel_rfl)
    _=s.b:=by rw [← e,hv,Rg.mul_one]
  ·refine .inr (.inl ⟨e,?_⟩)
   rw [hy]
   calc s.a*s.b*FD.inv (Bo h a n)=-s.b*(-s.a*FD.inv (Bo h a n)):=ring [s.a,s.b,FD.inv (Bo h a n)] (by kernel_rfl)
    _=-s.b:=by rw [← e,hv,Rg.mul_one]
theorem sA {a s:FP2} (hs:s*s=a):(s.a*s.a+s.b*s.b)*(s.a*s.a+s.b*s.b)=a.a*a.a+a.b*a.b:=by
 rw [← hs]
 exact ring [s.a,s.b] (b:=(s.a*s.a+-1*(s.b*s.b))*(s.a*s.a+-1*(s.b*s.b))+(s.a*s.b+s.b*s.a)*(s.a*s.b+s.b*s.a)) (by kernel_rfl)
noncomputable def D3 (a:FP2):FP:=a.a*a.a+a.b*a.b
theorem AJO {a:FP2} (h:Be (D3 a)=false):Bw a=false:=by
 cases hi:Bw a with
 | false=>rfl
 | true =>
  obtain ⟨s,hs⟩:=F8.1 hi
  have:=JV (sA hs)
  unfold D3 at h
  rw [this] at h;cases h
theorem AJP {h:FP} (hh:h+h=1) {a:FP2} (hi:Be (D3 a)=true) (h1:D2 h a (Bb (D3 a))=false) (h2:D2 h a (-Bb (D3 a))=false):Bw a=false:=by
 cases hq:Bw a with
 | false=>rfl
 | true =>
  obtain ⟨s,hs⟩:=F8.1 hq
  rcases Uv ((JU hi).trans (sA hs).symm) with e | e
  ·rw [r9 hh hs e] at h1;cases h1
  ·rw [r9 hh hs (n:=-Bb (D3 a)) (by rw [e];exact neg_neg _)] at h2;cases h2
theorem e4:(pN-3) / 4*4+3=pN:=by kernel_rfl
def Qx.sc {F:Type} [CR F] {β:F} (x:Qx β) (k:F):Qx β:=⟨x.a*k,x.b*k⟩
noncomputable def cj (r:R FP2):R FP2:=en (Qx.conj (mo r:FP2))
noncomputable def sc (r:R FP2) (k:R FP):R FP2:=en (Qx.sc (mo r:FP2) (mo k))
noncomputable def mx (r:R FP2):R FP2:=en ((mo r:FP2)*xi)
def KH:List (TypeId×List (Option IntKind)):=(39,List.replicate 12 (some .u64))::(41,List.replicate 24 (some .u64)++[none])::(96,List.replicate 36 (some .u64))::KG
theorem A3:I2 Tryz.prog KH:=⟨⟨by kernel_rfl,by kernel_rfl,by kernel_rfl⟩,⟨by kernel_rfl,by kernel_rfl,by kernel_rfl⟩,⟨by kernel_rfl,by kernel_rfl,by kernel_rfl⟩,IQ⟩
theorem AJQ (r s:R FP2):(su FP (mu FP r.1 s.1) (mu FP r.2 s.2),su FP (mu FP (ad FP r.1 r.2) (ad FP s.1 s.2)) (ad FP (mu FP r.1 s.1) (mu FP r.2 s.2)))=mu FP2 r s:=by
 refine Prod.ext ?_ ?_<;>simp only [su,mu,ad,mo_en]
 ·exact congrArg (en (α:=FP)) (ring [tf r.1,tf r.2,tf s.1,tf s.2] (a:=tf r.1*tf s.1-tf r.2*tf s.2) (b:=tf r.1*tf s.1+-1*(tf r.2*tf s.2)) (by kernel_rfl))
 ·exact congrArg (en (α:=FP)) (ring [tf r.1,tf r.2,tf s.1,tf s.2] (a:=(tf r.1+tf r.2)*(tf s.1+tf s.2)-(tf r.1*tf s.1+tf r.2*tf s.2)) (b:=tf r.1*tf s.2+tf r.2*tf s.1) (by kernel_rfl))
theorem aC (x:FP2):x.nrm=x.a*x.a+x.b*x.b:=ring [x.a,x.b] (a:=x.a*x.a - -1*(x.b*x.b)) (by kernel_rfl)
theorem AJR (r:R FP2):sc (cj r) (iv FP (ad FP (mu FP r.1 r.1) (mu FP r.2 r.2)))=iv FP2 r:=by
 simp only [sc,cj,iv,mu,ad,mo_en]
 have e:=aC (mo r:FP2)
 show en (Qx.sc (Qx.conj (mo r:FP2)) (FD.inv ((mo r:FP2).a*(mo r:FP2).a+(mo r:FP2).b*(mo r:FP2).b)))=en (qO (mo r:FP2))
 rw [← e];rfl
noncomputable abbrev oH1:Orc:=AJ SH1 KH
theorem Mx:OrcOk Tryz.prog oH1:=AN Z_ A3
section
variable (r s:R FP2) (k:R FP)
theorem AJS:AX Tryz.prog oH1 Tryz.f116 [va FP2 r] [] 300=some ([],va FP2 (re FP2 r)):=by kernel_rfl
theorem AJT:AX Tryz.prog oH1 Tryz.f79 [va FP2 r,va FP2 s] [] 300=some ([],va FP2 (ad FP2 r s)):=by kernel_rfl
theorem AJU:AX Tryz.prog oH1 Tryz.f118 [va FP2 r,va FP2 s] [] 300=some ([],va FP2 (su FP2 r s)):=by kernel_rfl
theorem AJV:AX Tryz.prog oH1 Tryz.f81 [va FP2 r] [] 300=some ([],va FP2 (ng FP2 r)):=by kernel_rfl
theorem AJW:AX Tryz.prog oH1 Tryz.f187 [va FP2 r] [] 300=some ([],va FP2 (cj r)):=by kernel_rfl
theorem AJX:AX Tryz.prog oH1 Tryz.f186 [va FP2 r,va FP k] [] 300=some ([],va FP2 (sc r k)):=by kernel_rfl
noncomputable abbrev sC:Orc:=AJ ((137,C0 Tryz.prog oH1 Tryz.f137 300)::SH1) KH
theorem AJY:OrcOk Tryz.prog sC:=AN ⟨DG Mx AE Tryz.func137 (by kernel_rfl) (by kernel_rfl) 300,Z_⟩ A3
theorem AJZ:AX Tryz.prog sC Tryz.f80 [va FP2 r,va FP2 s] [] 300=some ([],va FP2 (su FP (mu FP r.1 s.1) (mu FP r.2 s.2),su FP (mu FP (ad FP r.1 r.2) (ad FP s.1 s.2)) (ad FP (mu FP r.1 s.1) (mu FP r.2 s.2)))):=by kernel_rfl
end
noncomputable def SH2:List (FuncId×ASpec):=(116,As (Dl FP2 fun r=>va FP2 (re FP2 r)))::(79,As (GZ FP2 FP2 fun r s=>va FP2 (ad FP2 r s)))::(118,As (GZ FP2 FP2 fun r s=>va FP2 (su FP2 r s)))::(81,As (Dl FP2 fun r=>va FP2 (ng FP2 r)))::(187,As (Dl FP2 fun r=>va FP2 (cj r)))::(186,As (GZ FP2 FP fun r k=>va FP2 (sc r k)))::(80,As (GZ FP2 FP2 fun r s=>va FP2 (mu FP2 r s)))::SH1
theorem sD:AM Tryz.prog SH2:=⟨Av Tryz.func116 (by kernel_rfl) (by kernel_rfl) (EH fun r=>Ac Mx AE Tryz.func116 (AJS r) trivial rfl),Av Tryz.func79 (by kernel_rfl) (by kernel_rfl) (IR fun r s=>Ac Mx AE Tryz.func79 (AJT r s) trivial rfl),Av Tryz.func118 (by kernel_rfl) (by kernel_rfl) (IR fun r s=>Ac Mx AE Tryz.func118 (AJU r s) trivial rfl),Av Tryz.func81 (by kernel_rfl) (by kernel_rfl) (EH fun r=>Ac Mx AE Tryz.func81 (AJV r) trivial rfl),Av Tryz.func187 (by kernel_rfl) (by kernel_rfl) (EH fun r=>Ac Mx AE Tryz.func187 (AJW r) trivial rfl),Av Tryz.func186 (by kernel_rfl) (by kernel_rfl) (IR fun r s=>Ac Mx AE Tryz.func186 (AJX r s) trivial rfl),Av Tryz.func80 (by kernel_rfl) (by kernel_rfl) (IR fun r s=>by rw [← AJQ];exact Ac AJY AE Tryz.func80 (AJZ r s) trivial rfl),Z_⟩
noncomputable abbrev oH2:Orc:=AJ SH2 KH
theorem AJa:OrcOk Tryz.prog oH2:=AN sD A3
section
variable (r s:R FP2)
theorem AJb:AX Tryz.prog oH2 Tryz.f119 [va FP2 r] [] 300=some ([],va FP2 (sc (cj r) (iv FP (ad FP (mu FP r.1 r.1) (mu FP r.2 r.2))))):=by kernel_rfl
end
noncomputable def SH3:List (FuncId×ASpec):=(119,As (Dl FP2 fun r=>va FP2 (iv FP2 r)))::SH2
theorem sE:AM Tryz.prog SH3:=⟨Av Tryz.func119 (by kernel_rfl) (by kernel_rfl) (EH fun r=>by rw [← AJR];exact Ac AJa AE Tryz.func119 (AJb r) trivial rfl),sD⟩
noncomputable abbrev oH3:Orc:=AJ SH3 KH
theorem aD:OrcOk Tryz.prog oH3:=AN sE A3
abbrev P2:Type:=Pt FP2
def dq (x y:Nat):Bool:=decide (x=y)
def CO (r s:R FP2):Bool:=dq r.1 s.1&&dq r.2 s.2
theorem My (x y:FP):dq x.val y.val=decide (x=y):=by
 unfold dq
 by_cases h:x=y
 ·rw [decide_eq_true h,decide_eq_true (congrArg Fin.val h)]
 ·rw [decide_eq_false h,decide_eq_false fun e=>h (Fin.ext e)]
theorem Ot (x y:FP2):CO (en x) (en y)=decide (x=y):=by
 show (dq x.a.val y.a.val&&dq x.b.val y.b.val)=_
 rw [My,My]
 by_cases h:x=y
 ·subst h;rw [decide_eq_true rfl,decide_eq_true rfl,decide_eq_true rfl];rfl
 ·rw [decide_eq_false h]
  by_cases h1:x.a=y.a
  ·rw [decide_eq_false fun h2=>h (Qx.ext h1 h2),Bool.and_false]
  ·rw [decide_eq_false h1,Bool.false_and]
def DI (r:R FP2):Bool:=dq r.1 0&&dq r.2 0
theorem Q8 (x:FP2):DI (en x)=decide (x=0):=Ot x 0
def AJc:List Ch:=[.n .u64 4,.n .u64 0,.n .u64 0,.n .u64 0,.n .u64 0,.n .u64 0,.n .u64 4,.n .u64 0,.n .u64 0,.n .u64 0,.n .u64 0,.n .u64 0]
theorem AJd:AX Tryz.prog oH3 Tryz.f117 [] [] 100=some ([],.val true AJc):=by kernel_rfl
def CV (i:Bool):List Ch:=List.replicate 24 (.n .u64 0)++[.b i]
def ev (α:Type) [Sh α] (x:AV):List AV→Option AV | []=>some x | _=>none
section
variable (r s:R P2)
theorem AJe:AX Tryz.prog oH3 Tryz.f64 [va P2 r] [true] 300=some ([(r.2.2,true)],.val true (CV true)):=by kernel_rfl
theorem AJf:AX Tryz.prog oH3 Tryz.f64 [va P2 r] [false] 300=some ([(r.2.2,false)],.val true (CD (av (re FP2 r.1)) (CD (av (re FP2 r.2.1)) [.b false]))):=by kernel_rfl
end
theorem AJg (r:R P2):AW Tryz.prog 64 [va P2 r] (ve (mo r:P2)):=by
 have h1:=AJe r
 have h2:=AJf r
 obtain ⟨x,y,i⟩:=r
 cases i with
 | true=>exact FL (α:=P2) (r:=(en (.inf:P2):R P2)) (Ac aD AE Tryz.func64 h1 ⟨rfl,trivial⟩ rfl) (by kernel_rfl)
 | false=>exact FL (α:=P2) (r:=((re FP2 x,re FP2 y,false):R P2)) (Ac aD AE Tryz.func64 h2 ⟨rfl,trivial⟩ rfl) (by kernel_rfl)
noncomputable def SJ0:List (FuncId×ASpec):=(117,As (ev FP2 (ve Gw)))::(64,As (Dl P2 fun r=>ve (mo r:P2)))::SH3
theorem aE {α:Type} [Sh α] {P:Program} {f:FuncId} {x:AV} (h:AW P f [] x):∀ args v,ev α x args=some v→AW P f args v:=by
 intro args v hs
 unfold ev at hs
 split at hs
 ·injection hs with hs;subst hs;exact h
 ·cases hs
theorem AJh:AW Tryz.prog 117 [] (ve Gw):=FL (α:=FP2) (r:=(en Gw:R FP2)) (Ac aD AE Tryz.func117 AJd trivial rfl) (by kernel_rfl)
theorem sF:AM Tryz.prog SJ0:=⟨Av Tryz.func117 (by kernel_rfl) (by kernel_rfl) (aE AJh),Av Tryz.func64 (by kernel_rfl) (by kernel_rfl) (EH AJg),sE⟩
noncomputable abbrev oJ0:Orc:=AJ SJ0 KH
theorem LI:OrcOk Tryz.prog oJ0:=AN sF A3
noncomputable def rX (p:P2):R FP2:=(en p).1
noncomputable def rY (p:P2):R FP2:=(en p).2.1
noncomputable def aG (x y:R FP2):Bool:=CO (mu FP2 y y) (ad FP2 (mu FP2 (mu FP2 x x) x) (en Gw))
noncomputable def Bg (p:P2):Bool:=match p with
 | .inf=>true
 | .pt x y=>decide (y*y=x*x*x+Gw)
theorem IT (p:P2):Bg p=true↔Rg.On C2.b p:=by
 cases p with
 | inf=>exact ⟨fun _=>trivial,fun _=>rfl⟩
 | pt a b=>exact decide_eq_true_iff
theorem AJi (x y:R FP2):aG x y=Bg (.pt (mo x) (mo y)):=by
 unfold aG mu ad Bg
 rw [Ot]
 simp only [mo_en]
section
variable (r:R P2)
theorem AJj:AX Tryz.prog oJ0 Tryz.f65 [va P2 r] [true] 300=some ([(r.2.2,true)],.val false [.b true]):=by kernel_rfl
theorem AJk:AX Tryz.prog oJ0 Tryz.f65 [va P2 r] [false] 300=some ([(r.2.2,false)],CI (aG r.1 r.2.1)):=by kernel_rfl
end
theorem AJl (r:R P2):AW Tryz.prog 65 [va P2 r] (CI (Bg (mo r))):=by
 have h1:=AJj r
 have h2:=AJk r
 obtain ⟨x,y,i⟩:=r
 cases i with
 | true=>exact ER (Ac LI AE Tryz.func65 h1 ⟨rfl,trivial⟩ rfl) fun u hu=>OK rfl hu
 | false =>
  rw [show Bg (mo ((x,y,false):R P2))=Bg (.pt (mo x) (mo y)) from rfl,← AJi]
  exact Ac LI AE Tryz.func65 h2 ⟨rfl,trivial⟩ rfl
noncomputable def Uy (px py qx qy:R FP2):R FP2:=mu FP2 (su FP2 qy py) (iv FP2 (su FP2 qx px))
noncomputable def Uz (px py:R FP2):R FP2:=mu FP2 (ad FP2 (ad FP2 (mu FP2 px px) (mu FP2 px px)) (mu FP2 px px)) (iv FP2 (ad FP2 py py))
noncomputable def Q9 (l px qx:R FP2):R FP2:=su FP2 (su FP2 (mu FP2 l l) px) qx
noncomputable def aH (l px py x:R FP2):R FP2:=su FP2 (mu FP2 l (su FP2 px x)) py
noncomputable def aI (l:R FP2) (p q:P2):List Ch:=CD (av (Q9 l (rX p) (rX q))) (CD (av (aH l (rX p) (rY p) (Q9 l (rX p) (rX q)))) [.b false])
section
variable (r s:R P2)
noncomputable def U0 (p q:P2) (d:Bool) (l:List (Bool×Bool)):List (Bool×Bool):=(CN p,false)::(CN q,false)::(!CO (rX p) (rX q),d)::l
theorem AJm:AX Tryz.prog oJ0 Tryz.f97 [va P2 r,va P2 s] [true] 300=some ([(CN (mo r:P2),true)],ve (mo s:P2)):=by kernel_rfl
theorem AJn:AX Tryz.prog oJ0 Tryz.f97 [va P2 r,va P2 s] [false,true] 300=some ([(CN (mo r:P2),false),(CN (mo s:P2),true)],ve (mo r:P2)):=by kernel_rfl
theorem AJo:AX Tryz.prog oJ0 Tryz.f97 [va P2 r,va P2 s] [false,false,true] 300=some (U0 (mo r) (mo s) true [],.val true (aI (Uy (rX (mo r)) (rY (mo r)) (rX (mo s)) (rY (mo s))) (mo r) (mo s))):=by kernel_rfl
theorem AJp:AX Tryz.prog oJ0 Tryz.f97 [va P2 r,va P2 s] [false,false,false,true] 300=some (U0 (mo r) (mo s) false [(!CO (rY (mo r)) (rY (mo s)),true)],.val true (CV true)):=by kernel_rfl
theorem AJq:AX Tryz.prog oJ0 Tryz.f97 [va P2 r,va P2 s] [false,false,false,false,true] 300=some (U0 (mo r) (mo s) false [(!CO (rY (mo r)) (rY (mo s)),false),(DI (rY (mo r)),true)],.val true (CV true)):=by kernel_rfl
theorem AJr:AX Tryz.prog oJ0 Tryz.f97 [va P2 r,va P2 s] [false,false,false,false,false] 300=some (U0 (mo r) (mo s) false [(!CO (rY (mo r)) (rY (mo s)),false),(DI (rY (mo r)),false)],.val true (aI (Uz (rX (mo r)) (rY (mo r))) (mo r) (mo s))):=by kernel_rfl
end
theorem sG (x y:R FP2):(rd (CD (av x) (CD (av y) [.b false])):Option (R P2))=some ((x,y,false):R P2):=by kernel_rfl
theorem sH (a b c d L:FP2):rd (aI (en L) (.pt a b) (.pt c d))=some (en (IL a b c L):R P2):=by
 have e:(en (IL a b c L):R P2)=(Q9 (en L) (en a) (en c),aH (en L) (en a) (en b) (Q9 (en L) (en a) (en c)),false):=by
  unfold Q9 aH su mu
  simp only [mo_en]
  rfl
 rw [e]
 exact sG _ _
theorem AJs (a b c d:FP2):Uy (en a) (en b) (en c) (en d)=en ((d-b)*FD.inv (c-a)):=by unfold Uy mu su iv;simp only [mo_en]
theorem AJt (a b:FP2):Uz (en a) (en b)=en ((a*a+a*a+a*a)*FD.inv (b+b)):=by unfold Uz mu ad iv;simp only [mo_en]
theorem AJu (r s:R P2):AW Tryz.prog 97 [va P2 r,va P2 s] (ve (Rg.add (mo r:P2) (mo s))):=by
 have r1:=AJm r s
 have r2:=AJn r s
 have r3:=AJo r s
 have r4:=AJp r s
 have r5:=AJq r s
 have r6:=AJr r s
 generalize (mo r:P2)=p at *
 generalize (mo s:P2)=q at *
 have zz:rd (CV true)=some (en (.inf:P2):R P2):=by kernel_rfl
 cases p with
 | inf=>exact Ac LI AE Tryz.func97 r1 ⟨rfl,trivial⟩ rfl
 | pt a b=>cases q with
  | inf=>exact Ac LI AE Tryz.func97 r2 ⟨rfl,rfl,trivial⟩ rfl
  | pt c d =>
   have eX:CO (rX (.pt a b)) (rX (.pt c d))=decide (a=c):=Ot a c
   have eY:CO (rY (.pt a b)) (rY (.pt c d))=decide (b=d):=Ot b d
   have eZ:DI (rY (.pt a b))=decide (b=0):=Q8 b
   rw [OX]
   by_cases hx:a=c
   ·rw [if_pos hx]
    by_cases hy:b=d
    ·by_cases h0:b=0
     ·rw [if_neg (fun h=>h.2 h0)]
      exact FL (Ac LI AE Tryz.func97 r5 ⟨rfl,rfl,by rw [eX,decide_eq_true hx];rfl,by rw [eY,decide_eq_true hy];rfl,by rw [eZ,decide_eq_true h0],trivial⟩ rfl) zz
     ·rw [if_pos ⟨hy,h0⟩]
      rw [show Uz (rX (.pt a b)) (rY (.pt a b))=_ from AJt a b] at r6
      exact FL (Ac LI AE Tryz.func97 r6 ⟨rfl,rfl,by rw [eX,decide_eq_true hx];rfl,by rw [eY,decide_eq_true hy];rfl,by rw [eZ,decide_eq_false h0],trivial⟩ rfl) (sH a b c d _)
    ·rw [if_neg (fun h=>hy h.1)]
     exact FL (Ac LI AE Tryz.func97 r4 ⟨rfl,rfl,by rw [eX,decide_eq_true hx];rfl,by rw [eY,decide_eq_false hy];rfl,trivial⟩ rfl) zz
   ·rw [if_neg hx]
    rw [show Uy (rX (.pt a b)) (rY (.pt a b)) (rX (.pt c d)) (rY (.pt c d))=_ from AJs a b c d] at r3
    exact FL (Ac LI AE Tryz.func97 r3 ⟨rfl,rfl,by rw [eX,decide_eq_false hx];rfl,trivial⟩ rfl) (sH a b c d _)
noncomputable def SJ1:List (FuncId×ASpec):=(65,As (Dl P2 fun r=>CI (Bg (mo r))))::(97,As (GZ P2 P2 fun r s=>ve (Rg.add (mo r:P2) (mo s))))::SJ0
theorem sI:AM Tryz.prog SJ1:=⟨Av Tryz.func65 (by kernel_rfl) (by kernel_rfl) (EH AJl),Av Tryz.func97 (by kernel_rfl) (by kernel_rfl) (IR AJu),sF⟩
abbrev J2:Type:=J FP2
noncomputable abbrev oJ1:Orc:=AJ SJ1 KH
theorem AJv:OrcOk Tryz.prog oJ1:=AN sI A3
def lq (x y:Nat):Bool:=decide (x<y)
def CP (r:R FP2):Bool:=lq r.1 pN&&lq r.2 pN
theorem Mz {r:R FP2} (h:CP r=true):en (mo r:FP2)=r:=by
 obtain ⟨h1,h2⟩:=Bool.and_eq_true_iff.1 h
 exact Prod.ext (IP (of_decide_eq_true h1)) (IP (of_decide_eq_true h2))
theorem M0 (x:FP2):CP (en x)=true:=Bool.and_eq_true_iff.2 ⟨decide_eq_true x.a.isLt,decide_eq_true x.b.isLt⟩
noncomputable def qE (x:R FP2):R FP2:=ad FP2 (ad FP2 (mu FP2 x x) (mu FP2 x x)) (mu FP2 x x)
noncomputable def qD (x y:R FP2):R FP2:=ad FP2 (ad FP2 (mu FP2 x (mu FP2 y y)) (mu FP2 x (mu FP2 y y))) (ad FP2 (mu FP2 x (mu FP2 y y)) (mu FP2 x (mu FP2 y y)))
noncomputable def aJ (y:R FP2):R FP2:=ad FP2 (mu FP2 (mu FP2 y y) (mu FP2 y y)) (mu FP2 (mu FP2 y y) (mu FP2 y y))
noncomputable def aK (y:R FP2):R FP2:=ad FP2 (aJ y) (aJ y)
noncomputable def sJ (y:R FP2):R FP2:=ad FP2 (aK y) (aK y)
noncomputable def qX (x y:R FP2):R FP2:=su FP2 (mu FP2 (qE x) (qE x)) (ad FP2 (qD x y) (qD x y))
noncomputable def qY (x y:R FP2):R FP2:=su FP2 (mu FP2 (qE x) (su FP2 (qD x y) (qX x y))) (sJ y)
noncomputable def qT (r:R J2):R J2:=(qX r.1 r.2.1,qY r.1 r.2.1,ad FP2 (mu FP2 r.2.1 r.2.2) (mu FP2 r.2.1 r.2.2))
theorem AJw (r:R J2):AX Tryz.prog oJ1 Tryz.f66 [va J2 r] [] 500=some ([],va J2 (qT r)):=by kernel_rfl
theorem AJx (r:R J2):qT r=en (B4 (mo r:J2)):=by
 unfold qT qY qX sJ aK aJ qD qE su mu ad
 simp only [mo_en]
 rfl
theorem AJy (r:R J2):AW Tryz.prog 66 [va J2 r] (ve (B4 (mo r:J2))):=by
 unfold ve
 rw [← AJx]
 exact Ac AJv AE Tryz.func66 (AJw r) trivial rfl
noncomputable def SJ2:List (FuncId×ASpec):=(66,As (Dl J2 fun r=>ve (B4 (mo r:J2))))::SJ1
theorem sK:AM Tryz.prog SJ2:=⟨Av Tryz.func66 (by kernel_rfl) (by kernel_rfl) (EH AJy),sI⟩
noncomputable abbrev oJ2:Orc:=AJ SJ2 KH
theorem M1:OrcOk Tryz.prog oJ2:=AN sK A3
noncomputable def qH (x z a:R FP2):R FP2:=su FP2 (mu FP2 a (mu FP2 z z)) x
noncomputable def qR (y z b:R FP2):R FP2:=su FP2 (mu FP2 b (mu FP2 (mu FP2 z z) z)) y
noncomputable def U1 (x h r:R FP2):R FP2:=su FP2 (su FP2 (mu FP2 r r) (mu FP2 (mu FP2 h h) h)) (ad FP2 (mu FP2 x (mu FP2 h h)) (mu FP2 x (mu FP2 h h)))
noncomputable def aL (x y h r:R FP2):R FP2:=su FP2 (mu FP2 r (su FP2 (mu FP2 x (mu FP2 h h)) (U1 x h r))) (mu FP2 y (mu FP2 (mu FP2 h h) h))
section
variable (p:R J2) (q:R P2)
def U2:List Ch:=List.replicate 36 (.n .u64 0)
theorem AJz:AX Tryz.prog oJ2 Tryz.f67 [va J2 p,va P2 q] [true] 500=some ([(DI p.2.2,true)],.val true (CD (av q.1) (CD (av q.2.1) (.n .u64 1::List.replicate 11 (.n .u64 0))))):=by kernel_rfl
theorem AJ0:AX Tryz.prog oJ2 Tryz.f67 [va J2 p,va P2 q] [false,true,true] 500=some ([(DI p.2.2,false),(DI (qH p.1 p.2.2 q.1),true),(DI (qR p.2.1 p.2.2 q.2.1),true)],ve (B4 (mo p:J2))):=by kernel_rfl
theorem AJ1:AX Tryz.prog oJ2 Tryz.f67 [va J2 p,va P2 q] [false,true,false,true] 500=some ([(DI p.2.2,false),(DI (qH p.1 p.2.2 q.1),true),(DI (qR p.2.1 p.2.2 q.2.1),false),(DI (qH p.1 p.2.2 q.1),true)],.val true U2):=by kernel_rfl
theorem AJ2:AX Tryz.prog oJ2 Tryz.f67 [va J2 p,va P2 q] [false,false,false] 500=some ([(DI p.2.2,false),(DI (qH p.1 p.2.2 q.1),false),(DI (qH p.1 p.2.2 q.1),false)],
 va J2 (U1 p.1 (qH p.1 p.2.2 q.1) (qR p.2.1 p.2.2 q.2.1),aL p.1 p.2.1 (qH p.1 p.2.2 q.1) (qR p.2.1 p.2.2 q.2.1),mu FP2 p.2.2 (qH p.1 p.2.2 q.1))):=by kernel_rfl
end
theorem AJ3 (x y:R FP2):(rd (CD (av x) (CD (av y) (.n .u64 1::List.replicate 11 (.n .u64 0)))):Option (R J2))=some ((x,y,en (1:FP2)):R J2):=by kernel_rfl
theorem AJ4 {p:R J2} {q:R P2} (hz:CP p.2.2=true) (hx:CP q.1=true) (hy:CP q.2.1=true):AW Tryz.prog 67 [va J2 p,va P2 q] (ve (FK (mo p:J2) (mo q.1) (mo q.2.1))):=by
 have ez:DI p.2.2=decide ((mo p:J2).z=0):=by
  conv=>lhs;rw [← Mz hz]
  exact Q8 _
 have eh:qH p.1 p.2.2 q.1=en (pH (mo p:J2) (mo q.1)):=by unfold qH su mu;simp only [mo_en];rfl
 have er:qR p.2.1 p.2.2 q.2.1=en (pR (mo p:J2) (mo q.2.1)):=by unfold qR su mu;simp only [mo_en];rfl
 have zh:DI (qH p.1 p.2.2 q.1)=decide (pH (mo p:J2) (mo q.1)=0):=by rw [eh];exact Q8 _
 have zr:DI (qR p.2.1 p.2.2 q.2.1)=decide (pR (mo p:J2) (mo q.2.1)=0):=by rw [er];exact Q8 _
 have r1:=AJz p q
 have r2:=AJ0 p q
 have r3:=AJ1 p q
 have r4:=AJ2 p q
 rw [zh,ez] at r2
 rw [zh,ez,zr] at r3
 rw [zr] at r2
 rw [zh,ez,eh,er] at r4
 rw [ez] at r1
 unfold FK
 by_cases h0:(mo p:J2).z=0
 ·rw [if_pos h0]
  refine FL (α:=J2) (r:=(en (⟨mo q.1,mo q.2.1,1⟩:J2):R J2)) (Ac M1 AE Tryz.func67 r1 ⟨decide_eq_true h0,trivial⟩ rfl) ?_
  have e:(en (⟨mo q.1,mo q.2.1,1⟩:J2):R J2)=(q.1,q.2.1,en (1:FP2)):=by
   show ((en (mo q.1:FP2),en (mo q.2.1:FP2),en (1:FP2)):R J2)=_
   rw [Mz hx,Mz hy]
  rw [e]
  exact AJ3 _ _
 ·rw [if_neg h0]
  by_cases hh:pH (mo p:J2) (mo q.1)=0
  ·rw [if_pos hh]
   by_cases hr:pR (mo p:J2) (mo q.2.1)=0
   ·rw [if_pos hr]
    exact Ac M1 AE Tryz.func67 r2 ⟨decide_eq_false h0,decide_eq_true hh,decide_eq_true hr,trivial⟩ rfl
   ·rw [if_neg hr]
    exact FL (α:=J2) (r:=(en (⟨0,0,0⟩:J2):R J2)) (Ac M1 AE Tryz.func67 r3 ⟨decide_eq_false h0,decide_eq_true hh,decide_eq_false hr,decide_eq_true hh,trivial⟩ rfl) (by kernel_rfl)
  ·rw [if_neg hh]
   have e:((U1 p.1 (en (pH (mo p:J2) (mo q.1))) (en (pR (mo p:J2) (mo q.2.1))),aL p.1 p.2.1 (en (pH (mo p:J2) (mo q.1))) (en (pR (mo p:J2) (mo q.2.1))),mu FP2 p.2.2 (en (pH (mo p:J2) (mo q.1)))):R J2) =
     en (⟨pX (mo p:J2).x (pH (mo p:J2) (mo q.1)) (pR (mo p:J2) (mo q.2.1)),pY (mo p:J2).x (mo p:J2).y (pH (mo p:J2) (mo q.1)) (pR (mo p:J2) (mo q.2.1)),(mo p:J2).z*pH (mo p:J2) (mo q.1)⟩:J2):=by
    unfold aL U1 su mu ad
    simp only [mo_en]
    rfl
   rw [e] at r4
   exact Ac M1 AE Tryz.func67 r4 ⟨decide_eq_false h0,decide_eq_false hh,decide_eq_false hh,trivial⟩ rfl
noncomputable def aM:List AV→Option (List (Bool×Bool)×AV)
 | [.val true a,.val true b]=>match (rd a:Option (R J2)),(rd b:Option (R P2)) with
  | some p,some q=>some ([(CP p.2.2,true),(CP q.1,true),(CP q.2.1,true)],ve (FK (mo p:J2) (mo q.1) (mo q.2.1)))
  | _,_=>none
 | _=>none
theorem AJ5:∀ args c v,aM args=some (c,v)→AP c→AW Tryz.prog 67 args v:=by
 intro args c v hs hc us w ha
 unfold aM at hs
 split at hs
 case h_2=>cases hs
 split at hs
 case h_2=>cases hs
 rename_i p q hx hy
 injection hs with hs;injection hs with h1 h2;subst h1;subst h2
 obtain ⟨u1,us1,r1,⟨u2,us2,r2,ha,rfl⟩,rfl⟩:=ha
 exact AJ4 hc.1 hc.2.1 hc.2.2.1 _ w ⟨u1,_,Gu hx r1,⟨u2,_,Gu hy r2,ha,rfl⟩,rfl⟩
def z6 (r:R J2):Bool:=dq r.1.1 0&&(dq r.1.2 0&&(dq r.2.1.1 0&&(dq r.2.1.2 0&&DI r.2.2)))
section
variable (r:R J2)
theorem AJ6:AX Tryz.prog oJ2 Tryz.f68 [va J2 r] [true] 500=some ([(z6 r,true)],.val true (CV true)):=by kernel_rfl
theorem AJ7:AX Tryz.prog oJ2 Tryz.f68 [va J2 r] [false,true] 500=some ([(z6 r,false),(DI r.2.2,true)],.val true (CV true)):=by kernel_rfl
noncomputable def qI (r:R J2):R FP2:=mu FP2 (iv FP2 r.2.2) (iv FP2 r.2.2)
theorem AJ8:AX Tryz.prog oJ2 Tryz.f68 [va J2 r] [false,false] 500=some ([(z6 r,false),(DI r.2.2,false)],.val true (CD (av (mu FP2 r.1 (qI r))) (CD (av (mu FP2 r.2.1 (mu FP2 (qI r) (iv FP2 r.2.2)))) [.b false]))):=by kernel_rfl
end
theorem AJ9 {r:R J2} (hz:CP r.2.2=true):AW Tryz.prog 68 [va J2 r] (ve (Ba (mo r:J2))):=by
 have ez:DI r.2.2=decide ((mo r:J2).z=0):=by
  conv=>lhs;rw [← Mz hz]
  exact Q8 _
 have zz:rd (CV true)=some (en (.inf:P2):R P2):=by kernel_rfl
 by_cases h0:(mo r:J2).z=0
 ·rw [F7 h0]
  cases h3:z6 r with
  | true=>exact FL (Ac M1 AE Tryz.func68 (AJ6 r) ⟨h3,trivial⟩ rfl) zz
  | false=>exact FL (Ac M1 AE Tryz.func68 (AJ7 r) ⟨h3,by rw [ez];exact decide_eq_true h0,trivial⟩ rfl) zz
 ·have h3:z6 r=false:=by unfold z6;rw [ez,decide_eq_false h0];simp
  rw [GX h0]
  refine FL (Ac M1 AE Tryz.func68 (AJ8 r) ⟨h3,by rw [ez];exact decide_eq_false h0,trivial⟩ rfl) ?_
  have e:(en (.pt ((mo r:J2).x*(FD.inv (mo r:J2).z*FD.inv (mo r:J2).z)) ((mo r:J2).y*((FD.inv (mo r:J2).z*FD.inv (mo r:J2).z)*FD.inv (mo r:J2).z)):P2):R P2)=(mu FP2 r.1 (qI r),mu FP2 r.2.1 (mu FP2 (qI r) (iv FP2 r.2.2)),false):=by
   unfold qI mu iv
   simp only [mo_en]
   rfl
  rw [e]
  exact sG _ _
noncomputable def aN:List AV→Option (List (Bool×Bool)×AV)
 | [.val true a]=>match (rd a:Option (R J2)) with
  | some p=>some ([(CP p.2.2,true)],ve (Ba (mo p:J2)))
  | _=>none
 | _=>none
theorem AJ_:∀ args c v,aN args=some (c,v)→AP c→AW Tryz.prog 68 args v:=by
 intro args c v hs hc us w ha
 unfold aN at hs
 split at hs
 case h_2=>cases hs
 split at hs
 case h_2=>cases hs
 rename_i p hx
 injection hs with hs;injection hs with h1 h2;subst h1;subst h2
 obtain ⟨u1,us1,r1,ha,rfl⟩:=ha
 exact AJ9 hc.1 _ w ⟨u1,_,Gu hx r1,ha,rfl⟩
noncomputable def SJ3:List (FuncId×ASpec):=(67,FG aM)::(68,FG aN)::SJ2
theorem sL:AM Tryz.prog SJ3:=⟨GS Tryz.func67 (by kernel_rfl) (by kernel_rfl) AJ5,GS Tryz.func68 (by kernel_rfl) (by kernel_rfl) AJ_,sK⟩
noncomputable abbrev oJ3:Orc:=AJ SJ3 KH
theorem Ou:OrcOk Tryz.prog oJ3:=AN sL A3
noncomputable section
theorem AJ' {off n:Nat} {xs:List Int} (hall:∀ d∈xs,0≤d∧d<18446744073709551616) (hn:n≤1125899906842624) {c:Nat} (hc:c<64*n) :
  wI (Int.tdiv (c:Int) 64)=((c / 64:Nat):Int)∧c / 64<n∧0≤DA xs off c∧0≤Int.tmod (c:Int) 64∧H_ (DA xs off c) (Int.tmod c 64)=((AL (AA xs off n) / 2^c % 2:Nat):Int):=by
 have hq:Int.tdiv (c:Int) 64=((c / 64:Nat):Int):=by rw [Int.tdiv_eq_ediv_of_nonneg (by omega)];rfl
 have hr:Int.tmod (c:Int) 64=((c % 64:Nat):Int):=by rw [Int.tmod_eq_emod_of_nonneg (by omega)];rfl
 have hw:wI (Int.tdiv (c:Int) 64)=((c / 64:Nat):Int):=by rw [hq];exact A4 (by omega)
 have hjn:c / 64<n:=by omega
 have hlt:∀ d∈AA xs off n,0≤d∧d<18446744073709551616:=Du hall
 have hv:DA xs off c=(AA xs off n).getD (c / 64) 0:=by
  unfold DA
  rw [hw,Int.toNat_natCast,Nat.mul_one]
  exact (Kv hjn).symm
 have hvb:0≤DA xs off c∧DA xs off c<18446744073709551616:=by rw [hv];exact QL hlt _
 refine ⟨hw,hjn,hvb.1,by rw [hr];omega,?_⟩
 obtain ⟨V,hV⟩:=Int.eq_ofNat_of_zero_le hvb.1
 rw [hr,← Yn _ c hlt,← hv,hV,Int.toNat_natCast]
 exact Ym V _ (by omega) (by omega)
theorem AKA {off n:Nat} {xs:List Int} (hall:∀ d∈xs,0≤d∧d<18446744073709551616) (hlen:off+n≤xs.length):AL (AA xs off n)<2^(64*n):=by
 have hl:=I_ (AA xs off n) (Du hall)
 unfold AA at hl ⊢
 rwa [List.length_take,List.length_drop,Nat.min_eq_left (by omega)] at hl
theorem AKB (E c:Nat):E / 2^c=2*(E / 2^(c+1))+E / 2^c % 2:=by rw [Nat.pow_succ,← Nat.div_div_eq_div_mul];omega
noncomputable def AKC:List Item:=C3 (Aa Tryz.prog oJ3 (some 0) 500 1 none (Ah Tryz.f20 [AK 0 0 0 0,ve (.pt 0 0:P2)] (Bm []) 1 [false,false]))
noncomputable def hmT (off n m:Nat) (i:Int):List AV:=.val false [.sl 0 off n m]::.any::.any::.val false [.p 1 0]::.val false [.p 2 0]::.val false [.n .i64 0]::.val false [.p 3 0]::.val false [.v (.int .i64 i)]::List.replicate (Tryz.f20.ntmps-8) .any
def hmH (xs:List Int) (p:P2):Heap:=[(0,some (AU [.seq .u64 xs])),(1,some ⟨41,av (en p:R P2),false⟩),(2,some ⟨41,CV false,false⟩)]
noncomputable def JW (off n m:Nat) (xs:List Int) (p:P2) (out:List Ch) (i:Int) (path:List Bool):ASt:=⟨AKC,⟨hmT off n m i,List.append (hmH xs p) [(3,some ⟨96,out,false⟩)],4,path⟩⟩
def jC2 (j:J2):List Ch:=av (en j:R J2)
def jR (j:J2):J2:=mo (en j:R J2)
def sM (j:J2) (p:P2):J2:=FK (mo (en (B4 (jR j)):R J2)) (mo (rX p)) (mo (rY p))
def U3 (r:R P2) (off n m:Nat):List AV:=[AK 0 off n m,va P2 r]
def JX (p:P2):P2:=mo (en p:R P2)
abbrev kM:Option (List Nat×List Nat×Nat):=some ([0,3,4,5,6,7],[0,1,2,3],4)
theorem AKF (r:R P2) (off n m:Nat) (xs:List Int):Aa Tryz.prog oJ3 (some 0) 500 1 kM (Ah Tryz.f20 (U3 r off n m) (Bm xs) 1 [false,false]) =
 some ([(!Bg (JX (mo r)),false),(CN (mo r:P2),false),(AI .i64 n,true)],[],JW off n m xs (mo r) U2 (wI (wI (64*(n:Int))-1)) []):=by kernel_rfl
def M2 (q:P2) (e:Int):AV:=.tup [(true,av (en q:R P2)),(false,[.v (.int .i64 e)])]
def Q_ (q:P2) (e:Int):AV:=.tup [(true,av (en q:R P2)),(false,[.n .i64 e])]
theorem AKG (r:R P2) (off n m:Nat) (xs:List Int):AQ Tryz.prog oJ3 Tryz.f20 500 1 [] (Ah Tryz.f20 (U3 r off n m) (Bm xs) 1 [true]) =
 some ([(!Bg (JX (mo r)),true)],[],.tup [(true,CV false),(false,[.n .i64 120])],[]):=by kernel_rfl
theorem AKH (r:R P2) (off n m:Nat) (xs:List Int):AQ Tryz.prog oJ3 Tryz.f20 500 1 [] (Ah Tryz.f20 (U3 r off n m) (Bm xs) 1 [false,true]) =
 some ([(!Bg (JX (mo r)),false),(CN (mo r:P2),true)],[],Q_ (mo r) 0,[]):=by kernel_rfl
section
variable (off n m:Nat) (xs:List Int) (p:P2) (j:J2) (i:Int)
theorem AKI:Aa Tryz.prog oJ3 (some 0) 500 1 kM (JW off n m xs p (jC2 j) i [true,true])=some (Oo off n xs i true [],[],JW off n m xs p (jC2 (B4 (jR j))) (wI (i-1)) []):=by kernel_rfl
theorem AKJ:Aa Tryz.prog oJ3 (some 0) 500 1 kM (JW off n m xs p (jC2 j) i [true,false]) =
 some (Oo off n xs i false [(CP (en (B4 (jR j))).2.2,true),(CP (rX p),true),(CP (rY p),true)],[],JW off n m xs p (jC2 (sM j p)) (wI (i-1)) []):=by kernel_rfl
theorem AKK:AQ Tryz.prog oJ3 Tryz.f20 500 1 [] (JW off n m xs p (jC2 j) i [false])=some ([(decide (0≤i),false),(CP (en j).2.2,true)],[],Q_ (Ba (jR j)) 0,[]):=by kernel_rfl
end
theorem aO (off n m:Nat) (xs:List Int) (p:P2) (j:J2) (i:Int) (q:List Bool):Bp Tryz.f20.ntmps (JW off n m xs p (jC2 j) i q).s:=AR (by kernel_rfl)
theorem AKL (β:Env) (l:List Value) (h:AH β U2 l):AH β (jC2 ⟨0,0,0⟩) l:=Sh.rd_ok (r:=(en (⟨0,0,0⟩:J2):R J2)) (by kernel_rfl:rd U2=some (en (⟨0,0,0⟩:J2):R J2)) h
section
variable {off n m:Nat} {xs:List Int} (hall:∀ d∈xs,0≤d∧d<18446744073709551616) (hlen:off+n≤xs.length) (hn:n≤1125899906842624) {p:P2} (hP:Rg.On C2.b p) (hI:CN p=false) {β0:Env} {w0:World} (hb:∀ b,1≤b→β0 b=none)
include hall hlen hn hb hP hI
theorem AKM:∀ (c:Nat) (j:J2),Ba j=smul (AL (AA xs off n) / 2^c) p→c≤64*n→ASafe Tryz.prog 20 β0 w0 (A7 β0 w0 [] (Q_ (smul (AL (AA xs off n)) p) 0) []) Tryz.f20.ntmps [] (JW off n m xs p (jC2 j) ((c:Int)-1) []):=by
 intro c
 induction c with
 | zero =>
  intro j hj _
  have h:ASafe Tryz.prog 20 β0 w0 (A7 β0 w0 [] (Q_ (Ba (jR j)) 0) []) Tryz.f20.ntmps [] (JW off n m xs p (jC2 j) (((0:Nat):Int)-1) [false]) :=
   Aw Ou AE Tryz.func20 (AKK ..) ⟨rfl,M0 j.z,trivial⟩ (aO ..) hb (fun _ h=>by cases h)
  unfold jR at h
  rw [mo_en,hj,Nat.pow_zero,Nat.div_one] at h
  exact Af [false] h
 | succ c ih =>
  intro j hj hc
  have hi:((c+1:Nat):Int)-1=(c:Int):=by omega
  rw [hi]
  obtain ⟨hw,hjn,hv0,hr0,hbit⟩:=AJ' (off:=off) hall hn (c:=c) (by omega)
  have hnext:wI ((c:Int)-1)=(c:Int)-1:=A4 (by omega)
  have hconds:∀ EC r,decide (H_ (DA xs off c) (Int.tmod c 64)=0)=EC→AP r→AP (Oo off n xs c EC r):=by
   intro EC r hbt hr'
   refine ⟨by simp,rfl,?_,?_,by simp,by simp only [decide_eq_true_eq];exact ⟨hr0,hv0⟩,hbt,hr'⟩
   ·rw [hw];simp;omega
   ·rw [hw];simp;omega
  have hoj:Rg.On C2.b (Ba j):=by rw [hj];exact Bf C2 hP _
  have ejR:jR j=j:=mo_en j
  have htw:Ba (B4 (jR j))=smul (2*(AL (AA xs off n) / 2^(c+1))) p:=by
   rw [ejR,Qu C2 hoj,hj,← F4 C2 hP,Nat.two_mul]
  have hd:=AKB (AL (AA xs off n)) c
  rcases Nat.mod_two_eq_zero_or_one (AL (AA xs off n) / 2^c) with h0 | h1
  ·refine Af [true,true] (Aj Ou AE (AKI ..) (hconds true [] (by rw [hbit,h0];rfl) trivial) (aO ..) hb (fun _ h=>by cases h) fun _=>?_)
   rw [hnext]
   refine ih _ ?_ (by omega)
   rw [htw,hd,h0];rfl
  ·refine Af [true,false] (Aj Ou AE (AKJ ..) (hconds false _ (by rw [hbit,h1];rfl) ⟨M0 (B4 (jR j)).z,M0 (D1 p),M0 (B5 p),trivial⟩) (aO ..) hb (fun _ h=>by cases h) fun _=>?_)
   rw [hnext]
   refine ih _ ?_ (by omega)
   unfold sM
   rw [mo_en,UZ C2 (by rw [htw];exact Bf C2 hP _),htw,hd,h1]
   cases p with
   | inf=>cases hI
   | pt a b =>
    show add _ (.pt (mo (en a)) (mo (en b)))=_
    rw [mo_en,mo_en];rfl
end
def C5 (N:Nat) (p:P2):P2:=if Bg p=true then smul N p else .pt 0 0
def IU (p:P2):Int:=if Bg p=true then 0 else 120
theorem sN {β:Env} {q:P2} {e:Int} {u:Value} (h:AG β (Q_ q e) u):AG β (M2 q e) u:=DS (fun _ q=>q) (fun _ q=>ES rfl q) h
theorem AKN {off n m:Nat} {xs:List Int} (hall:∀ d∈xs,0≤d∧d<18446744073709551616) (hlen:off+n≤xs.length) (hn:n≤1125899906842624) (r:R P2) :
  AY Tryz.prog 20 (U3 r off n m) (Bm xs) 1 [] (M2 (C5 (AL (AA xs off n)) (mo r)) (IU (mo r))) []:=by
 have e1:=AKF r off n m xs
 have e2:=AKG r off n m xs
 have e3:=AKH r off n m xs
 unfold JX at e1 e2 e3
 rw [mo_en] at e1 e2 e3
 generalize (mo r:P2)=p at *
 cases ho:Bg p with
 | false =>
  unfold C5 IU
  rw [if_neg (by rw [ho];exact Bool.false_ne_true),if_neg (by rw [ho];exact Bool.false_ne_true)]
  refine Bq (Ax (path:=[true]) Tryz.func20 (by kernel_rfl) (by kernel_rfl) fun β0 w0 hb =>
   Aw Ou AE Tryz.func20 e2 ⟨by rw [ho];rfl,trivial⟩ (AR (by kernel_rfl)) hb (fun _ h=>by cases h)) fun β u hu=>?_
  exact DS (fun _ q=>Gu (r:=(en (.pt 0 0:P2):R P2)) (by kernel_rfl) q) (fun _ q=>ES rfl q) hu
 | true =>
  have hP:=(IT p).1 ho
  unfold C5 IU
  rw [if_pos ho,if_pos ho]
  cases hI:CN p with
  | true =>
   have hp:p=.inf:=by cases p with | inf=>rfl | pt a b=>cases hI
   have hs:smul (AL (AA xs off n)) p=p:=by rw [hp,F6]
   rw [hs]
   exact Bq (Ax (path:=[false,true]) Tryz.func20 (by kernel_rfl) (by kernel_rfl) fun β0 w0 hb =>
    Aw Ou AE Tryz.func20 e3 ⟨by rw [ho];rfl,hI,trivial⟩ (AR (by kernel_rfl)) hb (fun _ h=>by cases h)) fun β u hu=>sN hu
  | false =>
   refine Bq (Ax (path:=[false,false]) Tryz.func20 (by kernel_rfl) (by kernel_rfl) fun β0 w0 hb=>?_) fun β u hu=>sN hu
   refine Aj Ou AE e1 ⟨by rw [ho];rfl,hI,ZW hn,trivial⟩ (AR (by kernel_rfl)) hb (fun _ h=>by cases h) fun _=>?_
   have e4:wI (wI (64*(n:Int))-1)=((64*n:Nat):Int)-1:=by
    rw [A4 (z:=64*(n:Int)) (by omega),A4 (by omega)];omega
   rw [e4]
   refine rC AKL (AKM hall hlen hn hP hI hb (64*n) ⟨0,0,0⟩ ?_ (Nat.le_refl _))
   rw [F7 rfl,Nat.div_eq_of_lt (AKA hall hlen)];rfl
def aP (α:Type) [Sh α] (g:List Int→R α→AV):ASpec:=fun args H fr path =>
 match args with
 | [S,.val true a]=>match Br S with
  | some (k,off,n)=>match (rd a:Option (R α)),AB H k with
   | some r,some ⟨_,cs,_⟩=>match Ak .u64 cs with
    | some xs=>some (Az [k] 1 fr 0 [] (g (AA xs off n) r) [] [(Nat.ble (off+n) xs.length,true),(Nat.ble n 1125899906842624,true)] path)
    | none=>none
   | _,_=>none
  | none=>none
 | _=>none
theorem AKO {α:Type} [Sh α] {f:FuncId} {fn:Func} {g:List Int→R α→AV} (hfn:Tryz.prog.funcs[f]? = some fn) (hb:fn.body.isSome=true) (hname:(fn.name=="runtime.NumGoroutine")=false) (hk:∀ l r,Ct 1 0 [] (g l r) []=true)
  (h:∀ (off n m:Nat) (xs:List Int) (r:R α),(∀ d∈xs,0≤d∧d<18446744073709551616)→off+n≤xs.length→n≤1125899906842624→AY Tryz.prog f [AK 0 off n m,va α r] (Bm xs) 1 [] (g (AA xs off n) r) []):A6 Tryz.prog f (aP α g):=by
 refine CJ hfn hb hname fun args H fr path r hs=>?_
 unfold aP at hs
 split at hs
 case h_2=>cases hs
 rename_i S a
 split at hs
 case h_2=>cases hs
 rename_i k off n hS
 split at hs
 case h_2=>cases hs
 rename_i q ty cs o hx hk'
 split at hs
 case h_2=>cases hs
 rename_i xs hxs
 injection hs with hs
 refine ⟨[k],1,0,[],_,_,_,path,hs.symm,fun β us w ha hg hc=>?_⟩
 obtain ⟨u1,us1,r1,⟨u2,us2,r2,ha,rfl⟩,rfl⟩:=ha
 obtain ⟨m,r1⟩:=Dj hS r1
 obtain ⟨g1,g2,g3⟩:=OI hg hk' hxs
 exact ⟨[AK 0 off n m,va α q],Bm xs,h off n m xs q g1 (Nat.le_of_ble_eq_true hc.1) (Nat.le_of_ble_eq_true hc.2.1),hk _ _,⟨u1,_,BW (by omega) rfl r1,⟨u2,us2,Gu hx r2,ha,rfl⟩,rfl⟩,g2,g3⟩
def SJ4:List (FuncId×ASpec):=(20,Fu (aP P2 fun l r=>M2 (C5 (AL l) (mo r)) (IU (mo r))))::SJ3
theorem AKP:AM Tryz.prog SJ4:=⟨HF (AKO Tryz.func20 (by kernel_rfl) (by kernel_rfl) (fun _ _=>by kernel_rfl) fun _ _ _ _ r hx hl hn=>AKN hx hl hn r),sL⟩
end
noncomputable section
def rQ:Nat:=0x73eda753299d7d483339d80809a1d80553bda402fffe5bfeffffffff00000001
theorem sO:∃ n,n=rQ:=⟨_,rfl⟩
def rN:Nat:=Classical.choose sO
theorem rN_eq:rN=rQ:=Classical.choose_spec sO
def RL:List Int:=[0xffffffff00000001,0x53bda402fffe5bfe,0x3339d80809a1d805,0x73eda753299d7d48]
theorem sP:AL (AA RL 0 4)=rN:=(by kernel_rfl:AL (AA RL 0 4)=rQ).trans rN_eq.symm
def aQ:List Ch:=RL.map fun i=>.n .u64 i
theorem AKQ:AX Tryz.prog (AJ S0 K0) Tryz.f110 [] [] 100=some ([],.val true aQ):=by kernel_rfl
theorem AKR:AW Tryz.prog 110 [] (.val true aQ):=Ac (AN KU AZ) AE Tryz.func110 AKQ trivial rfl
def SJa:List (FuncId×ASpec):=(110,As (ev FP (.val true aQ)))::SJ4
theorem sQ:AM Tryz.prog SJa:=⟨Av Tryz.func110 (by kernel_rfl) (by kernel_rfl) (aE (α:=FP) AKR),AKP⟩
abbrev oJa:Orc:=AJ SJa KH
theorem sR:OrcOk Tryz.prog oJa:=AN sQ A3
def SJb:List (FuncId×ASpec):=(83,C0 Tryz.prog oJa Tryz.f83 100)::(85,C0 Tryz.prog oJa Tryz.f85 100)::SJa
theorem sS:AM Tryz.prog SJb:=⟨DG sR AE Tryz.func83 (by kernel_rfl) (by kernel_rfl) 100,DG sR AE Tryz.func85 (by kernel_rfl) (by kernel_rfl) 100,sQ⟩
abbrev oJb:Orc:=AJ SJb KH
theorem sU:OrcOk Tryz.prog oJb:=AN sS A3
def SJc:List (FuncId×ASpec):=(82,C0 Tryz.prog oJb Tryz.f82 300)::(84,C0 Tryz.prog oJb Tryz.f84 300)::SJb
theorem sV:AM Tryz.prog SJc:=⟨DG sU AE Tryz.func82 (by kernel_rfl) (by kernel_rfl) 300,DG sU AE Tryz.func84 (by kernel_rfl) (by kernel_rfl) 300,sS⟩
abbrev oJc:Orc:=AJ SJc KH
theorem U4:OrcOk Tryz.prog oJc:=AN sV A3
def CW (p:Pt FP):Bool:=CL p&&Bn (smul rN p)
def BX (p:P2):Bool:=Bg p&&CN (smul rN p)
def rW:List Int:=AA RL (0+0*1) (4-0)
theorem sW:AL rW=rN:=sP
section
variable (r:R P2) (x y:Nat) (i:Bool)
theorem AKS:AX Tryz.prog oJc Tryz.f27 [va P2 r] [true] 500=some (tt 2 [(decide (IU (mo r)=0),true)],CI (en (C5 (AL rW) (mo r)):R P2).2.2):=by kernel_rfl
theorem AKT:AX Tryz.prog oJc Tryz.f27 [va P2 r] [false] 500=some (tt 2 [(decide (IU (mo r)=0),false)],.val false [.b false]):=by kernel_rfl
theorem AKU:AX Tryz.prog oJc Tryz.f26 [Cy x y i] [true] 500=some (tt 2 [(decide (LE (Ai x y i)=0),true)],CI (Bn (JO (AL rW) (Ai x y i)))):=by kernel_rfl
theorem AKV:AX Tryz.prog oJc Tryz.f26 [Cy x y i] [false] 500=some (tt 2 [(decide (LE (Ai x y i)=0),false)],.val false [.b false]):=by kernel_rfl
end
theorem AKW (r:R P2):AW Tryz.prog 27 [va P2 r] (CI (BX (mo r))):=by
 have h1:=AKS r
 have h2:=AKT r
 generalize (mo r:P2)=p at *
 unfold BX
 cases ho:Bg p with
 | true =>
  have e:en (C5 (AL rW) p)=(en (smul rN p):R P2):=by unfold C5;rw [if_pos ho,sW]
  rw [e] at h1
  exact Ac U4 AE Tryz.func27 h1 (Ab 2 ⟨by unfold IU;rw [if_pos ho];rfl,trivial⟩) rfl
 | false=>exact ER (Ac U4 AE Tryz.func27 h2 (Ab 2 ⟨by unfold IU;rw [if_neg (by rw [ho];exact Bool.false_ne_true)];rfl,trivial⟩) rfl) fun u hu=>OK rfl hu
theorem AKX (x y:Nat) (i:Bool):AW Tryz.prog 26 [Cy x y i] (CI (CW (Ai x y i))):=by
 have h1:=AKU x y i
 have h2:=AKV x y i
 generalize Ai x y i=p at *
 unfold CW
 cases ho:CL p with
 | true =>
  have e:JO (AL rW) p=smul rN p:=by unfold JO;rw [if_pos ho,sW]
  rw [e] at h1
  exact Ac U4 AE Tryz.func26 h1 (Ab 2 ⟨by unfold LE;rw [if_pos ho];rfl,trivial⟩) rfl
 | false=>exact ER (Ac U4 AE Tryz.func26 h2 (Ab 2 ⟨by unfold LE;rw [if_neg (by rw [ho];exact Bool.false_ne_true)];rfl,trivial⟩) rfl) fun u hu=>OK rfl hu
def SJd:List (FuncId×ASpec):=(26,As (Qv fun p=>CI (CW p)))::(27,As (Dl P2 fun r=>CI (BX (mo r))))::SJc
theorem sX:AM Tryz.prog SJd:=⟨Av Tryz.func26 (by kernel_rfl) (by kernel_rfl) (Zm AKX),Av Tryz.func27 (by kernel_rfl) (by kernel_rfl) (EH AKW),sV⟩
end
end Go.Proofs.YtojnabmgolpodaaGreat
